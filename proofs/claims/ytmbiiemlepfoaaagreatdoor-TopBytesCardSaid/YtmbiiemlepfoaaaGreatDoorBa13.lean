/- The walk of graft.put into: of a bucket. How many pairs a trie's put leaves. The walk of graft.put into: of a branch; graft.Put. The walk of graft.put into of any node, of graft.Put. A whole row loaded, stored, as an arm of a walk. -/
import Derived.Test.YtmbiiemlepfoaaaGreatDoorBa12
import Derived.Test.YtmbiiemlepfoaaaGreatDoorBa07
import Derived.Deep.MidRow
import Derived.Deep.WholeRow

/-! The walk of graft.put into: of a bucket. -/
namespace Go.Proofs.YtmbiiemlepfoaaaGreatDoor
open Go.RowKit
set_option linter.unusedVariables false

set_option maxHeartbeats 2000000 in
set_option maxRecDepth 100000 in
theorem intoBucketFork (w : World) (D : Nat → Prop) (hD : ∀ j, w.heap.size ≤ j → D j) {mb : Option Nat} (ho : Off D mb) {vi c g h L b : Nat} (hm : Met w mb vi c) {kp vp : Option Addr} {kc vc : Nat} {k v : List UInt8} {t : T} (hi : InP w mb kp vp kc vc k v)
    (hx : N.At w D (.bucket g t) (ifp 226 b)) (hg : g < 18446744073709551616) (hh : h < 18446744073709551616) (hne : g ≠ h) (hL : L ≤ 13) (hsz : t.size < 1048576) (hp : ∃ j, L ≤ j ∧ j < 13 ∧ chunkM g j ≠ chunkM h j) :
    Calls Tryz.prog 108 #[putV h kp kc k vp vc v mb, ifp 226 b, .int .i64 (L : Int)] w (IntoR D (forkN (13 - L) (.bucket g t) g (.leaf h k v) h L, true) mb vi c w) := by
  obtain ⟨W2, hW2⟩ : ∃ x, x = w.alloc (putRow h kp kc k vp vc v mb) := ⟨_, rfl⟩
  have hB : Below w.heap.size w W2 := by rw [hW2]; exact (Below.refl _ w).alloc (Nat.le_refl _) _
  have r0 : W2.heap[w.heap.size]? = some (putRow h kp kc k vp vc v mb) := by rw [hW2]; exact heap_alloc_new _ _
  have hml := hm.lt
  have n0 : mb ≠ some w.heap.size := fun e => by have := hml _ e; omega
  have hgB := grown_of_below hB mb
  have HC := Lib.hid (show ∀ w', W2.grownBy w' mb → (w'.cell? ⟨w.heap.size, 0, none⟩ = some (.int .u64 (h : Int)) ∧ w'.cell? ⟨w.heap.size, 1, none⟩ = some (.slice kp k.length kc) ∧ w'.cell? ⟨w.heap.size, 2, none⟩ = some (.slice vp v.length vc) ∧ w'.cell? ⟨w.heap.size, 3, none⟩ = some (.pointer (mptr mb))) from fun w' hg => putAt_of (grown_row hg r0 n0))
  have up : ∀ w', W2.grownBy w' mb → w.grownBy w' mb := fun w' hg => grown_trans hgB hg
  have hD' : ∀ w', W2.grownBy w' mb → ∀ j, w'.heap.size ≤ j → D j := fun w' hg j hj => hD j (Nat.le_trans (up w' hg).size hj)
  have hkl := hi.kl
  have hvl := hi.vl
  have HM := Lib.hid (hm.below hB)
  have CH := Lib.hid (show ∀ w', W2.grownBy w' mb → Calls Tryz.prog 44 #[ifp 226 b] w' (fun e w'' => e = .returned (.tuple #[.int .u64 (g : Int), .bool true]) ∧ w' = w'') from fun w' hg => nodeHash w' (hx.grown ho (up w' hg)))
  have CL := Lib.hid (show ∀ w', W2.grownBy w' mb → Calls Tryz.prog 183 #[.int .u64 (h : Int), pairV kp kc k vp vc v] w' _ from fun w' hg => nodeLeaf w' D (hD' w' hg) h (hi.grown (up w' hg)).ik.b (hi.grown (up w' hg)).iv.b (by omega) (by omega))
  have CF := Lib.hid (show ∀ w' tb bb, W2.grownBy w' mb → N.At w' D (.leaf h k v) (ifp tb bb) → Calls Tryz.prog 185 #[ifp 226 b, .int .u64 (g : Int), ifp tb bb, .int .u64 (h : Int), .int .i64 (L : Int)] w' _ from fun w' tb bb hg' hb => graftFork D hg hh (by simp [N.count]; omega) (13 - L) L w' (hD' w' hg') (hx.grown ho (up w' hg')) hb (by omega) hp)
  have UP := Lib.hid up
  have q0 := mKind226
  have q1 := kindBucket
  have q2 := nil42
  have hg0 := grown_rfl W2 mb
  have g0 : ((g : Int) != (h : Int)) = true := by simp; omega
  clear hi hx hm hD hD' up hp hB hgB r0
  go_enter Tryz.func108, Tryz.ntmps108
  go_wp2_with fail
  rw [← hW2]
  clear hW2
  obtain ⟨s0, s1, s2, s3⟩ := HC.out _ hg0
  go_wp2_with first
    | (go_at_call 368; ((with_reducible refine (q1 _ _).mono ?_)); rintro e w1 ⟨rfl, rfl⟩)
    | (go_at_call 44; ((with_reducible refine (CH.out _ hg0).mono ?_)); rintro e w2 ⟨rfl, rfl⟩)
  have hg3 := grown_step hg0 (grown_dr _ _)
  go_region_held3 (fun w' => w'.cell? ⟨w.heap.size, 0, none⟩ = some (.int .u64 (h : Int)) ∧ w'.cell? ⟨w.heap.size, 1, none⟩ = some (.slice kp k.length kc) ∧ w'.cell? ⟨w.heap.size, 2, none⟩ = some (.slice vp v.length vc))
    (first | exact ⟨(HC.out _ (by assumption)).1, (HC.out _ (by assumption)).2.1, (HC.out _ (by assumption)).2.2.1⟩ | fail)
    (first | (go_at_call 183; ((with_reducible refine (CL.out _ hg3).mono ?_)); rintro e w4 ⟨t4, b4, rfl, hn4, hb4⟩; have HN4 := Lib.hid hn4; have HB4 := Lib.hid hb4; have hg4 := grown_step hg3 (grown_of_below hb4 mb); clear hn4 hb4) | (go_at_call 185; ((with_reducible refine (CF.out _ _ _ hg4 HN4.out).mono ?_)); rintro e w5 ⟨b5, rfl, hn5, hb5⟩; have HN5 := Lib.hid hn5; have HB5 := Lib.hid hb5; have hg5 := grown_step hg4 (grown_of_below hb5 mb); clear hn5 hb5) | fail)
  go_wp2
  go_ret2
  exact ⟨308, _, rfl, HN5.out, (HM.out.dr.below HB4.out).below HB5.out, UP.out _ hg5⟩

set_option maxHeartbeats 2000000 in
set_option maxRecDepth 100000 in
theorem intoBucketSame (w : World) (D : Nat → Prop) (hD : ∀ j, w.heap.size ≤ j → D j) {mb : Option Nat} (ho : Off D mb) {vi c h L b : Nat} (hm : Met w mb vi c) {kp vp : Option Addr} {kc vc : Nat} {k v : List UInt8} {t : T} (hi : InP w mb kp vp kc vc k v)
    (hx : N.At w D (.bucket h t) (ifp 226 b)) (hb : t.Bal) (hts : ∀ x ∈ t.list, x.1.length ≤ 1000000 ∧ x.2.length ≤ 1000000) (h2 : 2 ≤ t.size) (hsz : t.size < 1000000) (hvi : vi + t.size < 1000000000000) (hci : c + t.size < 1000000000000) :
    Calls Tryz.prog 108 #[putV h kp kc k vp vc v mb, ifp 226 b, .int .i64 (L : Int)] w (IntoR D (.bucket h (putT k v t), decide (t.size < (putT k v t).size)) mb (vi + pathT k t) (c + pathT k t) w) := by
  obtain ⟨W2, hW2⟩ : ∃ x, x = w.alloc (putRow h kp kc k vp vc v mb) := ⟨_, rfl⟩
  have hB : Below w.heap.size w W2 := by rw [hW2]; exact (Below.refl _ w).alloc (Nat.le_refl _) _
  have r0 : W2.heap[w.heap.size]? = some (putRow h kp kc k vp vc v mb) := by rw [hW2]; exact heap_alloc_new _ _
  have hml := hm.lt
  have n0 : mb ≠ some w.heap.size := fun e => by have := hml _ e; omega
  have hgB := grown_of_below hB mb
  have HC := Lib.hid (show ∀ w', W2.grownBy w' mb → (w'.cell? ⟨w.heap.size, 0, none⟩ = some (.int .u64 (h : Int)) ∧ w'.cell? ⟨w.heap.size, 1, none⟩ = some (.slice kp k.length kc) ∧ w'.cell? ⟨w.heap.size, 2, none⟩ = some (.slice vp v.length vc) ∧ w'.cell? ⟨w.heap.size, 3, none⟩ = some (.pointer (mptr mb))) from fun w' hg => putAt_of (grown_row hg r0 n0))
  have up : ∀ w', W2.grownBy w' mb → w.grownBy w' mb := fun w' hg => grown_trans hgB hg
  have hD' : ∀ w', W2.grownBy w' mb → ∀ j, w'.heap.size ≤ j → D j := fun w' hg j hj => hD j (Nat.le_trans (up w' hg).size hj)
  have hkl := hi.kl
  have hvl := hi.vl
  have hps := (putT_bal k v hb).2
  have HM2 := Lib.hid (hm.below hB)
  have CH := Lib.hid (show ∀ w', W2.grownBy w' mb → Calls Tryz.prog 44 #[ifp 226 b] w' (fun e w'' => e = .returned (.tuple #[.int .u64 (h : Int), .bool true]) ∧ w' = w'') from fun w' hg => nodeHash w' (hx.grown ho (up w' hg)))
  have CP := Lib.hid (show ∀ w', W2.grownBy w' mb → Calls Tryz.prog 45 #[ifp 226 b] w' _ from fun w' hg => nodePairNo w' D 226 b (.inl rfl))
  have CT := Lib.hid (show ∀ w', W2.grownBy w' mb → Calls Tryz.prog 48 #[ifp 226 b] w' _ from fun w' hg => nodeTree w' (hx.grown ho (up w' hg)))
  have CPu := Lib.hid (show ∀ w' p, W2.grownBy w' mb → Met w' mb vi c → TreeAt w' D p t → Calls Tryz.prog 20 #[.pointer p, pairV kp kc k vp vc v, .pointer (mptr mb)] w' (PutR D k v t mb vi c w') from fun w' p hg hmm ht => treePut w' D (hD' w' hg) ho hmm hb (by omega) hvi hci ht (hi.grown (up w' hg)))
  have CB := Lib.hid (show ∀ w' p, W2.grownBy w' mb → TreeAt w' D p (putT k v t) → Calls Tryz.prog 182 #[.int .u64 (h : Int), .pointer p] w' _ from fun w' p hg ht => nodeBucket2 w' D (hD' w' hg) h ht (putT_small hb hkl hvl hts) (by omega) (by omega))
  have CS := Lib.hid (fun (w' : World) (p : Option Addr) (t : T) (ht : TreeAt w' D p t) => treeSize w' ht)
  have UP := Lib.hid up
  have q0 := mKind226
  have q1 := kindBucket
  have q2 := nil42
  have hg0 := grown_rfl W2 mb
  have gd : decide ((t.size : Int) < ((putT k v t).size : Int)) = decide (t.size < (putT k v t).size) := by simp
  clear hi hx hm hD hD' up hB hgB r0 hb hts hps
  go_enter Tryz.func108, Tryz.ntmps108
  go_wp2_with fail
  rw [← hW2]
  clear hW2
  obtain ⟨s0, s1, s2, s3⟩ := HC.out _ hg0
  go_wp2_with first
    | (go_at_call 368; ((with_reducible refine (q1 _ _).mono ?_)); rintro e w1 ⟨rfl, rfl⟩)
    | (go_at_call 44; ((with_reducible refine (CH.out _ hg0).mono ?_)); rintro e w2 ⟨rfl, rfl⟩)
    | (go_at_call 45; ((with_reducible refine (CP.out _ hg0).mono ?_)); rintro e w3 ⟨rfl, hb3⟩; have hg5 := grown_new hg0 hb3 (.cells #[.slice none 0 0, .slice none 0 0] 61); obtain ⟨u0, u1, u2, u3⟩ := HC.out _ hg5; have HM5 := Lib.hid ((HM2.out.below hb3).below ((Below.refl _ _).alloc (Nat.le_refl _) (.cells #[.slice none 0 0, .slice none 0 0] 61))); clear hb3)
    | (go_at_call 48; ((with_reducible refine (CT.out _ hg5).mono ?_)); rintro e w4 ⟨p4, rfl, ht4, rfl⟩; have HT4 := Lib.hid ht4; clear ht4)
    | (go_at_call 20; ((with_reducible refine (CPu.out _ _ hg5 HM5.out HT4.out).mono ?_)); rintro e w6 ⟨b6, rfl, ht6, hm6, hg6⟩; have HT6 := Lib.hid ht6; have HT6o := Lib.hid (HT4.out.grown ho hg6); have HM6 := Lib.hid hm6; have hg6' := grown_step hg5 hg6; obtain ⟨x0, x1, x2, x3⟩ := HC.out _ hg6'; clear ht6 hm6)
    | (go_at_call 182; ((with_reducible refine (CB.out _ _ hg6' HT6.out).mono ?_)); rintro e w7 ⟨b7, rfl, hn7, hb7⟩; have HN7 := Lib.hid hn7; have HB7 := Lib.hid hb7; have HT7 := Lib.hid (HT6.out.below hb7); have HT7o := Lib.hid (HT6o.out.below hb7); clear hn7 hb7)
    | (go_at_call 64; first | (((with_reducible refine (CS.out _ _ _ HT7.out).mono ?_)); rintro e w8 ⟨rfl, rfl⟩) | (((with_reducible refine (CS.out _ _ _ HT7o.out).mono ?_)); rintro e w8 ⟨rfl, rfl⟩) | fail)
  go_ret2
  exact ⟨_, _, rfl, HN7.out, HM6.out.below HB7.out, UP.out _ (grown_step hg6' (grown_of_below HB7.out mb))⟩
end Go.Proofs.YtmbiiemlepfoaaaGreatDoor

/-! How many pairs a trie's put leaves. -/
namespace Go.Proofs.YtmbiiemlepfoaaaGreatDoor
set_option linter.unusedVariables false

theorem counts_app : ∀ (a b : List N), N.counts (a ++ b) = N.counts a + N.counts b
  | [], b => by simp [N.counts]
  | x :: xs, b => by simp only [List.cons_append, N.counts, counts_app xs b]; omega
theorem bitsUp_succ (k m : Nat) : bitsUp (k + 1) m = bitsUp k m ++ (if m.testBit k then [k] else []) := by
  unfold bitsUp
  rw [List.range_succ, List.filter_append]
  by_cases h : m.testBit k = true <;> simp [h]
def oldC (m : Nat) (ks : List N) (c : Nat) : Nat := match kidN m ks c with | some n => n.count | none => 0
theorem with_counts_up {m c : Nat} {ks : List N} (k : N) (hl : ks.length = cntUp 32 m) : ∀ n, n ≤ 32 →
    N.counts ((bitsUp n (m ||| 2 ^ c)).map fun i => if i = c then k else (ks[cntUp i m]?).getD k) + (if c < n then oldC m ks c else 0) = N.counts (ks.take (cntUp n m)) + (if c < n then k.count else 0)
  | 0, _ => by simp [bitsUp, cntUp, N.counts]
  | n + 1, hn => by
    have ih := with_counts_up (c := c) k hl n (by omega)
    rw [bitsUp_succ, List.map_append, counts_app, cnt_succ, with_bit]
    by_cases hnc : n = c
    · subst hnc
      simp only [Nat.lt_irrefl, if_false] at ih
      simp only [Nat.lt_succ_self, if_true]
      simp only [decide_true, Bool.or_true, if_true, List.map_cons, List.map_nil, counts1]
      unfold oldC kidN
      by_cases hb : m.testBit n = true
      · rw [if_pos hb, if_pos hb]
        have hlt := cnt_lt (i := n) (by omega) hb
        have hg : ks[cntUp n m]? = some (ks[cntUp n m]'(by omega)) := List.getElem?_eq_getElem (by omega)
        rw [hg]
        dsimp only
        have ht := counts_take hg
        omega
      · rw [if_neg hb, if_neg hb]
        dsimp only
        rw [Nat.add_zero (cntUp n m)]
        omega
    · have e1 : (c < n + 1) ↔ (c < n) := by omega
      simp only [e1]
      by_cases hb : m.testBit n = true
      · have hlt := cnt_lt (i := n) (by omega) hb
        have hg : ks[cntUp n m]? = some (ks[cntUp n m]'(by omega)) := List.getElem?_eq_getElem (by omega)
        have ht := counts_take hg
        simp only [hb, Bool.true_or, if_true, List.map_cons, List.map_nil, counts1, if_neg hnc, hg, Option.getD_some]
        omega
      · simp only [hb, hnc, decide_false, Bool.or_false, Bool.false_or, if_false, List.map_nil, N.counts]
        simp only [Bool.false_eq_true, if_false, List.map_nil, N.counts]
        omega
theorem with_counts {m c : Nat} {ks : List N} (k : N) (hc : c < 32) (hl : ks.length = cntUp 32 m) : N.counts (withN m ks c k) + oldC m ks c = N.counts ks + k.count := by
  have h := with_counts_up (c := c) k hl 32 (by omega)
  rw [if_pos hc, if_pos hc, ← hl, List.take_length] at h
  exact h
theorem into_count {h : Nat} {k v : List UInt8} : ∀ (n : N) (L : Nat), n.fit L → (n.into h k v L).1.count ≤ n.count + 1 := by
  refine N.ind ?_ ?_ ?_
  · intro g k' v' L hf
    by_cases e : g = h
    · simp only [N.into, if_pos e]
      split
      · simp [N.count]
      · rename_i h2
        simp only [N.count]
        have := put_one (v := v) (v' := v') h2
        omega
    · simp only [N.into, if_neg e]
      exact fork_count _ _ _ _ _ _
  · intro g t L hf
    unfold N.fit at hf
    by_cases e : g = h
    · simp only [N.into, if_pos e, N.count]
      have := (putT_bal k v hf.2.1).2
      omega
    · simp only [N.into, if_neg e]
      exact fork_count _ _ _ _ _ _
  · intro m ks ih L hf
    unfold N.fit at hf
    obtain ⟨h1, h2, h3, h4, h5, h6⟩ := hf
    rw [fits_iff] at h5
    rw [into_branch]
    simp only [N.count]
    have hw := with_counts (intoO h k v (kidN m ks (chunkM h L)) (L + 1)).1 (chunkM_lt h L) h3
    have : (intoO h k v (kidN m ks (chunkM h L)) (L + 1)).1.count ≤ oldC m ks (chunkM h L) + 1 := by
      unfold oldC
      rcases hk : kidN m ks (chunkM h L) with _ | n
      · simp [intoO, N.count]
      · have hm : n ∈ ks := by
          unfold kidN at hk
          split at hk
          · exact List.mem_of_getElem? hk
          · cases hk
        exact ih n hm (L + 1) (h5 n hm)
    omega
end Go.Proofs.YtmbiiemlepfoaaaGreatDoor

/-! The walk of graft.put into: of a branch; graft.Put. -/
namespace Go.Proofs.YtmbiiemlepfoaaaGreatDoor
open Go.RowKit
set_option linter.unusedVariables false

/-- What `into` says of a child that may be none, a level down. -/
def IntoOk (D : Nat → Prop) (mb : Option Nat) (h : Nat) (k v : List UInt8) (n : Option N) (L : Nat) : Prop :=
  ∀ (w : World) (hD : ∀ j, w.heap.size ≤ j → D j) (x : Value) (vi c : Nat) (kp vp : Option Addr) (kc vc : Nat), NodeAt w D n x → Met w mb vi c → vi < 999980000000 + L → c < 999980000000 → InP w mb kp vp kc vc k v → 2 < w.heap.size → TabAt 2 Lib.deBruijn32tab w →
    Calls Tryz.prog 108 #[putV h kp kc k vp vc v mb, x, .int .i64 (L : Int)] w (IntoR D (intoO h k v n L) mb (vi + (intoSO h k n L).1) (c + (intoSO h k n L).2) w)
theorem tab_grown {w w' : World} {mb : Option Nat} (h : TabAt 2 Lib.deBruijn32tab w) (h2 : 2 < w.heap.size) (hm : mb ≠ some 2) (g : w.grownBy w' mb) : TabAt 2 Lib.deBruijn32tab w' := tab_keep h (g.block 2 h2 fun e => hm e.symm)

set_option maxHeartbeats 2000000 in
set_option maxRecDepth 100000 in
theorem putBranch (w : World) (D : Nat → Prop) (hD : ∀ j, w.heap.size ≤ j → D j) {mb : Option Nat} (ho : Off D mb) (hm2 : mb ≠ some 2) {vi c h L b m : Nat} {ks : List N} (hm : Met w mb vi c) {kp vp : Option Addr} {kc vc : Nat} {k v : List UInt8} (hi : InP w mb kp vp kc vc k v)
    (hx : N.At w D (.branch m ks) (ifp 308 b)) (hf : (N.branch m ks).fit L) (hh : h < 18446744073709551616) (hsz : N.counts ks < 1048576) (h2 : 2 < w.heap.size) (hT : TabAt 2 Lib.deBruijn32tab w)
    (IH : IntoOk D mb h k v (kidN m ks (chunkM h L)) (L + 1)) (hvi : vi < 999980000000 + L) (hci : c < 999980000000) :
    Calls Tryz.prog 184 #[putV h kp kc k vp vc v mb, ifp 308 b, .int .i64 (L : Int)] w (IntoR D (.branch (m ||| 2 ^ chunkM h L) (withN m ks (chunkM h L) (intoO h k v (kidN m ks (chunkM h L)) (L + 1)).1), (intoO h k v (kidN m ks (chunkM h L)) (L + 1)).2) mb
      (vi + ((intoSO h k (kidN m ks (chunkM h L)) (L + 1)).1 + 1)) (c + (intoSO h k (kidN m ks (chunkM h L)) (L + 1)).2) w) := by
  obtain ⟨W2, hW2⟩ : ∃ x, x = w.alloc (putRow h kp kc k vp vc v mb) := ⟨_, rfl⟩
  have hB : Below w.heap.size w W2 := by rw [hW2]; exact (Below.refl _ w).alloc (Nat.le_refl _) _
  have r0 : W2.heap[w.heap.size]? = some (putRow h kp kc k vp vc v mb) := by rw [hW2]; exact heap_alloc_new _ _
  have hml := hm.lt
  have n0 : mb ≠ some w.heap.size := fun e => by have := hml _ e; omega
  have hgB := grown_of_below hB mb
  have HC := Lib.hid (show ∀ w', W2.grownBy w' mb → (w'.cell? ⟨w.heap.size, 0, none⟩ = some (.int .u64 (h : Int)) ∧ w'.cell? ⟨w.heap.size, 1, none⟩ = some (.slice kp k.length kc) ∧ w'.cell? ⟨w.heap.size, 2, none⟩ = some (.slice vp v.length vc) ∧ w'.cell? ⟨w.heap.size, 3, none⟩ = some (.pointer (mptr mb))) from fun w' hg => putAt_of (grown_row hg r0 n0))
  have up : ∀ w', W2.grownBy w' mb → w.grownBy w' mb := fun w' hg => grown_trans hgB hg
  have hD' : ∀ w', W2.grownBy w' mb → ∀ j, w'.heap.size ≤ j → D j := fun w' hg j hj => hD j (Nat.le_trans (up w' hg).size hj)
  have hf' := hf
  unfold N.fit at hf
  obtain ⟨f1, f2, f3, f4, f5, f6⟩ := hf
  rw [fits_iff] at f5
  have hch := chunkM_lt h L
  have CV := Lib.hid (metVisit W2 (hm.below hB) (by omega))
  have CH := Lib.hid (fun w => chunkAt w h L hh)
  have CK := Lib.hid (show ∀ w', W2.grownBy w' mb → Calls Tryz.prog 103 #[ifp 308 b, .int .i64 (chunkM h L : Int)] w' _ from fun w' hg => nodeKid w' (hx.grown ho (up w' hg)) f1 f3 hch)
  have CI := Lib.hid (show ∀ w' x, W2.grownBy w' mb → NodeAt w' D (kidN m ks (chunkM h L)) x → Met w' mb (vi + 1) c → Calls Tryz.prog 108 #[putV h kp kc k vp vc v mb, x, .int .i64 ((L : Int) + 1)] w' _ from fun w' x hg hn hmm => by
    have := IH w' (hD' w' hg) x (vi + 1) c kp vp kc vc hn hmm (by omega) (by omega) (hi.grown (up w' hg)) (Nat.lt_of_lt_of_le h2 (up w' hg).size) (tab_grown hT h2 hm2 (up w' hg))
    rwa [show ((L + 1 : Nat) : Int) = (L : Int) + 1 from by omega] at this)
  have hcn : N.counts (withN m ks (chunkM h L) (intoO h k v (kidN m ks (chunkM h L)) (L + 1)).1) < 4611686018427387904 := by
    have h1 := into_count (h := h) (k := k) (v := v) (N.branch m ks) L hf'
    rw [into_branch] at h1
    simp only [N.count] at h1
    omega
  have CW := Lib.hid (show ∀ w' kt kb, W2.grownBy w' mb → N.At w' D (intoO h k v (kidN m ks (chunkM h L)) (L + 1)).1 (ifp kt kb) → Calls Tryz.prog 252 #[ifp 308 b, .int .i64 (chunkM h L : Int), ifp kt kb] w' _ from fun w' kt kb hg hn => graftWith w' D (hD' w' hg) (hx.grown ho (up w' hg)) hf' hch hn (Nat.lt_of_lt_of_le h2 (up w' hg).size) (tab_grown hT h2 hm2 (up w' hg)) hcn)
  have g5 : IntKind.i64.wrap ((L : Int) + 1) = (L : Int) + 1 := IntWalk.i64_in _ (by omega)
  have UP := Lib.hid up
  have hg0 := grown_rfl W2 mb
  have ea : vi + ((intoSO h k (kidN m ks (chunkM h L)) (L + 1)).1 + 1) = vi + 1 + (intoSO h k (kidN m ks (chunkM h L)) (L + 1)).1 := by omega
  rw [ea]
  generalize withN m ks (chunkM h L) (intoO h k v (kidN m ks (chunkM h L)) (L + 1)).1 = wn at *
  generalize intoO h k v (kidN m ks (chunkM h L)) (L + 1) = r at *
  generalize intoSO h k (kidN m ks (chunkM h L)) (L + 1) = s at *
  generalize kidN m ks (chunkM h L) = kid at *
  generalize chunkM h L = ch at *
  generalize m ||| 2 ^ ch = m' at *
  clear hi hx hm hD hD' up hB hgB r0 IH hT f1 f2 f3 f4 f5 f6 hf' hcn ea hsz
  go_enter Tryz.func184, Tryz.ntmps184
  go_wp2_with fail
  rw [← hW2]
  clear hW2
  obtain ⟨s0, s1, s2, s3⟩ := HC.out _ hg0
  go_wp2_with first
    | (go_at_call 46; ((with_reducible refine (CV.out).mono ?_)); rintro e w1 ⟨rfl, hm1, hg1⟩; have HM1 := Lib.hid hm1; clear hm1; obtain ⟨t0, t1, t2, t3⟩ := HC.out _ hg1)
    | (go_at_call 104; ((with_reducible refine (CH.out _).mono ?_)); rintro e w2 ⟨rfl, rfl⟩)
    | (go_at_call 103; ((with_reducible refine (CK.out _ hg1).mono ?_)); rintro e w3 ⟨xv, rfl, hk3, nn, rfl⟩; have HK3 := Lib.hid hk3; have hg3 := grown_step hg1 (grown_drewN _ mb nn); have HM3 := Lib.hid (show Met (w1.drewN nn) mb (vi + 1) c from HM1.out); have HK3' := Lib.hid (hk3.below (below_drewN _ _ nn)); obtain ⟨u0, u1, u2, u3⟩ := HC.out _ hg3; clear hk3)
    | (go_at_call 108; ((with_reducible refine (CI.out _ _ hg3 HK3'.out HM3.out).mono ?_)); rintro e w4 ⟨t4, a4, rfl, hn4, hm4, hg4⟩; have HN4 := Lib.hid hn4; have HM4 := Lib.hid hm4; have hg4' := grown_step hg3 hg4; clear hn4 hm4)
    | (go_at_call 252; ((with_reducible refine (CW.out _ _ _ hg4' HN4.out).mono ?_)); rintro e w5 ⟨b5, rfl, hn5, hb5⟩; have HN5 := Lib.hid hn5; have HB5 := Lib.hid hb5; clear hn5 hb5)
  go_ret2
  exact ⟨308, _, rfl, HN5.out, HM4.out.below HB5.out, UP.out _ (grown_step hg4' (grown_of_below HB5.out mb))⟩
end Go.Proofs.YtmbiiemlepfoaaaGreatDoor

/-! The walk of graft.put into of any node, of graft.Put. -/
namespace Go.Proofs.YtmbiiemlepfoaaaGreatDoor
open Go.RowKit
set_option linter.unusedVariables false

set_option maxHeartbeats 2000000 in
set_option maxRecDepth 100000 in
theorem intoBranch (w : World) {mb : Option Nat} {vi c h L b : Nat} (hm : Met w mb vi c) {kp vp : Option Addr} {kc vc : Nat} {k v : List UInt8} {D : Nat → Prop} {r : N × Bool} {vi' c' : Nat}
    (CB : ∀ w', Below w.heap.size w w' → Calls Tryz.prog 184 #[putV h kp kc k vp vc v mb, ifp 308 b, .int .i64 (L : Int)] w' (IntoR D r mb vi' c' w')) :
    Calls Tryz.prog 108 #[putV h kp kc k vp vc v mb, ifp 308 b, .int .i64 (L : Int)] w (IntoR D r mb vi' c' w) := by
  obtain ⟨W2, hW2⟩ : ∃ x, x = w.alloc (putRow h kp kc k vp vc v mb) := ⟨_, rfl⟩
  have hB : Below w.heap.size w W2 := by rw [hW2]; exact (Below.refl _ w).alloc (Nat.le_refl _) _
  have r0 : W2.heap[w.heap.size]? = some (putRow h kp kc k vp vc v mb) := by rw [hW2]; exact heap_alloc_new _ _
  obtain ⟨s0, s1, s2, s3⟩ := putAt_of r0
  have C1 := Lib.hid (CB W2 hB)
  have HB := Lib.hid hB
  have q0 := mKind308
  have q1 := kindBranch
  have q2 := nil42
  clear CB hB r0 hm
  go_enter Tryz.func108, Tryz.ntmps108
  go_wp2_with fail
  rw [← hW2]
  clear hW2
  go_wp2_with first
    | (go_at_call 370; ((with_reducible refine (q1 _ _).mono ?_)); rintro e w1 ⟨rfl, rfl⟩)
    | (go_at_call 184; ((with_reducible refine (C1.out).mono ?_)); rintro e w3 ⟨t3, a3, rfl, hn3, hm3, hg3⟩; have HN3 := Lib.hid hn3; have HM3 := Lib.hid hm3; have HG3 := Lib.hid hg3; clear hn3 hm3 hg3)
  go_ret2
  exact ⟨_, _, rfl, HN3.out, HM3.out, grown_trans (grown_of_below HB.out mb) HG3.out⟩
theorem counts_mem {ks : List N} {n : N} (h : n ∈ ks) : n.count ≤ N.counts ks := by
  induction ks with
  | nil => simp at h
  | cons x xs ih =>
    simp only [N.counts]
    rcases List.mem_cons.1 h with rfl | h
    · omega
    · have := ih h; omega

theorem intoAll {D : Nat → Prop} {mb : Option Nat} (ho : Off D mb) (hm2 : mb ≠ some 2) {h : Nat} {k v : List UInt8} (hh : h < 18446744073709551616) : ∀ (n : N) (L : Nat), L ≤ 13 → n.fit L → n.Agree h L → n.count < 1000000 → IntoOk D mb h k v (some n) L := by
  refine N.ind ?_ ?_ ?_
  · intro g k' v' L hL hf ha hct w hD x vi c kp vp kc vc hx hm hvi hci hi h2 hT
    have hx' : N.At w D (.leaf g k' v') x := hx
    obtain ⟨b, rfl, _⟩ := hx'.form
    unfold N.fit at hf
    by_cases e : g = h
    · subst e
      have es : intoSO g k (some (.leaf g k' v')) L = (1, 1) := by simp [intoSO, N.intoS]
      rw [es]
      exact intoLeafSame w D hD ho hm (by omega) (by omega) hi hx' hf.2.1 hf.2.2 hh (fun e2 => by simp only [intoO, N.into, if_true]; rw [if_pos e2]) (fun e2 => by simp only [intoO, N.into, if_true]; rw [if_neg e2])
    · have es : intoSO h k (some (.leaf g k' v')) L = (1, 0) := by simp [intoSO, N.intoS, e]
      have er : intoO h k v (some (.leaf g k' v')) L = (forkN (13 - L) (.leaf g k' v') g (.leaf h k v) h L, true) := by simp only [intoO, N.into]; rw [if_neg e]
      rw [es]
      rw [er]
      exact intoLeafFork w D hD ho hm (by omega) hi hx' hf.1 hh e hL (parts hf.1 hh e (ha g (by simp [N.hashes])))
  · intro g t L hL hf ha hct w hD x vi c kp vp kc vc hx hm hvi hci hi h2 hT
    have hx' : N.At w D (.bucket g t) x := hx
    obtain ⟨b, rfl, _⟩ := hx'.form
    unfold N.fit at hf
    simp only [N.count] at hct
    have hpl := pathT_le k t
    by_cases e : g = h
    · subst e
      have es : intoSO g k (some (.bucket g t)) L = (pathT k t, pathT k t) := by simp [intoSO, N.intoS]
      have er : intoO g k v (some (.bucket g t)) L = (.bucket g (putT k v t), decide (t.size < (putT k v t).size)) := by simp only [intoO, N.into, if_true]
      rw [es]
      rw [er]
      exact intoBucketSame w D hD ho hm hi hx' hf.2.1 hf.2.2.1 hf.2.2.2 hct (by omega) (by omega)
    · have es : intoSO h k (some (.bucket g t)) L = (0, 0) := by simp [intoSO, N.intoS, e]
      have er : intoO h k v (some (.bucket g t)) L = (forkN (13 - L) (.bucket g t) g (.leaf h k v) h L, true) := by simp only [intoO, N.into]; rw [if_neg e]
      rw [es]
      rw [er]
      exact intoBucketFork w D hD ho hm hi hx' hf.1 hh e hL (by omega) (parts hf.1 hh e (ha g (by simp [N.hashes])))
  · intro m ks ih L hL hf ha hct w hD x vi c kp vp kc vc hx hm hvi hci hi h2 hT
    have hx' : N.At w D (.branch m ks) x := hx
    obtain ⟨b, rfl, _⟩ := hx'.form
    have hf' := hf
    unfold N.fit at hf
    obtain ⟨f1, f2, f3, f4, f5, f6⟩ := hf
    rw [fits_iff] at f5
    simp only [N.count] at hct
    have hch := chunkM_lt h L
    have key : IntoOk D mb h k v (kidN m ks (chunkM h L)) (L + 1) := by
      unfold kidN
      by_cases hb : m.testBit (chunkM h L) = true
      · rw [if_pos hb]
        obtain ⟨n, hn⟩ := with_old (c := 0) f3 hch hb
        rw [hn]
        have hmem := List.mem_of_getElem? hn
        refine ih n hmem (L + 1) (by omega) (f5 n hmem) (fun g hg j hj => ?_) (by have := counts_mem hmem; omega)
        rcases Nat.lt_or_ge j L with hjl | hjl
        · exact ha g (by simp only [N.hashes]; exact mem_hashess.2 ⟨n, hmem, hg⟩) j hjl
        · rw [show j = L from by omega]
          have e1 := f6 _ _ hn g hg
          rw [bits_at hch hb] at e1
          exact (Option.some.inj e1).symm
      · rw [if_neg hb]
        intro w hD x vi c kp vp kc vc hx hm hvi hci hi h2 hT
        obtain rfl : x = .nilIface := hx
        exact intoNil w D hD hm hi
    have er : intoO h k v (some (.branch m ks)) L = (N.branch m ks).into h k v L := rfl
    have es : intoSO h k (some (.branch m ks)) L = (N.branch m ks).intoS h k L := rfl
    rw [es, intoS_branch]
    rw [er, into_branch]
    dsimp only
    refine intoBranch w hm fun w' hb' => ?_
    have hbg := grown_of_below hb' mb
    exact putBranch w' D (fun j hj => hD j (Nat.le_trans hb'.size hj)) ho hm2 (hm.below hb') (hi.grown hbg) (hx'.below hb') hf' hh (by omega) (Nat.lt_of_lt_of_le h2 hb'.size) (tab_grown hT h2 hm2 hbg) key (by omega) (by omega)

def fitO : Option N → Prop
  | none => True
  | some n => n.fit 0 ∧ n.count < 1000000
theorem intoOk0 {D : Nat → Prop} {mb : Option Nat} (ho : Off D mb) (hm2 : mb ≠ some 2) {h : Nat} {k v : List UInt8} (hh : h < 18446744073709551616) {n : Option N} (hf : fitO n) : IntoOk D mb h k v n 0 := by
  cases n with
  | none =>
    intro w hD x vi c kp vp kc vc hx hm hvi hci hi h2 hT
    obtain rfl : x = .nilIface := hx
    exact intoNil w D hD hm hi
  | some n => exact intoAll ho hm2 hh n 0 (by omega) hf.1 (fun g hg j hj => by omega) hf.2

set_option maxHeartbeats 1000000 in
set_option maxRecDepth 100000 in
theorem graftPut (w : World) (D : Nat → Prop) (hD : ∀ j, w.heap.size ≤ j → D j) {mb : Option Nat} (ho : Off D mb) (hm2 : mb ≠ some 2) {vi c h : Nat} (hm : Met w mb vi c) {kp vp : Option Addr} {kc vc : Nat} {k v : List UInt8} (hi : InP w mb kp vp kc vc k v) {n : Option N} {x : Value} (hx : NodeAt w D n x) (hf : fitO n) (hh : h < 18446744073709551616)
    (hvi : vi < 999980000000) (hci : c < 999980000000) (h2 : 2 < w.heap.size) (hT : TabAt 2 Lib.deBruijn32tab w) :
    Calls Tryz.prog 55 #[x, .int .u64 (h : Int), pairV kp kc k vp vc v, .pointer (mptr mb)] w (IntoR D (intoO h k v n 0) mb (vi + (intoSO h k n 0).1) (c + (intoSO h k n 0).2) w) := by
  obtain ⟨W2, hW2⟩ : ∃ x, x = w.alloc (.cells #[.slice kp k.length kc, .slice vp v.length vc] 61) := ⟨_, rfl⟩
  have hB : Below w.heap.size w W2 := by rw [hW2]; exact (Below.refl _ w).alloc (Nat.le_refl _) _
  have hbg := grown_of_below hB mb
  have CI := Lib.hid (intoOk0 ho hm2 hh hf W2 (fun j hj => hD j (Nat.le_trans hB.size hj)) x vi c kp vp kc vc (hx.below hB) (hm.below hB) (by omega) hci (hi.grown hbg) (Nat.lt_of_lt_of_le h2 hB.size) (tab_grown hT h2 hm2 hbg))
  rw [show ((0 : Nat) : Int) = 0 from rfl] at CI
  have HG := Lib.hid hbg
  generalize intoO h k v n 0 = r at *
  generalize intoSO h k n 0 = s at *
  clear hi hx hm hD hB hbg hT hf
  go_enter Tryz.func55, Tryz.ntmps55
  go_wp2_with fail
  rw [← hW2]
  clear hW2
  go_wp2_with (go_at_call 108; ((with_reducible refine (CI.out).mono ?_)); rintro e w3 ⟨t3, a3, rfl, hn3, hm3, hg3⟩; have HN3 := Lib.hid hn3; have HM3 := Lib.hid hm3; have HG3 := Lib.hid hg3; clear hn3 hm3 hg3)
  go_ret2
  exact ⟨_, _, rfl, HN3.out, HM3.out, grown_trans HG.out HG3.out⟩
end Go.Proofs.YtmbiiemlepfoaaaGreatDoor

/-! A whole row loaded, stored, as an arm of a walk. -/
namespace Go.Proofs.YtmbiiemlepfoaaaGreatDoor
open Go.RowKit
set_option linter.unusedVariables false

theorem wp_store_row {P : Program} {op : Oper} {a : Act} {w : World} {K : Act → World → Prop} {Q : Exit → Act → World → Prop} (ty : TypeId) (x y : Operand) (ho : op.op = .store ty x y)
    (g : Nat) (hx : a.eval x = .pointer (some ⟨g, 0, none⟩)) (cells : Array Value) (hy : a.eval y = .agg cells) (t : TypeId) (old : Array Value) (hg : w.heap[g]? = some (.cells old t (0, 0)))
    (hi : (P.info? ty).map (·.size) = some cells.size) (hos : old.size = cells.size) (h1 : cells.all (·.oneCell') = true)
    (h : K (a.put op.dst undef) (w.setRow g cells)) : op.wp P a w K Q := by
  unfold Oper.wp execOp
  simp only [ho, hx, hy, Instr.storeAt, Instr.sureAddr, Sem.run_bind, Sem.run_pure, Result.andThen_ok, run_storeVar_row w g t ty old cells hg hi hos h1]
  exact h
theorem wpList_store_row {P : Program} {ops : Array Oper} {rest : List Oper} {op : Oper} {a : Act} {w : World} {Q : Exit → Act → World → Prop} (hgd : op.guard = none) (ty : TypeId) (x y : Operand) (ho : op.op = .store ty x y)
    (g : Nat) (hx : a.eval x = .pointer (some ⟨g, 0, none⟩)) (cells : Array Value) (hy : a.eval y = .agg cells) (t : TypeId) (old : Array Value) (hg : w.heap[g]? = some (.cells old t (0, 0)))
    (hi : (P.info? ty).map (·.size) = some cells.size) (hos : old.size = cells.size) (h1 : cells.all (·.oneCell') = true)
    (h : wpList P ops Q rest (a.put op.dst undef) (w.setRow g cells)) : wpList P ops Q (op :: rest) a w :=
  wpList_plain hgd fun _ hK => by
    unfold Oper.wp execOp
    simp only [ho, hx, hy, Instr.storeAt, Instr.sureAddr, Sem.run_bind, Sem.run_pure, Result.andThen_ok, run_storeVar_row w g t ty old cells hg hi hos h1]
    exact hK _ _ h
theorem setRow_other {w : World} {g k : Nat} {cs : Array Value} (h : k ≠ g) : (w.setRow g cs).heap[k]? = w.heap[k]? := by
  simp only [World.setRow, Array.getElem?_modify]
  rw [if_neg (fun e => h e.symm)]
theorem setRow_size (w : World) (g : Nat) (cs : Array Value) : (w.setRow g cs).heap.size = w.heap.size := by simp [World.setRow]
theorem below_setRow {n g : Nat} {w W : World} (h : Below n w W) (hn : n ≤ g) (cs : Array Value) : Below n w (W.setRow g cs) :=
  ⟨h.os, h.tape, h.output, by rw [setRow_size]; exact h.size, fun k hk => (setRow_other (by omega)).trans (h.block k hk)⟩
theorem info_105 : (Tryz.prog.info? 105).map (·.size) = some 16 := by kernel_rfl
theorem info_110 : (Tryz.prog.info? 110).map (·.size) = some 17 := by kernel_rfl
theorem info_112 : (Tryz.prog.info? 112).map (·.size) = some 18 := by kernel_rfl
theorem und_105 : Tryz.prog.underlying 105 = some (.array 16 5) := by kernel_rfl
theorem row_110 : (Tryz.prog.underlying 110).map (·.isRow) = some true := by kernel_rfl
theorem row_112 : (Tryz.prog.underlying 112).map (·.isRow) = some true := by kernel_rfl
theorem und_of {P : Program} {t : TypeId} (h : (P.underlying t).map (·.isRow) = some true) : ∃ d, P.underlying t = some d ∧ d.isRow = true := by
  cases hq : P.underlying t with
  | none => rw [hq] at h; cases h
  | some d => rw [hq] at h; exact ⟨d, rfl, Option.some.inj h⟩
theorem wpList_load110 {ops : Array Oper} {rest : List Oper} {o : Oper} {a : Act} {w : World} {Q : Exit → Act → World → Prop} (hgd : o.guard = none) (x : Operand) (ho : o.op = .load 110 x)
    (b f : Nat) (hx : a.eval x = .pointer (some ⟨b, f, none⟩)) (cs : List Value) (hc : w.rangeAt b f cs) (hl : cs.length = 17)
    (h : wpList Tryz.prog ops Q rest (a.put o.dst (.agg cs.toArray)) w) : wpList Tryz.prog ops Q (o :: rest) a w := by
  obtain ⟨d, hd, hr⟩ := und_of row_110
  exact wpList_load_mid hgd 110 x ho b f hx cs d hc hd hr (by rw [info_110, hl]) h
theorem wpList_load112 {ops : Array Oper} {rest : List Oper} {o : Oper} {a : Act} {w : World} {Q : Exit → Act → World → Prop} (hgd : o.guard = none) (x : Operand) (ho : o.op = .load 112 x)
    (b f : Nat) (hx : a.eval x = .pointer (some ⟨b, f, none⟩)) (cs : List Value) (hc : w.rangeAt b f cs) (hl : cs.length = 18)
    (h : wpList Tryz.prog ops Q rest (a.put o.dst (.agg cs.toArray)) w) : wpList Tryz.prog ops Q (o :: rest) a w := by
  obtain ⟨d, hd, hr⟩ := und_of row_112
  exact wpList_load_mid hgd 112 x ho b f hx cs d hc hd hr (by rw [info_112, hl]) h
theorem wpList_load105 {ops : Array Oper} {rest : List Oper} {o : Oper} {a : Act} {w : World} {Q : Exit → Act → World → Prop} (hgd : o.guard = none) (x : Operand) (ho : o.op = .load 105 x)
    (b f : Nat) (hx : a.eval x = .pointer (some ⟨b, f, none⟩)) (cs : List Value) (hc : w.rangeAt b f cs) (hl : cs.length = 16)
    (h : wpList Tryz.prog ops Q rest (a.put o.dst (.agg cs.toArray)) w) : wpList Tryz.prog ops Q (o :: rest) a w :=
  wpList_load_mid hgd 105 x ho b f hx cs _ hc und_105 rfl (by rw [info_105, hl]) h
theorem range_row {w : World} {b : Nat} {cs : List Value} {t : TypeId} {fr : Nat × Nat} (h : w.heap[b]? = some (.cells cs.toArray t fr)) : w.rangeAt b 0 cs := fun j v hv => by
  rw [Nat.zero_add, cell_of_row w b j _ _ fr h]
  simpa using hv
theorem results_row1 {P : Program} {fn : Func} {p : Tmp} {ty : TypeId} (h : fn.results = #[.cell p ty]) (tmps : Array Value) (w : World) (g : Nat) (t : TypeId) (cs : List Value) (fr : Nat × Nat)
    (hp : tmps.getD p undef = .pointer (some ⟨g, 0, none⟩)) (hg : w.heap[g]? = some (.cells cs.toArray t fr)) (hu : (P.underlying ty).map (·.isRow) = some true) (hi : (P.info? ty).map (·.size) = some cs.length) :
    (results fn tmps).run P w = .ok (.agg cs.toArray) w := by
  obtain ⟨d, hd, hr⟩ := und_of hu
  have hp' : tmps[p]?.getD undef = .pointer (some ⟨g, 0, none⟩) := by simpa using hp
  simp [results, h, hp', asAddr, run_loadVar_mid w g 0 ty cs d (range_row hg) hd hr hi]
theorem results_row2 {P : Program} {fn : Func} {p q : Tmp} {ty : TypeId} (h : fn.results = #[.cell p ty, .tmp q]) (tmps : Array Value) (w : World) (g : Nat) (t : TypeId) (cs : List Value) (fr : Nat × Nat)
    (hp : tmps.getD p undef = .pointer (some ⟨g, 0, none⟩)) (hg : w.heap[g]? = some (.cells cs.toArray t fr)) (hu : (P.underlying ty).map (·.isRow) = some true) (hi : (P.info? ty).map (·.size) = some cs.length) :
    (results fn tmps).run P w = .ok (.tuple #[.agg cs.toArray, tmps.getD q undef]) w := by
  obtain ⟨d, hd, hr⟩ := und_of hu
  have hp' : tmps[p]?.getD undef = .pointer (some ⟨g, 0, none⟩) := by simpa using hp
  simp [results, h, hp', asAddr, run_loadVar_mid w g 0 ty cs d (range_row hg) hd hr hi]
theorem fold_get : ∀ (sv : List Value) (n : Nat) (A : Array Value) (i : Nat), n + sv.length ≤ A.size → (List.foldl (fun cs x => cs.setIfInBounds x.snd x.fst) A (sv.zipIdx n))[i]? = if n ≤ i ∧ i < n + sv.length then sv[i - n]? else A[i]?
  | [], n, A, i, _ => by
    simp only [List.zipIdx_nil, List.foldl_nil, List.length_nil]
    rw [if_neg (by omega)]
  | v :: sv, n, A, i, h => by
    simp only [List.length_cons] at h
    rw [List.zipIdx_cons, List.foldl_cons, fold_get sv (n + 1) _ i (by rw [Array.size_setIfInBounds]; omega)]
    simp only [List.length_cons]
    by_cases h1 : i = n
    · subst h1
      rw [if_neg (by omega), if_pos (by omega), Array.getElem?_setIfInBounds, if_pos rfl, if_pos (by omega)]
      simp
    · by_cases h2 : n + 1 ≤ i ∧ i < n + 1 + sv.length
      · rw [if_pos h2, if_pos (by omega), show i - n = (i - (n + 1)) + 1 from by omega, List.getElem?_cons_succ]
      · rw [if_neg h2, if_neg (by omega), Array.getElem?_setIfInBounds, if_neg (by omega)]
theorem fold_all {sv : List Value} {A : Array Value} {x : Value} (hA : A.size = sv.length + 1) (hx : A[sv.length]? = some x) : List.foldl (fun cs x => cs.setIfInBounds x.snd x.fst) A sv.zipIdx = (sv ++ [x]).toArray := by
  apply Array.ext_getElem?
  intro i
  rw [fold_get sv 0 A i (by omega)]
  simp only [List.getElem?_toArray]
  by_cases h : i < sv.length
  · rw [if_pos (by omega), List.getElem?_append_left h]; simp
  · rw [if_neg (by omega), List.getElem?_append_right (by omega)]
    by_cases h2 : i = sv.length
    · subst h2; rw [hx]; simp
    · rw [Array.getElem?_eq_none (by omega), List.getElem?_eq_none (by simp; omega)]
theorem fold17 {sv : List Value} (hs : sv.length = 16) (x : Value) : List.foldl (fun cs x => cs.setIfInBounds x.snd x.fst) (#[.int .u8 0, .int .u8 0, .int .u8 0, .int .u8 0, .int .u8 0, .int .u8 0, .int .u8 0, .int .u8 0, .int .u8 0, .int .u8 0, .int .u8 0, .int .u8 0, .int .u8 0, .int .u8 0, .int .u8 0, .int .u8 0, x] : Array Value) sv.zipIdx = (sv ++ [x]).toArray := fold_all (by rw [hs]; rfl) (by rw [hs]; rfl)
theorem fold18 {sv : List Value} (hs : sv.length = 17) (x : Value) : List.foldl (fun cs x => cs.setIfInBounds x.snd x.fst) (#[.int .u8 0, .int .u8 0, .int .u8 0, .int .u8 0, .int .u8 0, .int .u8 0, .int .u8 0, .int .u8 0, .int .u8 0, .int .u8 0, .int .u8 0, .int .u8 0, .int .u8 0, .int .u8 0, .int .u8 0, .int .u8 0, .nilIface, x] : Array Value) sv.zipIdx = (sv ++ [x]).toArray := fold_all (by rw [hs]; rfl) (by rw [hs]; rfl)
end Go.Proofs.YtmbiiemlepfoaaaGreatDoor
