/- The walks of Hash, Pair, Tree, Kid of what they are not meant for. The walk of a tree's Get. The walks of find.way, find.Get. The walks of the reference's times, length, Bound, Held. -/
import Derived.Test.YtmbiiemlepfoaaaGreatDoorFl08
import Derived.Test.YtmbiiemlepfoaaaGreatDoorFl18
import Derived.Deep.LoopGhost
import Derived.Test.YtmbiiemlepfoaaaGreatDoorFl19
import Derived.Test.YtmbiiemlepfoaaaGreatDoorProg
import Derived.Test.YtmbiiemlepfoaaaGreatDoorFl02
import Derived.WalkKit
import Derived.Below
import Derived.Lib.Hide
import Derived.Maps.AppendAt
import Derived.Deep.AppendLies
import Derived.Deep.QuietTactic
import Derived.BigQuiet
import Derived.WalkLawsBesides
import Derived.WalkSpells
import Derived.Outline

namespace Go.Proofs.YtmbiiemlepfoaaaGreatDoor
open Go.RowKit
set_option linter.unusedVariables false
def hashO : Option N → Option Nat
  | some n => n.hashO
  | none => none
set_option maxRecDepth 100000 in
theorem nodeHash0 (w : World) : Calls Tryz.prog 44 #[.nilIface] w fun e w' => e = .returned (hashV none) ∧ w = w' := by
  have q0 := ta0_223
  have q1 := ta0_226
  go_enter Tryz.func44, Tryz.ntmps44
  go_wp2
  go_ret2
  exact ⟨rfl, rfl⟩
set_option maxHeartbeats 1000000 in
set_option maxRecDepth 100000 in
theorem nodePair0 (w : World) : Calls Tryz.prog 45 #[.nilIface] w fun e w' => e = .returned (.tuple #[.agg #[.slice none 0 0, .slice none 0 0], .bool false]) ∧ Below w.heap.size w w' := by
  have q0 := ta0_223
  go_enter Tryz.func45, Tryz.ntmps45
  go_wp2
  refine bodyPost_ret (v := .tuple #[.agg #[.slice none 0 0, .slice none 0 0], .bool false]) ?_ rfl ?_
  · rw [results_cell_tmp rfl]
    simp [go_sem, asAddr, Result.andThen]
  exact ⟨rfl, (Below.refl _ w).alloc (Nat.le_refl _) _⟩
set_option maxRecDepth 100000 in
theorem nodeTreeNo (w : World) (t b : Nat) (ht : t = 223 ∨ t = 308) : Calls Tryz.prog 48 #[ifp t b] w fun e w' => e = .returned (.tuple #[.pointer none, .bool false]) ∧ w = w' := by
  have q0 := ta223_226
  have q1 := ta308_226
  rcases ht with rfl | rfl
  all_goals
    go_enter Tryz.func48, Tryz.ntmps48
    go_wp2
    go_ret2
    exact ⟨rfl, rfl⟩
set_option maxRecDepth 100000 in
theorem nodeTree0 (w : World) : Calls Tryz.prog 48 #[.nilIface] w fun e w' => e = .returned (.tuple #[.pointer none, .bool false]) ∧ w = w' := by
  have q0 := ta0_226
  go_enter Tryz.func48, Tryz.ntmps48
  go_wp2
  go_ret2
  exact ⟨rfl, rfl⟩
theorem bitsBitOut (w : World) (i : Int) (hi : i < 0 ∨ 32 ≤ i) : Calls Tryz.prog 247 #[.int .i64 i] w fun e w' => e = .returned (.int .u32 0) ∧ w = w' := by
  rcases hi with h | h
  · go_enter Tryz.func247, Tryz.ntmps247
    go_wp2
    go_ret
    exact ⟨rfl, rfl⟩
  · have g0 : ¬ i < 0 := by omega
    go_enter Tryz.func247, Tryz.ntmps247
    go_wp2
    go_ret
    exact ⟨rfl, rfl⟩
theorem bitsHasOut (w : World) (m : Nat) (hm : m < 4294967296) (i : Int) (hi : i < 0 ∨ 32 ≤ i) : Calls Tryz.prog 177 #[.int .u32 (m : Int), .int .i64 i] w fun e w' => e = .returned (.bool false) ∧ w = w' := by
  have CB := Lib.hid (fun w => bitsBitOut w i hi)
  have h1 := u32_and_nat m 0 hm (by decide)
  rw [Nat.and_zero] at h1
  clear hi
  go_enter Tryz.func177, Tryz.ntmps177
  go_wp2_with (go_at_call 247; ((with_reducible refine (CB.out _).mono ?_)); rintro e w1 ⟨rfl, rfl⟩)
  go_ret
  first | exact ⟨rfl, rfl⟩ | simp_all
set_option maxRecDepth 100000 in
theorem nodeKidOut (w : World) {D : Nat → Prop} {m : Nat} {ks : List N} {x : Value} (hx : N.At w D (.branch m ks) x) (hm : m < 4294967296) (i : Int) (hi : i < 0 ∨ 32 ≤ i) :
    Calls Tryz.prog 103 #[x, .int .i64 i] w fun e w' => e = .returned (.tuple #[.nilIface, .bool false]) ∧ w = w' := by
  unfold N.At at hx
  obtain ⟨b, p, pc, vs, rfl, _, hr, hv, ha⟩ := hx
  have q0 := ta308_308
  have c0 : w.cell? ⟨b, 0, none⟩ = some (.int .u32 (m : Int)) := cell_of_row w b 0 _ _ (0, 0) hr
  have CH := Lib.hid (fun w => bitsHasOut w m hm i hi)
  clear hv ha hr hi hm
  go_enter Tryz.func103, Tryz.ntmps103
  go_wp2_with (go_at_call 177; ((with_reducible refine (CH.out _).mono ?_)); rintro e w1 ⟨rfl, rfl⟩)
  go_ret2
  exact ⟨rfl, rfl⟩
def getT (k : List UInt8) : T → Option (List UInt8)
  | .nil => none
  | .node l k' v' r => if Lib.compareBytes k k' = 0 then some v' else if Lib.compareBytes k k' = 1 then getT k r else getT k l
def LookR (D : Nat → Prop) (o : Option (List UInt8)) (mb : Option Nat) (vi c : Nat) (w : World) (e : Ending) (w' : World) : Prop :=
  ∃ p q, e = .returned (.tuple #[.slice p (o.getD []).length q, .bool o.isSome]) ∧ IsD w' D p q (o.getD []) ∧ (o = none → p = none ∧ q = 0) ∧ Met w' mb vi c ∧ w.grownBy w' mb
theorem isD_nil (w : World) (D : Nat → Prop) : IsD w D none 0 [] := ⟨IsB.none_ w, fun a h => by cases h⟩
set_option maxHeartbeats 2000000 in
set_option maxRecDepth 100000 in
theorem treeGet {mb : Option Nat} (D : Nat → Prop) (ho : Off D mb) {D2 : Nat → Prop} (ho2 : Off D2 mb) {k : List UInt8} {kp : Option Addr} {kc : Nat} (t : T) (w : World) (hD : ∀ j, w.heap.size ≤ j → D j) (vi c : Nat) (hm : Met w mb vi c) (hvi : vi + t.size < 999999999999) (hci : c + t.size < 999999999999) (p : Option Addr) (ht : TreeAt w D p t) (hsm : t.Small) (hk : IsD w D2 kp kc k) :
    Calls Tryz.prog 49 #[.pointer p, .slice kp k.length kc, .pointer (mptr mb)] w (LookR D (getT k t) mb (vi + pathT k t) (c + pathT k t) w) := by
  have HK := Lib.hid hk
  have HT := Lib.hid ht
  have HSM := Lib.hid hsm
  have HM := Lib.hid hm
  have HD := Lib.hid hD
  obtain ⟨V, hV⟩ : ∃ x, x = vi + pathT k t := ⟨_, rfl⟩
  obtain ⟨C, hC⟩ : ∃ x, x = c + pathT k t := ⟨_, rfl⟩
  obtain ⟨G, hG⟩ : ∃ x, x = getT k t := ⟨_, rfl⟩
  have hpl := pathT_le k t
  rw [← hV, ← hC, ← hG]
  have H0 := Lib.hid (show vi + pathT k t = V ∧ c + pathT k t = C ∧ getT k t = G ∧ V < 999999999999 ∧ C < 999999999999 from ⟨hV.symm, hC.symm, hG.symm, by omega, by omega⟩)
  clear hk ht hsm hm hD hV hC hG hpl
  go_enter Tryz.func49, Tryz.ntmps49
  go_wp2_with fail
  go_loopg [0] (t.size + 1) (fun n v0 wr => ∃ (t' : T) (p' : Option Addr) (vi' c' : Nat), v0 = .pointer p' ∧ w.grownBy wr mb ∧ TreeAt wr D p' t' ∧ t'.Small ∧ Met wr mb vi' c' ∧ Hid (vi' + pathT k t' = V ∧ c' + pathT k t' = C ∧ getT k t' = G ∧ V < 999999999999 ∧ C < 999999999999) ∧ t'.size < n)
  case atStart => exact ⟨t, p, vi, c, rfl, grown_rfl _ _, HT.out, HSM.out, HM.out, H0, by omega⟩
  case round =>
    obtain ⟨t', p', vi', c', rfl, hg, ht, hsm, hm, hq, hn⟩ := hrel
    have HG := Lib.hid hg
    cases t' with
    | nil =>
      obtain rfl : p' = none := ht
      have HM' := Lib.hid hm
      clear hg hm hn hsm
      go_wp2
      go_ret2
      obtain ⟨rfl, rfl, rfl, _⟩ := hq.out
      exact ⟨none, 0, rfl, isD_nil _ _, fun _ => ⟨rfl, rfl⟩, HM'.out, HG.out⟩
    | node l k' v' r =>
      obtain ⟨tb, kp2, kc2, vp2, vc2, lp, rp, rfl, hdt, trow, hk2, hv2, hl, hr⟩ := id ht
      have n1 : mb ≠ some tb := fun e => ho _ e hdt
      have HC := Lib.hid (show ∀ w', wr.grownBy w' mb → (w'.cell? ⟨tb, 0, none⟩ = some (.slice kp2 k'.length kc2) ∧ w'.cell? ⟨tb, 1, none⟩ = some (.slice vp2 v'.length vc2) ∧ w'.cell? ⟨tb, 2, none⟩ = some (.pointer lp) ∧ w'.cell? ⟨tb, 3, none⟩ = some (.pointer rp)) from fun w' hg => by
        have r1' := grown_row hg trow n1
        exact ⟨cell_of_row w' _ 0 _ _ (0, 0) r1', cell_of_row w' _ 1 _ _ (0, 0) r1', cell_of_row w' _ 2 _ _ (0, 0) r1', cell_of_row w' _ 3 _ _ (0, 0) r1'⟩)
      have hp1 : 1 ≤ pathT k (.node l k' v' r) := by unfold pathT; (repeat' split) <;> omega
      have hbd : vi' < 1000000000000 ∧ c' < 1000000000000 := by obtain ⟨h1, h2, _, h4, h5⟩ := hq.out; omega
      have CV := Lib.hid (metVisit wr hm hbd.1)
      have CC := Lib.hid (show ∀ w', wr.grownBy w' mb → Met w' mb (vi' + 1) c' → Calls Tryz.prog 47 #[.pointer (mptr mb), .slice kp k.length kc, .slice kp2 k'.length kc2] w' _ from fun w' hg2 hmm => metCompare w' hmm hbd.2 ho2 ho (HK.out.grown ho2 (grown_trans hg hg2)) (hk2.grown ho hg2))
      have CL := Lib.hid (show ∀ w', wr.grownBy w' mb → Calls Tryz.prog 80 #[.slice vp2 v'.length vc2] w' _ from fun w' hg2 => clone_new w' w' D (fun j hj => HD.out j (Nat.le_trans (grown_trans hg hg2).size hj)) (Nat.le_refl _) (hv2.grown ho hg2).b hsm.here.2)
      have HL := Lib.hid (And.intro hl hsm.left)
      have HR := Lib.hid (And.intro hr hsm.right)
      have hszl : l.size + 1 + r.size < gk := hn
      have hcr := cmp_range k k'
      clear hg ht hsm hm hn hk2 hv2 hl hr trow hp1 hbd
      have HQ := Lib.hid hq.out
      clear hq
      generalize hx : Lib.compareBytes k k' = x at *
      have eP : pathT k (.node l k' v' r) = if x = 0 then 1 else if x = 1 then 1 + pathT k r else 1 + pathT k l := by rw [pathT, hx]
      have eG : getT k (.node l k' v' r) = if x = 0 then some v' else if x = 1 then getT k r else getT k l := by rw [getT, hx]
      have QQ := Lib.hid (And.intro eP eG)
      clear eP eG hx
      rcases hcr with rfl | rfl | rfl
      · go_wp2_with first
          | (go_at_call 46; ((with_reducible refine (CV.out).mono ?_)); rintro e w1 ⟨rfl, hm1, hg1⟩; have HM1 := Lib.hid hm1; have HG1 := Lib.hid hg1; obtain ⟨d0, d1, d2, d3⟩ := HC.out _ hg1; clear hm1 hg1)
          | (go_at_call 47; ((with_reducible refine (CC.out _ HG1.out HM1.out).mono ?_)); rintro e w2 ⟨rfl, hm2, hg2⟩; have HM2 := Lib.hid hm2; have HG2 := Lib.hid (grown_trans HG1.out hg2); obtain ⟨d0, d1, d2, d3⟩ := HC.out _ HG2.out; clear hm2 hg2)
          | fail
        go_roundg (l.size + 1)
        case rel =>
          obtain ⟨h1, h2, h3, h4, h5⟩ := HQ.out
          obtain ⟨e1, e2⟩ := QQ.out
          rw [if_neg (by decide), if_neg (by decide)] at e1 e2
          rw [e1] at h1 h2
          rw [e2] at h3
          exact ⟨l, lp, vi' + 1, c' + 1, rfl, grown_trans HG.out HG2.out, HL.out.1.grown ho HG2.out, HL.out.2, HM2.out, Lib.hid ⟨by omega, by omega, h3, h4, h5⟩, by omega⟩
        case measure => omega
      · go_wp2_with first
          | (go_at_call 46; ((with_reducible refine (CV.out).mono ?_)); rintro e w1 ⟨rfl, hm1, hg1⟩; have HM1 := Lib.hid hm1; have HG1 := Lib.hid hg1; obtain ⟨d0, d1, d2, d3⟩ := HC.out _ hg1; clear hm1 hg1)
          | (go_at_call 47; ((with_reducible refine (CC.out _ HG1.out HM1.out).mono ?_)); rintro e w2 ⟨rfl, hm2, hg2⟩; have HM2 := Lib.hid hm2; have HG2 := Lib.hid (grown_trans HG1.out hg2); obtain ⟨d0, d1, d2, d3⟩ := HC.out _ HG2.out; clear hm2 hg2)
          | (go_at_call 80; ((with_reducible refine (CL.out _ HG2.out).mono ?_)); rintro e w3 ⟨q3, c3, rfl, hv3, hb3⟩; have HV3 := Lib.hid hv3; have HB3 := Lib.hid hb3; clear hv3 hb3)
          | fail
        go_ret2
        obtain ⟨h1, h2, h3, h4, h5⟩ := HQ.out
        obtain ⟨e1, e2⟩ := QQ.out
        rw [if_pos trivial] at e1 e2
        rw [e1] at h1 h2
        rw [e2] at h3
        subst h1 h2 h3
        exact ⟨_, _, rfl, HV3.out, fun h => (by cases h), HM2.out.below HB3.out, grown_trans (grown_trans HG.out HG2.out) (grown_of_below HB3.out mb)⟩
      · go_wp2_with first
          | (go_at_call 46; ((with_reducible refine (CV.out).mono ?_)); rintro e w1 ⟨rfl, hm1, hg1⟩; have HM1 := Lib.hid hm1; have HG1 := Lib.hid hg1; obtain ⟨d0, d1, d2, d3⟩ := HC.out _ hg1; clear hm1 hg1)
          | (go_at_call 47; ((with_reducible refine (CC.out _ HG1.out HM1.out).mono ?_)); rintro e w2 ⟨rfl, hm2, hg2⟩; have HM2 := Lib.hid hm2; have HG2 := Lib.hid (grown_trans HG1.out hg2); obtain ⟨d0, d1, d2, d3⟩ := HC.out _ HG2.out; clear hm2 hg2)
          | fail
        go_roundg (r.size + 1)
        case rel =>
          obtain ⟨h1, h2, h3, h4, h5⟩ := HQ.out
          obtain ⟨e1, e2⟩ := QQ.out
          rw [if_neg (by decide), if_pos trivial] at e1 e2
          rw [e1] at h1 h2
          rw [e2] at h3
          exact ⟨r, rp, vi' + 1, c' + 1, rfl, grown_trans HG.out HG2.out, HR.out.1.grown ho HG2.out, HR.out.2, HM2.out, Lib.hid ⟨by omega, by omega, h3, h4, h5⟩, by omega⟩
        case measure => omega
inductive Way (h : Nat) : Option N → Nat → Option N → Nat → Prop
  | none (L : Nat) : Way h none L none 0
  | leaf (g : Nat) (k v : List UInt8) (L : Nat) : Way h (some (.leaf g k v)) L (some (.leaf g k v)) 0
  | bucket (g : Nat) (t : T) (L : Nat) : Way h (some (.bucket g t)) L (some (.bucket g t)) 0
  | branch (m : Nat) (ks : List N) (L : Nat) (r : Option N) (s : Nat) : Way h (kidN m ks (chunkM h L)) (L + 1) r s → Way h (some (.branch m ks)) L r (s + 1)
def fitsO (n : Option N) (L : Nat) : Prop := ∀ m, n = some m → m.fit L
theorem kid_fits {m L c : Nat} {ks : List N} (hf : (N.branch m ks).fit L) : fitsO (kidN m ks c) (L + 1) := by
  unfold N.fit at hf
  obtain ⟨f1, f2, f3, f4, f5, f6⟩ := hf
  rw [fits_iff] at f5
  intro n hn
  unfold kidN at hn
  split at hn
  · exact f5 n (List.mem_of_getElem? hn)
  · cases hn
def endO : Option N → Prop
  | some (.branch _ _) => False
  | _ => True
theorem way_ex (h : Nat) : ∀ (f : Nat) (n : Option N) (L : Nat), fitsO n L → L + f = 13 → ∃ r s, Way h n L r s ∧ fitsO r 0 ∧ endO r ∧ s ≤ f := by
  intro f
  induction f with
  | zero =>
    intro n L hf hL
    cases n with
    | none => exact ⟨_, _, .none L, fun m e => (by cases e), trivial, Nat.le_refl _⟩
    | some n =>
      have h1 := hf n rfl
      cases n with
      | leaf g k v => exact ⟨_, _, .leaf g k v L, fun m e => (by cases e; exact h1), trivial, Nat.le_refl _⟩
      | bucket g t => exact ⟨_, _, .bucket g t L, fun m e => (by cases e; exact h1), trivial, Nat.le_refl _⟩
      | branch m ks => unfold N.fit at h1; omega
  | succ f ih =>
    intro n L hf hL
    cases n with
    | none => exact ⟨_, _, .none L, fun m e => (by cases e), trivial, Nat.zero_le _⟩
    | some n =>
      have h1 := hf n rfl
      cases n with
      | leaf g k v => exact ⟨_, _, .leaf g k v L, fun m e => (by cases e; exact h1), trivial, Nat.zero_le _⟩
      | bucket g t => exact ⟨_, _, .bucket g t L, fun m e => (by cases e; exact h1), trivial, Nat.zero_le _⟩
      | branch m ks =>
        obtain ⟨r, s, hw, h2, h3, h4⟩ := ih (kidN m ks (chunkM h L)) (L + 1) (kid_fits h1) (by omega)
        exact ⟨r, s + 1, .branch m ks L r s hw, h2, h3, by omega⟩
def endG (h : Nat) (k : List UInt8) : Option N → Option (List UInt8)
  | some (.leaf g k' v') => if g = h ∧ Lib.compareBytes k k' = 0 then some v' else none
  | some (.bucket g t) => if g = h then getT k t else none
  | _ => none
def endS (h : Nat) (k : List UInt8) : Option N → Nat × Nat
  | some (.leaf g k' v') => (1, if g = h then 1 else 0)
  | some (.bucket g t) => if g = h then (pathT k t, pathT k t) else (0, 0)
  | _ => (0, 0)
theorem way_steps {h : Nat} {k : List UInt8} {n r : Option N} {L s : Nat} (hw : Way h n L r s) : intoSO h k n L = (s + (endS h k r).1, (endS h k r).2) := by
  induction hw with
  | none L => rfl
  | leaf g k' v' L =>
    by_cases e : g = h
    · simp [intoSO, N.intoS, endS, e]
    · simp [intoSO, N.intoS, endS, e]
  | bucket g t L =>
    by_cases e : g = h
    · simp [intoSO, N.intoS, endS, e]
    · simp [intoSO, N.intoS, endS, e]
  | branch m ks L r s _ ih =>
    show (N.branch m ks).intoS h k L = _
    rw [intoS_branch, ih]
    simp only [Prod.mk.injEq, and_true]
    omega
def WayR (D : Nat → Prop) (r : Option N) (mb : Option Nat) (vi c : Nat) (w : World) (e : Ending) (w' : World) : Prop := ∃ (y : Value) (L : Int), e = .returned (.tuple #[y, .int .i64 L]) ∧ NodeAt w' D r y ∧ Met w' mb vi c ∧ w.grownBy w' mb
theorem NodeAt.grownO {w w' : World} {D : Nat → Prop} {mb : Option Nat} {n : Option N} {x : Value} (h : NodeAt w D n x) (ho : Off D mb) (g : w.grownBy w' mb) : NodeAt w' D n x := by
  cases n with
  | none => exact h
  | some n => exact N.At.grown h ho g
set_option maxHeartbeats 2000000 in
set_option maxRecDepth 100000 in
theorem findWay {mb : Option Nat} (D : Nat → Prop) (ho : Off D mb) {h : Nat} (hh : h < 18446744073709551616) {n r : Option N} {s : Nat} (w : World) (vi c : Nat) (hm : Met w mb vi c) (hvi : vi + s < 1000000000000) {x : Value} (hx : NodeAt w D n x) (hf : fitsO n 0) (hw : Way h n 0 r s) :
    Calls Tryz.prog 43 #[x, .int .u64 (h : Int), .pointer (mptr mb)] w (WayR D r mb (vi + s) c w) := by
  have HX := Lib.hid hx
  have HF := Lib.hid hf
  have HW := Lib.hid hw
  have HM := Lib.hid hm
  have HS := Lib.hid hvi
  obtain ⟨V, hV⟩ : ∃ x, x = vi + s := ⟨_, rfl⟩
  rw [← hV] at HS ⊢
  have H0 := Lib.hid (show vi + s = V from hV.symm)
  have CH := Lib.hid (fun w L => chunkAt w h L hh)
  clear hx hf hw hm hvi hV
  go_enter Tryz.func43, Tryz.ntmps43
  go_wp2_with fail
  go_loopg [0, 8] 14 (fun g v0 v8 wr => ∃ (n' : Option N) (L s' a : Nat), v8 = .int .i64 (L : Int) ∧ w.grownBy wr mb ∧ NodeAt wr D n' v0 ∧ fitsO n' L ∧ Met wr mb a c ∧ Hid (Way h n' L r s' ∧ a + s' = V) ∧ L + g = 14)
  case atStart => exact ⟨n, 0, s, vi, rfl, grown_rfl _ _, HX.out, HF.out, HM.out, Lib.hid ⟨HW.out, H0.out⟩, rfl⟩
  case round =>
    rename_i v0
    obtain ⟨n', L, s', a, rfl, hg, hx, hf, hm, hq, hL⟩ := hrel
    have HG := Lib.hid hg
    have HX' := Lib.hid hx
    have CM := Lib.hid (nodeMap wr hx)
    have HM' := Lib.hid hm
    have stop : N.mapO n' = none → n' = r ∧ s' = 0 := fun e => by
      have := hq.out.1
      cases this with
      | none => exact ⟨rfl, rfl⟩
      | leaf => exact ⟨rfl, rfl⟩
      | bucket => exact ⟨rfl, rfl⟩
      | branch => cases e
    by_cases hmo : N.mapO n' = none
    · obtain ⟨rfl, rfl⟩ := stop hmo
      rw [hmo, show mapV none = .tuple #[.int .u32 0, .bool false] from rfl] at CM
      clear hg hx hf hm hL stop hmo
      go_wp2_with first
        | (go_at_call 102; ((with_reducible refine (CM.out).mono ?_)); rintro e w1 ⟨rfl, rfl⟩)
        | fail
      go_ret2
      obtain ⟨_, rfl⟩ := hq.out
      exact ⟨_, _, rfl, HX'.out, HM'.out, HG.out⟩
    · match n', hmo with
      | some (.branch m ks), _ =>
        have h1 := hf _ rfl
        have hk := Lib.hid (kid_fits (c := chunkM h L) h1)
        unfold N.fit at h1
        obtain ⟨f1, f2, f3, f4, f5, f6⟩ := h1
        have hch := chunkM_lt h L
        obtain ⟨s2, rfl, hw2⟩ : ∃ s2, s' = s2 + 1 ∧ Way h (kidN m ks (chunkM h L)) (L + 1) r s2 := by
          cases hq.out.1 with
          | branch _ _ _ _ s2 hw2 => exact ⟨s2, rfl, hw2⟩
        have ha : a + (s2 + 1) = V := hq.out.2
        have HQ := Lib.hid (And.intro hw2 (show a + 1 + s2 = V from by omega))
        rw [show mapV (N.mapO (some (N.branch m ks))) = .tuple #[.int .u32 (m : Int), .bool true] from rfl] at CM
        have CV := Lib.hid (metVisit wr hm (by have := HS.out; omega))
        have CK := Lib.hid (show ∀ w', wr.grownBy w' mb → Calls Tryz.prog 103 #[u0, .int .i64 (chunkM h L : Int)] w' _ from fun w' hg => nodeKid w' (hx.grownO ho hg) f1 f3 hch)
        have g5 : IntKind.i64.wrap ((L : Int) + 1) = (L : Int) + 1 := IntWalk.i64_in _ (by omega)
        generalize kidN m ks (chunkM h L) = kid at *
        clear hg hx hf hm stop hq ha hw2 f3 f4 f5 f6
        go_wp2_with first
          | (go_at_call 102; ((with_reducible refine (CM.out).mono ?_)); rintro e w1 ⟨rfl, rfl⟩)
          | (go_at_call 46; ((with_reducible refine (CV.out).mono ?_)); rintro e w1 ⟨rfl, hm1, hg1⟩; have HM1 := Lib.hid hm1; clear hm1)
          | (go_at_call 104; ((with_reducible refine (CH.out _ _).mono ?_)); rintro e w2 ⟨rfl, rfl⟩)
          | (go_at_call 103; ((with_reducible refine (CK.out _ hg1).mono ?_)); rintro e w3 ⟨xv, rfl, hk3, nn, rfl⟩; have HK3 := Lib.hid hk3; have HM3 := Lib.hid (show Met (w1.drewN nn) mb (a + 1) c from HM1.out); have HG3 := Lib.hid (grown_step hg1 (grown_drewN _ mb nn)); clear hk3)
          | fail
        go_roundg (13 - L)
        case rel => exact ⟨kid, L + 1, s2, a + 1, congrArg (Value.int .i64) (by omega), grown_trans HG.out HG3.out, HK3.out.grownO ho (grown_drewN _ _ _), hk.out, HM3.out, HQ, by omega⟩
        case measure => omega
      | some (.leaf _ _ _), h => exact absurd rfl h
      | some (.bucket _ _), h => exact absurd rfl h
      | none, h => exact absurd rfl h
set_option maxHeartbeats 4000000 in
set_option maxRecDepth 100000 in
theorem findEnd (D : Nat → Prop) {mb : Option Nat} (ho : Off D mb) {D2 : Nat → Prop} (ho2 : Off D2 mb) {h : Nat} (hh : h < 18446744073709551616) {k : List UInt8} {kp : Option Addr} {kc : Nat} {n r : Option N} {s : Nat} (w : World) (hD : ∀ j, w.heap.size ≤ j → D j) (vi c : Nat) (hm : Met w mb vi c) (hs : s ≤ 13) (hvi : vi < 999980000000) (hci : c < 999980000000) {x : Value} (hx : NodeAt w D n x) (hf : fitsO n 0) (hw : Way h n 0 r s) (hr : fitsO r 0) (he : endO r) (hk : IsD w D2 kp kc k)
    (hsz : ∀ g t, r = some (.bucket g t) → t.size < 1000000) :
    Calls Tryz.prog 15 #[x, .int .u64 (h : Int), .slice kp k.length kc, .pointer (mptr mb)] w (LookR D (endG h k r) mb (vi + s + (endS h k r).1) (c + (endS h k r).2) w) := by
  have CW := Lib.hid (findWay D ho hh w vi c hm (by omega) hx hf hw)
  have hD' : ∀ w', w.grownBy w' mb → ∀ j, w'.heap.size ≤ j → D j := fun w' hg j hj => hD j (Nat.le_trans hg.size hj)
  obtain ⟨v2, hv2⟩ : ∃ z, z = vi + s := ⟨_, rfl⟩
  have hvb : v2 < 999980000013 := by omega
  rw [← hv2] at CW ⊢
  cases r with
  | none =>
    show Calls Tryz.prog 15 _ w (LookR D none mb (v2 + 0) (c + 0) w)
    clear hx hf hw hr he hsz hm hk hD hv2 hvb hs
    have CH := Lib.hid nodeHash0
    rw [show hashV none = .tuple #[.int .u64 0, .bool false] from rfl] at CH
    have CP := Lib.hid nodePair0
    go_enter Tryz.func15, Tryz.ntmps15
    go_wp2_with first
      | (go_at_call 43; ((with_reducible refine (CW.out).mono ?_)); rintro e w1 ⟨y, L, rfl, hy, hm1, hg1⟩; obtain rfl : y = .nilIface := hy; have HM1 := Lib.hid hm1; have HG1 := Lib.hid hg1; clear hm1 hg1)
      | (go_at_call 44; ((with_reducible refine (CH.out _).mono ?_)); rintro e w2 ⟨rfl, rfl⟩)
      | (go_at_call 45; ((with_reducible refine (CP.out _).mono ?_)); rintro e w3 ⟨rfl, hb3⟩; have HB3 := Lib.hid (hb3.trans (((Below.refl _ w3).alloc (Nat.le_refl _) (.cells #[.slice none 0 0, .slice none 0 0] 61)).mono hb3.size)); clear hb3)
      | fail
    go_ret2
    exact ⟨none, 0, rfl, isD_nil _ _, fun _ => ⟨rfl, rfl⟩, HM1.out.below HB3.out, grown_trans HG1.out (grown_of_below HB3.out mb)⟩
  | some n' =>
    cases n' with
    | branch m ks => exact he.elim
    | leaf g k' v' =>
      have h1 := hr _ rfl
      unfold N.fit at h1
      obtain ⟨f1, f2, f3⟩ := h1
      have CH := Lib.hid (show ∀ w' y, N.At w' D (.leaf g k' v') y → Calls Tryz.prog 44 #[y] w' (fun e w'' => e = .returned (.tuple #[.int .u64 (g : Int), .bool true]) ∧ w' = w'') from fun w' y hy => nodeHash w' hy)
      have CP := Lib.hid (show ∀ w' y, w.grownBy w' mb → N.At w' D (.leaf g k' v') y → Calls Tryz.prog 45 #[y] w' (fun e w'' => ∃ kp kc vp vc, e = .returned (.tuple #[pairV kp kc k' vp vc v', .bool true]) ∧ IsD w'' D kp kc k' ∧ IsD w'' D vp vc v' ∧ Below w'.heap.size w' w'') from fun w' y hg hy => nodePairLeaf w' D (hD' w' hg) hy (by omega) (by omega))
      have CV := Lib.hid (show ∀ w', Met w' mb v2 c → Calls Tryz.prog 46 #[.pointer (mptr mb)] w' _ from fun w' hmm => metVisit w' hmm (by omega))
      have CC := Lib.hid (show ∀ w' p q, w.grownBy w' mb → Met w' mb (v2 + 1) c → IsD w' D p q k' → Calls Tryz.prog 47 #[.pointer (mptr mb), .slice kp k.length kc, .slice p k'.length q] w' _ from fun w' p q hg hmm hk' => metCompare w' hmm (by omega) ho2 ho (hk.grown ho2 hg) hk')
      by_cases hgh : g = h
      · subst hgh
        have es : endS g k (some (.leaf g k' v')) = (1, 1) := by simp [endS]
        have ed : endG g k (some (.leaf g k' v')) = if Lib.compareBytes k k' = 0 then some v' else none := by simp [endG]
        rw [es, ed]
        generalize hxx : Lib.compareBytes k k' = z at *
        clear hx hf hw hr he hsz hm hk hD hD' hv2 hvb hs es ed hxx f1 f2 f3
        by_cases hz : z = 0
        · subst hz
          rw [if_pos rfl]
          go_enter Tryz.func15, Tryz.ntmps15
          go_wp2_with first
            | (go_at_call 43; ((with_reducible refine (CW.out).mono ?_)); rintro e w1 ⟨y, L, rfl, hy, hm1, hg1⟩; have HY := Lib.hid (show N.At w1 D (.leaf g k' v') y from hy); have HM1 := Lib.hid hm1; have HG1 := Lib.hid hg1; clear hm1 hg1 hy)
            | (go_at_call 44; ((with_reducible refine (CH.out _ _ HY.out).mono ?_)); rintro e w2 ⟨rfl, rfl⟩)
            | (go_at_call 45; ((with_reducible refine (CP.out _ _ HG1.out HY.out).mono ?_)); rintro e w3 ⟨kp3, kc3, vp3, vc3, rfl, hk3, hv3, hb3⟩; have ha := (Below.refl _ w3).alloc (Nat.le_refl _) (.cells #[.slice kp3 k'.length kc3, .slice vp3 v'.length vc3] 61); have HM5 := Lib.hid ((HM1.out.below hb3).below ha); have HG5 := Lib.hid (grown_trans HG1.out (grown_of_below (hb3.trans (ha.mono hb3.size)) mb)); have HK5 := Lib.hid (hk3.below ha); have HV5 := Lib.hid (hv3.below ha); have R5 := Lib.hid (heap_alloc_new w3 (.cells #[.slice kp3 k'.length kc3, .slice vp3 v'.length vc3] 61)); have N5 := Lib.hid (show mb ≠ some w3.heap.size from fun e => by have := (HM1.out.below hb3).lt _ e; omega); clear hk3 hv3 hb3 ha)
            | (go_at_call 46; ((with_reducible refine (CV.out _ HM5.out).mono ?_)); rintro e w6 ⟨rfl, hm6, hg6⟩; have r6 := grown_row hg6 R5.out N5.out; have u0 := cell_of_row w6 _ 0 _ _ (0, 0) r6; have u1 := cell_of_row w6 _ 1 _ _ (0, 0) r6; have R6 := Lib.hid r6; have HM6 := Lib.hid hm6; have HG6 := Lib.hid (grown_trans HG5.out hg6); have HK6 := Lib.hid (HK5.out.grown ho hg6); have HV6 := Lib.hid (HV5.out.grown ho hg6); clear hm6 hg6 r6)
            | (go_at_call 47; ((with_reducible refine (CC.out _ _ _ HG6.out HM6.out HK6.out).mono ?_)); rintro e w7 ⟨rfl, hm7, hg7⟩; have r7 := grown_row hg7 R6.out N5.out; have y0 := cell_of_row w7 _ 0 _ _ (0, 0) r7; have y1 := cell_of_row w7 _ 1 _ _ (0, 0) r7; have HM7 := Lib.hid hm7; have HG7 := Lib.hid (grown_trans HG6.out hg7); have HV7 := Lib.hid (HV6.out.grown ho hg7); clear hm7 hg7 r7)
            | fail
          refine bodyPost_ret (v := .tuple #[.slice vp3 v'.length vc3, .bool true]) (results_tmp2 (t := 8) (u := 9) rfl _ _ _) rfl ?_
          exact ⟨_, _, rfl, HV7.out, fun h => (by cases h), HM7.out, HG7.out⟩
        · have g1 : (z == 0) = false := by simpa using hz
          rw [if_neg hz]
          go_enter Tryz.func15, Tryz.ntmps15
          go_wp2_with first
            | (go_at_call 43; ((with_reducible refine (CW.out).mono ?_)); rintro e w1 ⟨y, L, rfl, hy, hm1, hg1⟩; have HY := Lib.hid (show N.At w1 D (.leaf g k' v') y from hy); have HM1 := Lib.hid hm1; have HG1 := Lib.hid hg1; clear hm1 hg1 hy)
            | (go_at_call 44; ((with_reducible refine (CH.out _ _ HY.out).mono ?_)); rintro e w2 ⟨rfl, rfl⟩)
            | (go_at_call 45; ((with_reducible refine (CP.out _ _ HG1.out HY.out).mono ?_)); rintro e w3 ⟨kp3, kc3, vp3, vc3, rfl, hk3, hv3, hb3⟩; have ha := (Below.refl _ w3).alloc (Nat.le_refl _) (.cells #[.slice kp3 k'.length kc3, .slice vp3 v'.length vc3] 61); have HM5 := Lib.hid ((HM1.out.below hb3).below ha); have HG5 := Lib.hid (grown_trans HG1.out (grown_of_below (hb3.trans (ha.mono hb3.size)) mb)); have HK5 := Lib.hid (hk3.below ha); have HV5 := Lib.hid (hv3.below ha); have R5 := Lib.hid (heap_alloc_new w3 (.cells #[.slice kp3 k'.length kc3, .slice vp3 v'.length vc3] 61)); have N5 := Lib.hid (show mb ≠ some w3.heap.size from fun e => by have := (HM1.out.below hb3).lt _ e; omega); clear hk3 hv3 hb3 ha)
            | (go_at_call 46; ((with_reducible refine (CV.out _ HM5.out).mono ?_)); rintro e w6 ⟨rfl, hm6, hg6⟩; have r6 := grown_row hg6 R5.out N5.out; have u0 := cell_of_row w6 _ 0 _ _ (0, 0) r6; have u1 := cell_of_row w6 _ 1 _ _ (0, 0) r6; have R6 := Lib.hid r6; have HM6 := Lib.hid hm6; have HG6 := Lib.hid (grown_trans HG5.out hg6); have HK6 := Lib.hid (HK5.out.grown ho hg6); have HV6 := Lib.hid (HV5.out.grown ho hg6); clear hm6 hg6 r6)
            | (go_at_call 47; ((with_reducible refine (CC.out _ _ _ HG6.out HM6.out HK6.out).mono ?_)); rintro e w7 ⟨rfl, hm7, hg7⟩; have HM7 := Lib.hid hm7; have HG7 := Lib.hid (grown_trans HG6.out hg7); clear hm7 hg7)
            | fail
          refine bodyPost_ret (v := .tuple #[.slice none 0 0, .bool false]) (results_tmp2 (t := 8) (u := 9) rfl _ _ _) rfl ?_
          exact ⟨none, 0, rfl, isD_nil _ _, fun _ => ⟨rfl, rfl⟩, HM7.out, HG7.out⟩
      · have es : endS h k (some (.leaf g k' v')) = (1, 0) := by simp [endS, hgh]
        have ed : endG h k (some (.leaf g k' v')) = none := by simp [endG, hgh]
        have g0 : ((g : Int) == (h : Int)) = false := by simp; omega
        rw [es, ed]
        clear hx hf hw hr he hsz hm hk hD hD' hv2 hvb hs es ed hgh f1 f2 f3
        go_enter Tryz.func15, Tryz.ntmps15
        go_wp2_with first
          | (go_at_call 43; ((with_reducible refine (CW.out).mono ?_)); rintro e w1 ⟨y, L, rfl, hy, hm1, hg1⟩; have HY := Lib.hid (show N.At w1 D (.leaf g k' v') y from hy); have HM1 := Lib.hid hm1; have HG1 := Lib.hid hg1; clear hm1 hg1 hy)
          | (go_at_call 44; ((with_reducible refine (CH.out _ _ HY.out).mono ?_)); rintro e w2 ⟨rfl, rfl⟩)
          | (go_at_call 45; ((with_reducible refine (CP.out _ _ HG1.out HY.out).mono ?_)); rintro e w3 ⟨kp3, kc3, vp3, vc3, rfl, hk3, hv3, hb3⟩; have ha := (Below.refl _ w3).alloc (Nat.le_refl _) (.cells #[.slice kp3 k'.length kc3, .slice vp3 v'.length vc3] 61); have HM5 := Lib.hid ((HM1.out.below hb3).below ha); have HG5 := Lib.hid (grown_trans HG1.out (grown_of_below (hb3.trans (ha.mono hb3.size)) mb)); have HK5 := Lib.hid (hk3.below ha); have HV5 := Lib.hid (hv3.below ha); have R5 := Lib.hid (heap_alloc_new w3 (.cells #[.slice kp3 k'.length kc3, .slice vp3 v'.length vc3] 61)); have N5 := Lib.hid (show mb ≠ some w3.heap.size from fun e => by have := (HM1.out.below hb3).lt _ e; omega); clear hk3 hv3 hb3 ha)
          | (go_at_call 46; ((with_reducible refine (CV.out _ HM5.out).mono ?_)); rintro e w6 ⟨rfl, hm6, hg6⟩; have r6 := grown_row hg6 R5.out N5.out; have u0 := cell_of_row w6 _ 0 _ _ (0, 0) r6; have u1 := cell_of_row w6 _ 1 _ _ (0, 0) r6; have R6 := Lib.hid r6; have HM6 := Lib.hid hm6; have HG6 := Lib.hid (grown_trans HG5.out hg6); have HK6 := Lib.hid (HK5.out.grown ho hg6); have HV6 := Lib.hid (HV5.out.grown ho hg6); clear hm6 hg6 r6)
          | fail
        refine bodyPost_ret (v := .tuple #[.slice none 0 0, .bool false]) (results_tmp2 (t := 8) (u := 9) rfl _ _ _) rfl ?_
        exact ⟨none, 0, rfl, isD_nil _ _, fun _ => ⟨rfl, rfl⟩, HM6.out, HG6.out⟩
    | bucket g t =>
      have h1 := hr _ rfl
      unfold N.fit at h1
      obtain ⟨f1, f2, f3, f4⟩ := h1
      have hts := hsz g t rfl
      have hsm : t.Small := fun x hx => by have := f3 x hx; omega
      have CH := Lib.hid (show ∀ w' y, N.At w' D (.bucket g t) y → Calls Tryz.prog 44 #[y] w' (fun e w'' => e = .returned (.tuple #[.int .u64 (g : Int), .bool true]) ∧ w' = w'') from fun w' y hy => nodeHash w' hy)
      have CP := Lib.hid (show ∀ w' y, N.At w' D (.bucket g t) y → Calls Tryz.prog 45 #[y] w' _ from fun w' y hy => by
        obtain ⟨b, rfl, _⟩ := N.At.form hy
        exact nodePairNo w' D 226 b (.inl rfl))
      have CT := Lib.hid (show ∀ w' y, N.At w' D (.bucket g t) y → Calls Tryz.prog 48 #[y] w' _ from fun w' y hy => nodeTree w' hy)
      have CG := Lib.hid (show ∀ w' p, w.grownBy w' mb → Met w' mb v2 c → TreeAt w' D p t → Calls Tryz.prog 49 #[.pointer p, .slice kp k.length kc, .pointer (mptr mb)] w' (LookR D (getT k t) mb (v2 + pathT k t) (c + pathT k t) w') from fun w' p hg hmm ht => treeGet D ho ho2 t w' (hD' w' hg) v2 c hmm (by omega) (by omega) p ht hsm (hk.grown ho2 hg))
      by_cases hgh : g = h
      · subst hgh
        have es : endS g k (some (.bucket g t)) = (pathT k t, pathT k t) := by simp [endS]
        have ed : endG g k (some (.bucket g t)) = getT k t := by simp [endG]
        rw [es, ed]
        generalize pathT k t = z at *
        generalize getT k t = o at *
        clear hx hf hw hr he hsz hm hk hD hD' hv2 hvb hs es ed f1 f2 f3 f4 hts hsm
        go_enter Tryz.func15, Tryz.ntmps15
        go_wp2_with first
          | (go_at_call 43; ((with_reducible refine (CW.out).mono ?_)); rintro e w1 ⟨y, L, rfl, hy, hm1, hg1⟩; have HY := Lib.hid (show N.At w1 D (.bucket g t) y from hy); have HM1 := Lib.hid hm1; have HG1 := Lib.hid hg1; clear hm1 hg1 hy)
          | (go_at_call 44; ((with_reducible refine (CH.out _ _ HY.out).mono ?_)); rintro e w2 ⟨rfl, rfl⟩)
          | (go_at_call 45; ((with_reducible refine (CP.out _ _ HY.out).mono ?_)); rintro e w3 ⟨rfl, hb3⟩; have ha := (Below.refl _ w3).alloc (Nat.le_refl _) (.cells #[.slice none 0 0, .slice none 0 0] 61); have HM5 := Lib.hid ((HM1.out.below hb3).below ha); have HG5 := Lib.hid (grown_trans HG1.out (grown_of_below (hb3.trans (ha.mono hb3.size)) mb)); have HY5 := Lib.hid ((HY.out.below hb3).below ha); clear hb3 ha)
          | (go_at_call 48; ((with_reducible refine (CT.out _ _ HY5.out).mono ?_)); rintro e w4 ⟨p4, rfl, ht4, rfl⟩; have HT4 := Lib.hid ht4; clear ht4)
          | (go_at_call 49; ((with_reducible refine (CG.out _ _ HG5.out HM5.out HT4.out).mono ?_)); rintro e w6 ⟨q6, c6, rfl, hi6, hn6, hm6, hg6⟩; have HI6 := Lib.hid hi6; have HN6 := Lib.hid hn6; have HM6 := Lib.hid hm6; have HG6 := Lib.hid (grown_trans HG5.out hg6); clear hi6 hn6 hm6 hg6)
          | fail
        refine bodyPost_ret (v := .tuple #[.slice q6 (o.getD []).length c6, .bool o.isSome]) (results_tmp2 (t := 8) (u := 9) rfl _ _ _) rfl ?_
        exact ⟨_, _, rfl, HI6.out, HN6.out, HM6.out, HG6.out⟩
      · have es : endS h k (some (.bucket g t)) = (0, 0) := by simp [endS, hgh]
        have ed : endG h k (some (.bucket g t)) = none := by simp [endG, hgh]
        have g0 : ((g : Int) != (h : Int)) = true := by simp; omega
        rw [es, ed]
        clear hx hf hw hr he hsz hm hk hD hD' hv2 hvb hs es ed f1 f2 f3 f4 hts hsm hgh
        go_enter Tryz.func15, Tryz.ntmps15
        go_wp2_with first
          | (go_at_call 43; ((with_reducible refine (CW.out).mono ?_)); rintro e w1 ⟨y, L, rfl, hy, hm1, hg1⟩; have HY := Lib.hid (show N.At w1 D (.bucket g t) y from hy); have HM1 := Lib.hid hm1; have HG1 := Lib.hid hg1; clear hm1 hg1 hy)
          | (go_at_call 44; ((with_reducible refine (CH.out _ _ HY.out).mono ?_)); rintro e w2 ⟨rfl, rfl⟩)
          | (go_at_call 45; ((with_reducible refine (CP.out _ _ HY.out).mono ?_)); rintro e w3 ⟨rfl, hb3⟩; have ha := (Below.refl _ w3).alloc (Nat.le_refl _) (.cells #[.slice none 0 0, .slice none 0 0] 61); have HM5 := Lib.hid ((HM1.out.below hb3).below ha); have HG5 := Lib.hid (grown_trans HG1.out (grown_of_below (hb3.trans (ha.mono hb3.size)) mb)); have HY5 := Lib.hid ((HY.out.below hb3).below ha); clear hb3 ha)
          | fail
        refine bodyPost_ret (v := .tuple #[.slice none 0 0, .bool false]) (results_tmp2 (t := 8) (u := 9) rfl _ _ _) rfl ?_
        exact ⟨none, 0, rfl, isD_nil _ _, fun _ => ⟨rfl, rfl⟩, HM5.out, HG5.out⟩
end Go.Proofs.YtmbiiemlepfoaaaGreatDoor
namespace Go.Proofs.YtmbiiemlepfoaaaGreatDoor
open Go.RowKit
theorem infoIntN : (Tryz.prog.info? 3).map (fun i => (i.zero, i.size, i.bytes)) = some (some (.int .i64 0), 1, 8) := by kernel_rfl
def ivN (x : Nat) : Value := .int .i64 (x : Int)
structure IsN (w : World) (p : Option Addr) (c : Nat) (D : List Nat) : Prop where
  cap : D.length ≤ c
  cells : 0 < D.length → ∃ b o, p = some ⟨b, o, none⟩ ∧ b < w.heap.size ∧ ∀ i x, D[i]? = some x → w.cell? ⟨b, o + i, none⟩ = some (ivN x)
theorem IsN.own {w : World} {base : Nat} {e : TypeId} {p : Option Addr} {c : Nat} {D : List Nat} (h : w.ownsRow base e 1 (.slice p D.length c) D.length (D.map ivN)) : IsN w p c D := by
  rcases h.2 with ⟨hv, hn⟩ | ⟨g, cap, cur, hv, hg, hh, hnc, hcm, hcs, ht⟩
  · obtain rfl : D = [] := List.eq_nil_of_length_eq_zero hn
    exact ⟨Nat.zero_le _, fun h => absurd h (by simp)⟩
  · injection hv with h1 h2 h3
    subst h1; subst h3
    refine ⟨hnc, fun _ => ⟨g, 0, rfl, ?_, fun i x hx => ?_⟩⟩
    · rcases Nat.lt_or_ge g w.heap.size with h | h
      · exact h
      · rw [Array.getElem?_eq_none h] at hh; cases hh
    · have := h.cells (g := g) rfl i (ivN x) (by simp [hx])
      simpa [Addr.add_lit] using this
theorem own_sliceN {w : World} {base : Nat} {e : TypeId} {s n : Nat} {v : Value} {xs : List Value} (h : w.ownsRow base e s v n xs) : ∃ p c, v = .slice p n c := by
  rcases h.2 with ⟨rfl, rfl⟩ | ⟨g, cap, cur, rfl, _⟩
  · exact ⟨_, _, rfl⟩
  · exact ⟨_, _, rfl⟩
def growN (n i c : Nat) : Prop := i ≤ n ∨ (i = n + 1 ∧ c ≤ 32) ∨ (i = n + 2 ∧ c = 0)
structure TimesR (w w' : World) (v : Value) (D : List Nat) (n : Nat) (R : List Nat) : Prop where
  own : w'.ownsRow w.heap.size 3 1 v R.length (R.map ivN)
  digits : ∀ d ∈ R, d < 65536
  val : val R = val D * n
  len : R.length ≤ D.length + 2
  below : Below w.heap.size w w'
structure TimesI (D : List Nat) (n : Nat) (R : List Nat) (c : Nat) : Prop where
  digits : ∀ d ∈ R, d < 65536
  val : val R + 65536 ^ R.length * (c + val (D.drop R.length) * n) = val D * n
  len : growN D.length R.length c
  carry : c ≤ 2097152
theorem times_step {D : List Nat} {n c : Nat} {R : List Nat} (h : TimesI D n R c) (hi : R.length < D.length) (hD : ∀ d ∈ D, d < 65536) (hn : n ≤ 1048577) :
    TimesI D n (R ++ [(c + D[R.length] * n) % 65536]) ((c + D[R.length] * n) / 65536) := by
  have hd := hD D[R.length] (List.getElem_mem hi)
  have hm : D[R.length] * n ≤ 65535 * 1048577 := Nat.mul_le_mul (by omega) hn
  have hc := h.carry
  have hdr : D.drop R.length = D[R.length] :: D.drop (R.length + 1) := List.drop_eq_getElem_cons hi
  refine ⟨?_, ?_, ?_, by omega⟩
  · intro d hx
    rcases List.mem_append.1 hx with hx | hx
    · exact h.digits d hx
    · rw [List.mem_singleton.1 hx]; exact Nat.mod_lt _ (by omega)
  · have hv := h.val
    rw [hdr, Go.Proofs.YtmbiiemlepfoaaaGreatDoor.val] at hv
    rw [val_append, List.length_append, List.length_singleton, Nat.pow_succ, ← hv, Nat.add_mul, Nat.mul_assoc (65536 ^ R.length) 65536, Nat.add_assoc]
    simp only [Go.Proofs.YtmbiiemlepfoaaaGreatDoor.val, Nat.mul_zero, Nat.add_zero]
    rw [← Nat.mul_add]
    congr 2
    generalize Go.Proofs.YtmbiiemlepfoaaaGreatDoor.val (List.drop (R.length + 1) D) = V
    generalize D[R.length] * n = a at *
    rw [Nat.mul_assoc]
    generalize V * n = b
    omega
  · unfold growN
    rw [List.length_append, List.length_singleton]
    omega
theorem times_tail {D : List Nat} {n c : Nat} {R : List Nat} (h : TimesI D n R c) (hi : ¬ R.length < D.length) (hc0 : 0 < c) :
    TimesI D n (R ++ [c % 65536]) (c / 65536) := by
  have hc := h.carry
  have hdr : D.drop R.length = [] := List.drop_eq_nil_of_le (by omega)
  have hdr2 : D.drop (R.length + 1) = [] := List.drop_eq_nil_of_le (by omega)
  refine ⟨?_, ?_, ?_, by omega⟩
  · intro d hx
    rcases List.mem_append.1 hx with hx | hx
    · exact h.digits d hx
    · rw [List.mem_singleton.1 hx]; exact Nat.mod_lt _ (by omega)
  · have hv := h.val
    rw [hdr] at hv
    rw [val_append, List.length_append, List.length_singleton, hdr2, Nat.pow_succ, ← hv, Nat.mul_assoc (65536 ^ R.length) 65536, Nat.add_assoc]
    simp only [Go.Proofs.YtmbiiemlepfoaaaGreatDoor.val, Nat.mul_zero, Nat.add_zero, Nat.zero_mul]
    rw [← Nat.mul_add]
    congr 2
    omega
  · have hl := h.len
    unfold growN at hl ⊢
    rw [List.length_append, List.length_singleton]
    omega
theorem times_end {D : List Nat} {n c : Nat} {R : List Nat} (h : TimesI D n R c) (hi : ¬ R.length < D.length) (hc0 : ¬ 0 < c) : val R = val D * n := by
  have hv := h.val
  obtain rfl : c = 0 := by omega
  rw [List.drop_eq_nil_of_le (by omega)] at hv
  simpa [Go.Proofs.YtmbiiemlepfoaaaGreatDoor.val] using hv
theorem times_start (D : List Nat) (n : Nat) : TimesI D n [] 0 := ⟨fun d h => absurd h (by simp), by simp [Go.Proofs.YtmbiiemlepfoaaaGreatDoor.val], .inl (Nat.zero_le _), Nat.zero_le _⟩
end Go.Proofs.YtmbiiemlepfoaaaGreatDoor
