/- The walks of Sound$1, Sound. The walk of law16's Same: of none, of a leaf, of a bucket. The walk of law16's Same: of a branch, of any node. -/
import Derived.Test.YtmbiiemlepfoaaaGreatDoorFl35
import Derived.Test.YtmbiiemlepfoaaaGreatDoorFl05
import Derived.Test.YtmbiiemlepfoaaaGreatDoorFl20
import Derived.Test.YtmbiiemlepfoaaaGreatDoorFl34
import Derived.Test.YtmbiiemlepfoaaaGreatDoorFl11
import Derived.Test.YtmbiiemlepfoaaaGreatDoorFl12

namespace Go.Proofs.YtmbiiemlepfoaaaGreatDoor
open Go.RowKit
set_option linter.unusedVariables false
theorem sound_set {w : World} {g : Nat} {q0 : Option Addr} (hr : w.heap[g]? = some (.cells #[.pointer q0] 43)) (n : Nat) (x : Value) (W3 : World) (h : W3 = (w.drewN n).setCell ⟨g, 0, none⟩ x) :
    w.grownBy W3 (some g) ∧ W3.heap[g]? = some (.cells #[x] 43) ∧ ∀ j, j ≠ g → W3.heap[j]? = w.heap[j]? := by
  subst h
  have ho : ∀ j, j ≠ g → ((w.drewN n).setCell ⟨g, 0, none⟩ x).heap[j]? = w.heap[j]? := fun j hj => set_otherA (w := w.drewN n) (a := ⟨g, 0, none⟩) hj
  refine ⟨⟨rfl, rfl, rfl, by rw [set_sizeA]; exact Nat.le_refl _, fun k _ hk => ho k fun e => hk (by rw [e])⟩, ?_, ho⟩
  exact (set_rowA (w := w.drewN n) (i := 0) (x := x) hr).trans rfl
set_option maxHeartbeats 2000000 in
set_option maxRecDepth 100000 in
theorem soundStep (w : World) {D0 : Nat → Prop} {g : Nat} (hgd : ¬ D0 g) {q q0 : Option Addr} {l r : T} {k v : List UInt8} (ht : TreeAt w D0 q (.node l k v r)) (hb : (T.node l k v r).Bal) (hsz : l.size + 1 + r.size ≤ 1048576) (hr : w.heap[g]? = some (.cells #[.pointer q0] 43))
    (h0 : q0 = none ∨ ∃ l0 k0 v0 r0, TreeAt w D0 q0 (.node l0 k0 v0 r0) ∧ Lib.compareBytes k0 k < 0) :
    Calls Tryz.prog 186 #[.pointer q, .pointer (some ⟨g, 0, none⟩)] w (fun e w' => e = .returned (.bool true) ∧ w.grownBy w' (some g) ∧ w'.heap[g]? = some (.cells #[.pointer q] 43)) := by
  obtain ⟨tb, kp, kc, vp, vc, lp, rp, rfl, hdt, trow, hk2, hv2, hl, hrt⟩ := id ht
  have hne : tb ≠ g := fun e => hgd (e ▸ hdt)
  have d0 : w.cell? ⟨tb, 0, none⟩ = some (.slice kp k.length kc) := cell_of_row w _ 0 _ _ (0, 0) trow
  have gc : w.cell? ⟨g, 0, none⟩ = some (.pointer q0) := cell_of_row w _ 0 _ _ (0, 0) hr
  have gf : w.frozen? ⟨g, 0, none⟩ = false := frozen_of_row w _ 0 _ _ hr
  have HB := Lib.hid hb
  have HL := Lib.hid hl
  have HRt := Lib.hid hrt
  have HT := Lib.hid trow
  have HG := Lib.hid hr
  have HK := Lib.hid hk2
  have hev := Lib.hid (show evenB l.size r.size = true from hb.1)
  have hsl : l.size ≤ 1048576 := by omega
  have hsr : r.size ≤ 1048576 := by omega
  rcases h0 with rfl | ⟨l0, k0, v0, r0, ht0, hlt⟩
  · clear hb hl hrt trow hr hk2 hv2 ht
    go_enter Tryz.func186, Tryz.ntmps186
    go_wp2
    go_quiet (fail)
    go_wp2
    obtain ⟨W3, hW3⟩ : ∃ x, x = (w.drewN nq).setCell ⟨g, 0, none⟩ (.pointer (some ⟨tb, 0, none⟩)) := ⟨_, rfl⟩
    rw [← hW3]
    obtain ⟨s1, s2, s3⟩ := sound_set HG.out nq (.pointer (some ⟨tb, 0, none⟩)) _ hW3
    have T3 := s3 tb hne
    rw [HT.out] at T3
    have c2 : W3.cell? ⟨tb, 2, none⟩ = some (.pointer lp) := cell_of_row W3 _ 2 _ _ (0, 0) T3
    have c3 : W3.cell? ⟨tb, 3, none⟩ = some (.pointer rp) := cell_of_row W3 _ 3 _ _ (0, 0) T3
    have c4 : W3.cell? ⟨tb, 4, none⟩ = some (.int .i64 ((l.size + 1 + r.size : Nat) : Int)) := cell_of_row W3 _ 4 _ _ (0, 0) T3
    have hk : ∀ j, j < w.heap.size → D0 j → W3.heap[j]? = w.heap[j]? := fun j _ hj => s3 j fun e => hgd (e ▸ hj)
    have CL := Lib.hid (show ∀ n, Calls Tryz.prog 64 #[.pointer lp] (W3.drewN n) _ from fun n => treeSize (W3.drewN n) ((HL.out.keep s1.size hk).below (below_drewNA (Below.refl _ W3) n)))
    have CR := Lib.hid (show ∀ n, Calls Tryz.prog 64 #[.pointer rp] (W3.drewN n) _ from fun n => treeSize (W3.drewN n) ((HRt.out.keep s1.size hk).below (below_drewNA (Below.refl _ W3) n)))
    have CE := Lib.hid (show ∀ n, Calls Tryz.prog 114 #[.int .i64 (l.size : Int), .int .i64 (r.size : Int)] (W3.drewN n) _ from fun n => weighEven (W3.drewN n) l.size r.size hsl hsr)
    rw [hev.out] at CE
    have S1 := Lib.hid s1
    have S2 := Lib.hid s2
    have g5 : IntKind.i64.wrap ((l.size : Int) + 1) = (l.size : Int) + 1 := IntWalk.i64_in _ (by omega)
    have g6 : IntKind.i64.wrap ((l.size : Int) + 1 + (r.size : Int)) = ((l.size + 1 + r.size : Nat) : Int) := by rw [IntWalk.i64_in _ (by omega)]; omega
    obtain ⟨sz, hsz'⟩ : ∃ x, x = l.size + 1 + r.size := ⟨_, rfl⟩
    rw [← hsz'] at c4 g6
    generalize l.size = a at *
    generalize r.size = b at *
    clear hW3 T3 s1 s2 s3 hk hsz' hsz hsl hsr hgd hdt gc gf
    go_quiet (first | (go_at_call 64; first | (with_reducible exact quiet_left (CL.out _)) | (with_reducible exact quiet_left (CR.out _))) | (go_at_call 114; with_reducible exact quiet_left (CE.out _)) | fail)
    go_wp2
    go_ret
    exact ⟨rfl, ⟨S1.out.os, S1.out.tape, S1.out.output, S1.out.size, S1.out.block⟩, S2.out⟩
  · obtain ⟨tb0, kp0, kc0, vp0, vc0, lp0, rp0, rfl, hdt0, trow0, hk0, hv0, hl0, hr0⟩ := ht0
    have e0 : w.cell? ⟨tb0, 0, none⟩ = some (.slice kp0 k0.length kc0) := cell_of_row w _ 0 _ _ (0, 0) trow0
    have CC := Lib.hid (show ∀ n, Calls Tryz.prog 106 #[.slice kp0 k0.length kc0, .slice kp k.length kc] (w.drewN n) _ from fun n => keysCompare (w.drewN n) (hk0.below (below_drewNA (Below.refl _ w) n)).b (hk2.below (below_drewNA (Below.refl _ w) n)).b)
    generalize Lib.compareBytes k0 k = x at *
    have gd : decide (x < 0) = true := by simp [hlt]
    clear hb hl hrt trow hr hk2 hv2 ht trow0 hk0 hv0 hl0 hr0
    go_enter Tryz.func186, Tryz.ntmps186
    go_wp2
    go_quiet (first | (go_at_call 106; with_reducible exact quiet_left (CC.out _)) | fail)
    go_wp2
    obtain ⟨W3, hW3⟩ : ∃ x, x = (w.drewN nq).setCell ⟨g, 0, none⟩ (.pointer (some ⟨tb, 0, none⟩)) := ⟨_, rfl⟩
    rw [← hW3]
    obtain ⟨s1, s2, s3⟩ := sound_set HG.out nq (.pointer (some ⟨tb, 0, none⟩)) _ hW3
    have T3 := s3 tb hne
    rw [HT.out] at T3
    have c2 : W3.cell? ⟨tb, 2, none⟩ = some (.pointer lp) := cell_of_row W3 _ 2 _ _ (0, 0) T3
    have c3 : W3.cell? ⟨tb, 3, none⟩ = some (.pointer rp) := cell_of_row W3 _ 3 _ _ (0, 0) T3
    have c4 : W3.cell? ⟨tb, 4, none⟩ = some (.int .i64 ((l.size + 1 + r.size : Nat) : Int)) := cell_of_row W3 _ 4 _ _ (0, 0) T3
    have hk : ∀ j, j < w.heap.size → D0 j → W3.heap[j]? = w.heap[j]? := fun j _ hj => s3 j fun e => hgd (e ▸ hj)
    have CL := Lib.hid (show ∀ n, Calls Tryz.prog 64 #[.pointer lp] (W3.drewN n) _ from fun n => treeSize (W3.drewN n) ((HL.out.keep s1.size hk).below (below_drewNA (Below.refl _ W3) n)))
    have CR := Lib.hid (show ∀ n, Calls Tryz.prog 64 #[.pointer rp] (W3.drewN n) _ from fun n => treeSize (W3.drewN n) ((HRt.out.keep s1.size hk).below (below_drewNA (Below.refl _ W3) n)))
    have CE := Lib.hid (show ∀ n, Calls Tryz.prog 114 #[.int .i64 (l.size : Int), .int .i64 (r.size : Int)] (W3.drewN n) _ from fun n => weighEven (W3.drewN n) l.size r.size hsl hsr)
    rw [hev.out] at CE
    have S1 := Lib.hid s1
    have S2 := Lib.hid s2
    have g5 : IntKind.i64.wrap ((l.size : Int) + 1) = (l.size : Int) + 1 := IntWalk.i64_in _ (by omega)
    have g6 : IntKind.i64.wrap ((l.size : Int) + 1 + (r.size : Int)) = ((l.size + 1 + r.size : Nat) : Int) := by rw [IntWalk.i64_in _ (by omega)]; omega
    obtain ⟨sz, hsz'⟩ : ∃ x, x = l.size + 1 + r.size := ⟨_, rfl⟩
    rw [← hsz'] at c4 g6
    generalize l.size = a at *
    generalize r.size = b at *
    clear hW3 T3 s1 s2 s3 hk hsz' hsz hsl hsr hgd hdt gc gf
    go_quiet (first | (go_at_call 64; first | (with_reducible exact quiet_left (CL.out _)) | (with_reducible exact quiet_left (CR.out _))) | (go_at_call 114; with_reducible exact quiet_left (CE.out _)) | fail)
    go_wp2
    go_ret
    exact ⟨rfl, ⟨S1.out.os, S1.out.tape, S1.out.output, S1.out.size, S1.out.block⟩, S2.out⟩
theorem asc_mid {pre' post : List PairT} {a b : PairT} (h : Asc (pre' ++ [a] ++ b :: post)) : Lib.compareBytes a.1 b.1 < 0 := by
  have := (asc_app (A := pre' ++ [a]) h).1 a (by simp)
  rw [this]; decide
set_option maxRecDepth 100000 in
theorem treeSound (w : World) {D : Nat → Prop} {p : Option Addr} {t : T} (ht : TreeAt w D p t) (hb : t.Bal) (ha : Asc t.list) (hsz : t.size ≤ 1048576) : Calls Tryz.prog 109 #[.pointer p] w (fun e w' => e = .returned (.bool true) ∧ Below w.heap.size w w') := by
  obtain ⟨W1, hW1⟩ : ∃ x, x = w.alloc (.cells #[.pointer none] 43) := ⟨_, rfl⟩
  have hz : W1.heap.size = w.heap.size + 1 := by rw [hW1]; simp
  have hB : Below w.heap.size w W1 := by rw [hW1]; exact (Below.refl _ w).alloc (Nat.le_refl _) _
  have r0 : W1.heap[w.heap.size]? = some (.cells #[.pointer none] 43) := by rw [hW1]; exact heap_alloc_new _ _
  have ht1 : TreeAt W1 (fun j => D j ∧ j ≠ w.heap.size) p t := (ht.mono (D' := fun j => D j ∧ j ≠ w.heap.size) fun k hk h => ⟨h, by omega⟩).below hB
  have CE := Lib.hid (treeEachS (g := w.heap.size) (W1 := W1) (D0 := fun j => D j ∧ j ≠ w.heap.size)
    (I := fun pre w' => W1.grownBy w' (some w.heap.size) ∧ ∃ q, w'.heap[w.heap.size]? = some (.cells #[.pointer q] 43) ∧ (pre = [] ∧ q = none ∨ ∃ pre' x l r, pre = pre' ++ [x] ∧ TreeAt w' (fun j => D j ∧ j ≠ w.heap.size) q (.node l x.1 x.2 r)))
    (fun pre w' h => ⟨h.1.size, fun j hj hd => h.1.block j hj fun e => hd.2 (by injection e)⟩) t.list
    (fun pre post w' q l k v r hI hl hq hbq hsq => by
      obtain ⟨hg, q0, hr, hc⟩ := hI
      rw [T.list_length] at hsq
      refine (soundStep w' (D0 := fun j => D j ∧ j ≠ w.heap.size) (fun h => h.2 rfl) hq hbq (by omega) hr ?_).mono ?_
      · rcases hc with ⟨_, rfl⟩ | ⟨pre', x, l0, r0, rfl, ht0⟩
        · exact .inl rfl
        · refine .inr ⟨l0, x.1, x.2, r0, ht0, ?_⟩
          rw [← hl] at ha
          exact asc_mid (b := (k, v)) ha
      · rintro e w2 ⟨rfl, hg2, hr2⟩
        exact ⟨rfl, grown_trans hg hg2, q, hr2, .inr ⟨pre, (k, v), l, r, rfl, hq.keep hg2.size fun j hj hd => hg2.block j hj fun e => hd.2 (by injection e)⟩⟩)
    t p [] [] W1 ht1 hb (by simp) ⟨⟨rfl, rfl, rfl, Nat.le_refl _, fun _ _ _ => rfl⟩, none, r0, .inl ⟨rfl, rfl⟩⟩)
  have HB := Lib.hid hB
  clear ht ht1 hb ha r0 hz hB
  have hmf : ∀ (fn : Fn) (first cap : Array Value) (w : World), (Instr.makeFunc fn first cap).run Tryz.prog w = .ok (.func fn first cap) w := fun _ _ _ _ => rfl
  go_enter Tryz.func109, Tryz.ntmps109
  go_wp2_with fail
  rw [← hW1]
  clear hW1
  go_wp2_with first
    | (go_at_call 65; ((with_reducible refine (CE.out).mono ?_)); rintro e w2 ⟨rfl, hg2, _⟩; have HG2 := Lib.hid hg2; clear hg2)
    | fail
  go_ret
  exact ⟨rfl, HB.out.trans ⟨HG2.out.os, HG2.out.tape, HG2.out.output, by have := HG2.out.size; have := HB.out.size; omega, fun k hk => HG2.out.block k (by have := HB.out.size; omega) fun e => by injection e with e; omega⟩⟩
abbrev rnV (kd hs : Nat) (pp : Option Addr) (pn pc : Nat) (sp : Option Addr) (sn sc : Nat) (kp : Option Addr) (kn kc : Nat) : Value := .agg #[.int .i64 (kd : Int), .int .u64 (hs : Int), .slice pp pn pc, .slice sp sn sc, .slice kp kn kc]
def TrueR (w : World) (e : Ending) (w' : World) : Prop := e = .returned (.bool true) ∧ Below w.heap.size w w'
set_option maxHeartbeats 2000000 in
set_option maxRecDepth 100000 in
theorem sameNone (w : World) (pp sp kp : Option Addr) (pc sc kc : Nat) : Calls Tryz.prog 57 #[.nilIface, rnV 0 0 pp 0 pc sp 0 sc kp 0 kc] w (TrueR w) := by
  have C1 := Lib.hid nodeHash0
  rw [show hashV none = .tuple #[.int .u64 0, .bool false] from rfl] at C1
  have C2 := Lib.hid nodePair0
  have C3 := Lib.hid nodeTree0
  have C4 := Lib.hid (fun w => nodeMap w (D := fun _ => True) (n := none) (x := .nilIface) rfl)
  rw [show mapV (N.mapO none) = .tuple #[.int .u32 0, .bool false] from rfl] at C4
  obtain ⟨W1, hW1⟩ : ∃ z, z = w.alloc (.cells #[.int .i64 0, .int .u64 0, .slice pp 0 pc, .slice sp 0 sc, .slice kp 0 kc] 138) := ⟨_, rfl⟩
  have hz1 : W1.heap.size = w.heap.size + 1 := by rw [hW1]; simp
  have hB1 : Below w.heap.size w W1 := by rw [hW1]; exact (Below.refl _ w).alloc (Nat.le_refl _) _
  have r1 : W1.heap[w.heap.size]? = some (.cells #[.int .i64 0, .int .u64 0, .slice pp 0 pc, .slice sp 0 sc, .slice kp 0 kc] 138) := by rw [hW1]; exact heap_alloc_new _ _
  have HC := Lib.hid (show ∀ w', Below W1.heap.size W1 w' → w'.cell? ⟨w.heap.size, 0, none⟩ = some (.int .i64 0) from fun w' hb => cell_of_row w' _ 0 _ _ (0, 0) ((hb.block w.heap.size (by omega)).trans r1))
  have HB1 := Lib.hid hB1
  clear hz1 hB1 r1
  go_enter Tryz.func57, Tryz.ntmps57
  go_wp2_with fail
  rw [← hW1]
  clear hW1
  go_wp2_with first
    | (go_at_call 44; ((with_reducible refine (C1.out _).mono ?_)); rintro e w2 ⟨rfl, rfl⟩)
    | (go_at_call 45; ((with_reducible refine (C2.out _).mono ?_)); rintro e w3 ⟨rfl, hb3⟩; have HB3 := Lib.hid (hb3.trans (((Below.refl _ w3).alloc (Nat.le_refl _) (.cells #[.slice none 0 0, .slice none 0 0] 61)).mono hb3.size)); have k0 := HC.out _ HB3.out; clear hb3)
    | (go_at_call 48; ((with_reducible refine (C3.out _).mono ?_)); rintro e w4 ⟨rfl, rfl⟩)
    | (go_at_call 102; ((with_reducible refine (C4.out _).mono ?_)); rintro e w5 ⟨rfl, rfl⟩)
    | fail
  go_ret
  exact ⟨rfl, HB1.out.trans (HB3.out.mono HB1.out.size)⟩
set_option maxHeartbeats 2000000 in
set_option maxRecDepth 100000 in
theorem sameLeaf (w : World) {D D' : Nat → Prop} {h b : Nat} {k v : List UInt8} (hx : N.At w D (.leaf h k v) (ifp 223 b)) (hkl : k.length ≤ 1000000) (hvl : v.length ≤ 1000000) {pp sp kp : Option Addr} {pc sc kc : Nat} (hr : IsRs w D' pp pc [(k, v)]) : Calls Tryz.prog 57 #[ifp 223 b, rnV 1 h pp 1 pc sp 0 sc kp 0 kc] w (TrueR w) := by
  obtain ⟨pb, po, rfl, hpl, hpd, p0, p1⟩ := hr.at_ (i := 0) (x := (k, v)) rfl
  simp only [Nat.zero_mul, Nat.add_zero] at p0 p1
  obtain ⟨W1, hW1⟩ : ∃ z, z = w.alloc (.cells #[.int .i64 1, .int .u64 (h : Int), .slice (some ⟨pb, po, none⟩) 1 pc, .slice sp 0 sc, .slice kp 0 kc] 138) := ⟨_, rfl⟩
  have hz1 : W1.heap.size = w.heap.size + 1 := by rw [hW1]; simp
  have hB1 : Below w.heap.size w W1 := by rw [hW1]; exact (Below.refl _ w).alloc (Nat.le_refl _) _
  have r1 : W1.heap[w.heap.size]? = some (.cells #[.int .i64 1, .int .u64 (h : Int), .slice (some ⟨pb, po, none⟩) 1 pc, .slice sp 0 sc, .slice kp 0 kc] 138) := by rw [hW1]; exact heap_alloc_new _ _
  have HC := Lib.hid (show ∀ w', Below W1.heap.size W1 w' → w'.cell? ⟨w.heap.size, 0, none⟩ = some (.int .i64 1) ∧ w'.cell? ⟨w.heap.size, 1, none⟩ = some (.int .u64 (h : Int)) ∧ w'.cell? ⟨w.heap.size, 2, none⟩ = some (.slice (some ⟨pb, po, none⟩) 1 pc) ∧ w'.cell? ⟨pb, po, none⟩ = some (.string (str k)) ∧ w'.cell? ⟨pb, po + 1, none⟩ = some (.string (str v)) from fun w' hb => by
    have r' := (hb.block w.heap.size (by omega)).trans r1
    have hb' := hB1.trans (hb.mono hB1.size)
    exact ⟨cell_of_row w' _ 0 _ _ (0, 0) r', cell_of_row w' _ 1 _ _ (0, 0) r', cell_of_row w' _ 2 _ _ (0, 0) r', (hb'.cell (p := ⟨pb, po, none⟩) hpl).trans p0, (hb'.cell (p := ⟨pb, po + 1, none⟩) hpl).trans p1⟩)
  have C1 := Lib.hid (show Calls Tryz.prog 44 #[ifp 223 b] W1 (fun e w'' => e = .returned (.tuple #[.int .u64 (h : Int), .bool true]) ∧ W1 = w'') from nodeHash W1 (hx.below hB1))
  have C2 := Lib.hid (show Calls Tryz.prog 45 #[ifp 223 b] W1 (fun e w'' => ∃ kp kc vp vc, e = .returned (.tuple #[pairV kp kc k vp vc v, .bool true]) ∧ IsD w'' (fun _ => True) kp kc k ∧ IsD w'' (fun _ => True) vp vc v ∧ Below W1.heap.size W1 w'') from nodePairLeaf W1 (fun _ => True) (fun _ _ => trivial) (hx.below hB1) (by omega) (by omega))
  have C3 := Lib.hid (fun w => nodeTreeNo w 223 b (.inl rfl))
  have C4 := Lib.hid (show ∀ w', Below W1.heap.size W1 w' → Calls Tryz.prog 102 #[ifp 223 b] w' (fun e w'' => e = .returned (.tuple #[.int .u32 0, .bool false]) ∧ w' = w'') from fun w' hb => nodeMap w' (n := some (.leaf h k v)) (hx.below (hB1.trans (hb.mono hB1.size))))
  have HB1 := Lib.hid hB1
  have q0 := mKind223
  have q1 := kindLeaf
  have q2 := nil42
  have qk := strEq_t (a := k) (b := k) rfl
  have qv := strEq_t (a := v) (b := v) rfl
  clear hz1 hB1 r1 hx hr hpl hpd p0 p1
  go_enter Tryz.func57, Tryz.ntmps57
  go_wp2_with fail
  rw [← hW1]
  clear hW1
  go_wp2_with first
    | (go_at_call 44; ((with_reducible refine (C1.out).mono ?_)); rintro e w2 ⟨rfl, rfl⟩)
    | (go_at_call 45; ((with_reducible refine (C2.out).mono ?_)); rintro e w3 ⟨kp3, kc3, vp3, vc3, rfl, hk3, hv3, hb3⟩; have ha := (Below.refl _ w3).alloc (Nat.le_refl _) (.cells #[.slice kp3 k.length kc3, .slice vp3 v.length vc3] 61); have HB3 := Lib.hid (hb3.trans (ha.mono hb3.size)); have HK5 := Lib.hid (hk3.below ha); have HV5 := Lib.hid (hv3.below ha); obtain ⟨k0, k1, k2, k3, k4⟩ := HC.out _ HB3.out; clear hb3 hk3 hv3 ha)
    | (go_at_call 48; ((with_reducible refine (C3.out _).mono ?_)); rintro e w4 ⟨rfl, rfl⟩)
    | (go_at_call 102; ((with_reducible refine (C4.out _ HB3.out).mono ?_)); rintro e w5 ⟨rfl, rfl⟩)
    | fail
  obtain ⟨W5, hW5⟩ : ∃ z, z = w3.alloc (.cells #[.slice kp3 k.length kc3, .slice vp3 v.length vc3] 61) := ⟨_, rfl⟩
  have r5 : W5.heap[w3.heap.size]? = some (.cells #[.slice kp3 k.length kc3, .slice vp3 v.length vc3] 61) := by rw [hW5]; exact heap_alloc_new _ _
  have u0 : W5.cell? ⟨w3.heap.size, 0, none⟩ = some (.slice kp3 k.length kc3) := cell_of_row W5 _ 0 _ _ (0, 0) r5
  have u1 : W5.cell? ⟨w3.heap.size, 1, none⟩ = some (.slice vp3 v.length vc3) := cell_of_row W5 _ 1 _ _ (0, 0) r5
  rw [← hW5] at k0 k1 k2 k3 k4 HB3 HK5 HV5 ⊢
  have v1 : ∀ m, (convert 22 9 (.slice kp3 k.length kc3)).run Tryz.prog (W5.drewN m) = .ok (.string (str k)) (W5.drewN m) := fun m => (HK5.out.b.drewN m).convert Tryz.underlying22 Tryz.underlying5 Tryz.underlying9
  have v2 : ∀ m, (convert 22 9 (.slice vp3 v.length vc3)).run Tryz.prog (W5.drewN m) = .ok (.string (str v)) (W5.drewN m) := fun m => (HV5.out.b.drewN m).convert Tryz.underlying22 Tryz.underlying5 Tryz.underlying9
  clear r5 hW5
  go_quiet (first | (go_at_call 366; with_reducible exact quiet_left (q1 _ _)) | fail)
  go_wp2
  go_quiet (fail)
  go_wp2
  go_ret
  exact ⟨rfl, HB1.out.trans (below_drewNA (below_drewNA (HB3.out.mono HB1.out.size) _) _)⟩
set_option maxHeartbeats 2000000 in
set_option maxRecDepth 100000 in
theorem sameBucket (w : World) {D D' : Nat → Prop} {h b : Nat} {t : T} (hx : N.At w D (.bucket h t) (ifp 226 b)) (hb : t.Bal) (ha : Asc t.list) (hsm : t.Small) (hsz : t.size ≤ 1000000) {pp sp kp : Option Addr} {pc sc kc : Nat} (hr : IsRs w D' pp pc t.list) : Calls Tryz.prog 57 #[ifp 226 b, rnV 2 h pp t.list.length pc sp 0 sc kp 0 kc] w (TrueR w) := by
  obtain ⟨n, hn⟩ : ∃ n, t.list.length = n := ⟨_, rfl⟩
  have hnl : n = t.size := by rw [← hn, T.list_length]
  obtain ⟨W1, hW1⟩ : ∃ z, z = w.alloc (.cells #[.int .i64 2, .int .u64 (h : Int), .slice pp n pc, .slice sp 0 sc, .slice kp 0 kc] 138) := ⟨_, rfl⟩
  have hz1 : W1.heap.size = w.heap.size + 1 := by rw [hW1]; simp
  have hB1 : Below w.heap.size w W1 := by rw [hW1]; exact (Below.refl _ w).alloc (Nat.le_refl _) _
  have r1 : W1.heap[w.heap.size]? = some (.cells #[.int .i64 2, .int .u64 (h : Int), .slice pp n pc, .slice sp 0 sc, .slice kp 0 kc] 138) := by rw [hW1]; exact heap_alloc_new _ _
  have HC := Lib.hid (show ∀ w', Below W1.heap.size W1 w' → w'.cell? ⟨w.heap.size, 0, none⟩ = some (.int .i64 2) ∧ w'.cell? ⟨w.heap.size, 1, none⟩ = some (.int .u64 (h : Int)) ∧ w'.cell? ⟨w.heap.size, 2, none⟩ = some (.slice pp n pc) from fun w' hb => by
    have r' := (hb.block w.heap.size (by omega)).trans r1
    exact ⟨cell_of_row w' _ 0 _ _ (0, 0) r', cell_of_row w' _ 1 _ _ (0, 0) r', cell_of_row w' _ 2 _ _ (0, 0) r'⟩)
  have C1 := Lib.hid (show Calls Tryz.prog 44 #[ifp 226 b] W1 (fun e w'' => e = .returned (.tuple #[.int .u64 (h : Int), .bool true]) ∧ W1 = w'') from nodeHash W1 (hx.below hB1))
  have C2 := Lib.hid (nodePairNo W1 (fun _ => True) 226 b (.inl rfl))
  have C3 := Lib.hid (show ∀ w', Below W1.heap.size W1 w' → Calls Tryz.prog 48 #[ifp 226 b] w' _ from fun w' hb => nodeTree w' (hx.below (hB1.trans (hb.mono hB1.size))))
  have C4 := Lib.hid (show ∀ w', Below W1.heap.size W1 w' → Calls Tryz.prog 102 #[ifp 226 b] w' (fun e w'' => e = .returned (.tuple #[.int .u32 0, .bool false]) ∧ w' = w'') from fun w' hb => nodeMap w' (n := some (.bucket h t)) (hx.below (hB1.trans (hb.mono hB1.size))))
  have C5 := Lib.hid (show ∀ w' p, TreeAt w' D p t → Calls Tryz.prog 109 #[.pointer p] w' _ from fun w' p ht => treeSound w' ht hb ha (by omega))
  have C6 := Lib.hid (show ∀ w' p, TreeAt w' D p t → Calls Tryz.prog 22 #[.pointer p] w' (fun e w'' => ∃ r : Nat, e = .returned (.slice (some ⟨r, 0, none⟩) n n) ∧ IsPs w'' (fun _ => True) (some ⟨r, 0, none⟩) n t.list ∧ Below w'.heap.size w' w'') from fun w' p ht => (treeList w' ht hb hsm (by omega)).mono fun e w'' ⟨r, B, vs, h1, h2, h3, h4, h5, h6, h7⟩ => ⟨r, by rw [hn] at h1; exact h1, by rw [← hn]; exact ListR.isPs (D := fun _ => True) (w := w') (fun _ _ => trivial) h2 h3 h4 h5, h7⟩)
  have C7 := Lib.hid (show ∀ w' q, Below W1.heap.size W1 w' → IsPs w' (fun _ => True) q n t.list → Calls Tryz.prog 21 #[.slice q n n, .slice pp n pc] w' (fun e w'' => e = .returned (.bool true) ∧ ∃ m, w'' = w'.drewN m) from fun w' q hb hq => by
    have := ref04Is w' hq (hr.below (hB1.trans (hb.mono hB1.size))) (by omega)
    rwa [hn] at this)
  have HB1 := Lib.hid hB1
  have q0 := mKind226
  have q1 := kindBucket
  have q2 := nil42
  rw [hn]
  clear hz1 hB1 r1 hx hr hb ha hsm hsz hnl hn
  go_enter Tryz.func57, Tryz.ntmps57
  go_wp2_with fail
  rw [← hW1]
  clear hW1
  go_wp2_with first
    | (go_at_call 44; ((with_reducible refine (C1.out).mono ?_)); rintro e w2 ⟨rfl, rfl⟩)
    | (go_at_call 45; ((with_reducible refine (C2.out).mono ?_)); rintro e w3 ⟨rfl, hb3⟩; have HB3 := Lib.hid (hb3.trans (((Below.refl _ w3).alloc (Nat.le_refl _) (.cells #[.slice none 0 0, .slice none 0 0] 61)).mono hb3.size)); obtain ⟨k0, k1, k2⟩ := HC.out _ HB3.out; clear hb3)
    | (go_at_call 48; ((with_reducible refine (C3.out _ HB3.out).mono ?_)); rintro e w4 ⟨p4, rfl, ht4, rfl⟩; have HT4 := Lib.hid ht4; clear ht4)
    | (go_at_call 102; ((with_reducible refine (C4.out _ HB3.out).mono ?_)); rintro e w5 ⟨rfl, rfl⟩)
    | fail
  obtain ⟨W5, hW5⟩ : ∃ z, z = w3.alloc (.cells #[.slice none 0 0, .slice none 0 0] 61) := ⟨_, rfl⟩
  rw [← hW5] at k0 k1 k2 HB3 HT4 ⊢
  clear hW5
  go_quiet (first | (go_at_call 368; with_reducible exact quiet_left (q1 _ _)) | fail)
  go_wp2
  have UP := Lib.hid (show ∀ w', Below W5.heap.size W5 w' → Below W1.heap.size W1 w' from fun w' h => HB3.out.trans (h.mono HB3.out.size))
  have HQ := Lib.hid (below_drewNA (Below.refl W5.heap.size W5) (nq + 1))
  clear k0 k1 k2
  have hHeld0 := (HC.out _ (UP.out _ HQ.out)).2.2
  go_region_held3 (fun w' => w'.cell? ⟨w.heap.size, 2, none⟩ = some (.slice pp n pc))
    (first | exact (HC.out _ (UP.out _ HB8.out)).2.2 | exact (HC.out _ (UP.out _ HB7.out)).2.2 | exact (HC.out _ (UP.out _ HB6.out)).2.2 | exact hHeld0 | fail)
    (first
      | (go_at_call 109; ((with_reducible refine (C5.out _ _ (HT4.out.below HQ.out)).mono ?_)); rintro e w6 ⟨rfl, hb6⟩; have HB6 := Lib.hid (HQ.out.trans hb6); clear hb6)
      | (go_at_call 22; ((with_reducible refine (C6.out _ _ (HT4.out.below HB6.out)).mono ?_)); rintro e w7 ⟨r7, rfl, hp7, hb7⟩; have HP7 := Lib.hid hp7; have HB7 := Lib.hid (HB6.out.trans (hb7.mono HB6.out.size)); clear hp7 hb7)
      | (go_at_call 21; ((with_reducible refine (C7.out _ _ (UP.out _ HB7.out) HP7.out).mono ?_)); rintro e w8 ⟨rfl, m8, rfl⟩; have HB8 := Lib.hid (below_drewNA HB7.out m8))
      | fail)
  go_wp2
  go_ret
  exact ⟨rfl, HB1.out.trans ((UP.out _ HB8.out).mono HB1.out.size)⟩
set_option maxHeartbeats 4000000 in
set_option maxRecDepth 100000 in
theorem sameBranch (w : World) {D D' : Nat → Prop} {m b : Nat} {ks : List N} {rs : List RN} (hx : N.At w D (.branch m ks) (ifp 308 b)) (hm : m < 4294967296) (hks : ks.length = cntUp 32 m) (hrs : rs.length = ks.length) {pp sp kp : Option Addr} {pc sc kc : Nat} {cs : List Value} (hS : IsVs w D' sp sc ((bitsOf m).map ivR)) (hK : IsKs w D' kp kc rs.length cs) (hA : RN.Ats w D' rs cs)
    (IH : ∀ (i : Nat) (n : N) (r : RN) (w' : World) (x : Value) (vs : List Value), ks[i]? = some n → rs[i]? = some r → N.At w' D n x → RN.At w' D' r vs → Calls Tryz.prog 57 #[x, .agg vs.toArray] w' (TrueR w')) :
    Calls Tryz.prog 57 #[ifp 308 b, rnV 3 0 pp 0 pc sp (bitsOf m).length sc kp rs.length kc] w (TrueR w) := by
  obtain ⟨ns, hns⟩ : ∃ ns, (bitsOf m).length = ns := ⟨_, rfl⟩
  have hn32 : ns ≤ 32 := by
    rw [← hns]
    unfold bitsOf bitsUp
    exact Nat.le_trans (List.length_filter_le _ _) (by simp)
  obtain ⟨W1, hW1⟩ : ∃ z, z = w.alloc (.cells #[.int .i64 3, .int .u64 0, .slice pp 0 pc, .slice sp ns sc, .slice kp rs.length kc] 138) := ⟨_, rfl⟩
  have hz1 : W1.heap.size = w.heap.size + 1 := by rw [hW1]; simp
  have hB1 : Below w.heap.size w W1 := by rw [hW1]; exact (Below.refl _ w).alloc (Nat.le_refl _) _
  have r1 : W1.heap[w.heap.size]? = some (.cells #[.int .i64 3, .int .u64 0, .slice pp 0 pc, .slice sp ns sc, .slice kp rs.length kc] 138) := by rw [hW1]; exact heap_alloc_new _ _
  have HC := Lib.hid (show ∀ w', Below W1.heap.size W1 w' → w'.cell? ⟨w.heap.size, 0, none⟩ = some (.int .i64 3) ∧ w'.cell? ⟨w.heap.size, 1, none⟩ = some (.int .u64 0) ∧ w'.cell? ⟨w.heap.size, 3, none⟩ = some (.slice sp ns sc) ∧ w'.cell? ⟨w.heap.size, 4, none⟩ = some (.slice kp rs.length kc) from fun w' hb => by
    have r' := (hb.block w.heap.size (by omega)).trans r1
    exact ⟨cell_of_row w' _ 0 _ _ (0, 0) r', cell_of_row w' _ 1 _ _ (0, 0) r', cell_of_row w' _ 3 _ _ (0, 0) r', cell_of_row w' _ 4 _ _ (0, 0) r'⟩)
  have C1 := Lib.hid (show Calls Tryz.prog 44 #[ifp 308 b] W1 (fun e w'' => e = .returned (.tuple #[.int .u64 0, .bool false]) ∧ W1 = w'') from nodeHash W1 (hx.below hB1))
  have C2 := Lib.hid (nodePairNo W1 (fun _ => True) 308 b (.inr rfl))
  have C3 := Lib.hid (fun w => nodeTreeNo w 308 b (.inr rfl))
  have C4 := Lib.hid (show ∀ w', Below W1.heap.size W1 w' → Calls Tryz.prog 102 #[ifp 308 b] w' (fun e w'' => e = .returned (.tuple #[.int .u32 (m : Int), .bool true]) ∧ w' = w'') from fun w' hb => nodeMap w' (n := some (.branch m ks)) (hx.below (hB1.trans (hb.mono hB1.size))))
  have C5 := Lib.hid (show ∀ w', Below W1.heap.size W1 w' → Calls Tryz.prog 110 #[.slice sp ns sc] w' _ from fun w' hb => by
    have := ref07Number w' (hS.below (hB1.trans (hb.mono hB1.size))) hm
    rwa [hns] at this)
  have HB1 := Lib.hid hB1
  have q0 := mKind308
  have q1 := kindBranch
  have q2 := nil42
  rw [hns]
  have HX := Lib.hid hx
  have HS := Lib.hid hS
  have HK := Lib.hid hK
  have HA := Lib.hid hA
  have HIH := Lib.hid IH
  have HKS := Lib.hid hks
  have HRS := Lib.hid hrs
  have HNS := Lib.hid hns
  clear hz1 hB1 r1 hx hS hK hA IH hks hrs hns
  go_enter Tryz.func57, Tryz.ntmps57
  go_wp2_with fail
  rw [← hW1]
  clear hW1
  go_wp2_with first
    | (go_at_call 44; ((with_reducible refine (C1.out).mono ?_)); rintro e w2 ⟨rfl, rfl⟩)
    | (go_at_call 45; ((with_reducible refine (C2.out).mono ?_)); rintro e w3 ⟨rfl, hb3⟩; have HB3 := Lib.hid (hb3.trans (((Below.refl _ w3).alloc (Nat.le_refl _) (.cells #[.slice none 0 0, .slice none 0 0] 61)).mono hb3.size)); obtain ⟨k0, k1, k3, k4⟩ := HC.out _ HB3.out; clear hb3)
    | (go_at_call 48; ((with_reducible refine (C3.out _).mono ?_)); rintro e w4 ⟨rfl, rfl⟩)
    | (go_at_call 102; ((with_reducible refine (C4.out _ HB3.out).mono ?_)); rintro e w5 ⟨rfl, rfl⟩)
    | fail
  obtain ⟨W5, hW5⟩ : ∃ z, z = w3.alloc (.cells #[.slice none 0 0, .slice none 0 0] 61) := ⟨_, rfl⟩
  rw [← hW5] at k0 k1 k3 k4 HB3 ⊢
  clear hW5
  go_quiet (first | (go_at_call 370; with_reducible exact quiet_left (q1 _ _)) | fail)
  have UP := Lib.hid (show ∀ w', Below W5.heap.size W5 w' → Below W1.heap.size W1 w' from fun w' h => HB3.out.trans (h.mono HB3.out.size))
  have HQ := Lib.hid (below_drewNA (Below.refl W5.heap.size W5) nq)
  go_wp2_with first
    | (go_at_call 110; ((with_reducible refine (C5.out _ (UP.out _ HQ.out)).mono ?_)); rintro e w6 ⟨rfl, rfl⟩)
    | fail
  clear k0 k1 k3 k4
  go_loopw [13] (fun v13 wr => ∃ c : Int, v13 = .int .i64 c ∧ -1 ≤ c ∧ c ≤ 33 ∧ Hid (Below W5.heap.size W5 wr)) (fun v13 _ => (33 - intOf v13).toNat)
  case atStart => exact ⟨-1, rfl, by omega, by omega, HQ⟩
  case round =>
    obtain ⟨c, rfl, hc1, hc2, HB⟩ := hrel
    by_cases hlt : c < 33
    · have CKid : Hid (Calls Tryz.prog 103 #[ifp 308 b, .int .i64 c] wr (fun e w' => ∃ v ok, e = .returned (.tuple #[v, .bool ok]) ∧ NodeAt wr D (if ok then kidN m ks c.toNat else none) v ∧ (ok = true → 0 ≤ c ∧ c < 32) ∧ ok = (decide (0 ≤ c ∧ c < 32) && m.testBit c.toNat) ∧ ∃ n, w' = wr.drewN n)) := by
        have hxr := HX.out.below (HB1.out.trans ((UP.out _ HB.out).mono HB1.out.size))
        by_cases h : 0 ≤ c ∧ c < 32
        · obtain ⟨k, rfl⟩ : ∃ k : Nat, c = (k : Int) := ⟨c.toNat, by omega⟩
          refine (nodeKid wr hxr hm HKS.out (c := k) (by omega)).mono ?_
          rintro e w' ⟨v, rfl, hv, n, rfl⟩
          refine ⟨v, m.testBit k, rfl, ?_, fun _ => h, ?_, n, rfl⟩
          · cases hb : m.testBit k with
            | true => exact hv
            | false =>
              have hv' : NodeAt wr D (kidN m ks k) v := hv
              unfold kidN at hv'
              rw [hb] at hv'
              exact hv'
          · rw [decide_eq_true h]; rfl
        · refine (nodeKidOut wr hxr hm c (by omega)).mono ?_
          rintro e w' ⟨rfl, rfl⟩
          exact ⟨.nilIface, false, rfl, rfl, fun h => (by cases h), by rw [decide_eq_false h]; rfl, 0, rfl⟩
      have d3 := (HC.out _ (UP.out _ HB.out)).2.2.1
      go_wp2_with first
        | (go_at_call 103; ((with_reducible refine (CKid.out).mono ?_)); rintro e w7 ⟨v, ok, rfl, hv, hok, hob, n7, rfl⟩; have HV := Lib.hid hv; have HOK := Lib.hid hok; have HOB := Lib.hid hob; clear hv hok hob)
        | fail
      have HB7 : Hid (Below W5.heap.size W5 (wr.drewN n7)) := below_drewNA HB.out n7
      have HV2 := Lib.hid (NodeAt.below HV.out (below_drewNA (Below.refl wr.heap.size wr) n7))
      clear HV
      generalize wr.drewN n7 = wA at *
      go_loopw [16, 177] (fun v16 v177 wr => ∃ (i : Nat) (j : Int), v16 = .int .i64 j ∧ v177 = .int .i64 (i : Int) ∧ i ≤ ns ∧ Hid (wr = wA) ∧ Hid ((j = -1 ∧ ∀ t < i, ∀ a, (bitsOf m)[t]? = some a → (a : Int) ≠ c) ∨ ∃ t a : Nat, j = (t : Int) ∧ t < i ∧ (bitsOf m)[t]? = some a ∧ (a : Int) = c)) (fun _ v177 _ => ns - (intOf v177).toNat)
      case atStart => exact ⟨0, -1, rfl, rfl, by omega, rfl, Lib.hid (.inl ⟨rfl, fun t h => absurd h (Nat.not_lt_zero _)⟩)⟩
      case round =>
        obtain ⟨i, j, rfl, rfl, hi, HWr, HJ⟩ := hrel
        obtain rfl := HWr.out
        have HBr : Hid (Below W5.heap.size W5 wr) := HB7
        by_cases hin : i < ns
        · obtain ⟨a, ha⟩ : ∃ a, (bitsOf m)[i]? = some a := ⟨_, List.getElem?_eq_getElem (by rw [HNS.out]; exact hin)⟩
          have hSr := HS.out.below (HB1.out.trans ((UP.out _ HBr.out).mono HB1.out.size))
          obtain ⟨sb, so, rfl, _, _, hcell⟩ := hSr.cells (by rw [List.length_map, HNS.out]; omega)
          have c0 : wr.cell? ⟨sb, so + i, none⟩ = some (.int .i64 (a : Int)) := hcell i (ivR a) (by rw [List.getElem?_map, ha]; rfl)
          have d3 := (HC.out _ (UP.out _ HBr.out)).2.2.1
          have g1 : (i : Int) < (ns : Int) := by omega
          have HAi := Lib.hid ha
          clear ha hSr hcell
          by_cases hac : (a : Int) = c
          · subst hac
            go_wp2
            go_roundw
            case rel => exact ⟨i + 1, (i : Int), rfl, congrArg (Value.int .i64) (by omega), by omega, (by first | exact rfl | exact trivial), Lib.hid (.inr ⟨i, a, rfl, by omega, HAi.out, rfl⟩)⟩
            case measure => simp [intOf]; omega
          · have gd : ((a : Int) == c) = false := by simpa using hac
            have HACc := Lib.hid hac
            clear hac
            go_wp2
            go_roundw
            case rel => exact ⟨i + 1, j, rfl, congrArg (Value.int .i64) (by omega), by omega, (by first | exact rfl | exact trivial), Lib.hid (HJ.out.imp (fun h => ⟨h.1, fun t ht b hb => by
              rcases Nat.lt_or_ge t i with h2 | h2
              · exact h.2 t h2 b hb
              · obtain rfl : t = i := by omega
                rw [HAi.out] at hb
                injection hb with hb
                subst hb
                exact HACc.out⟩) fun ⟨t, b, h1, h2, h3, h4⟩ => ⟨t, b, h1, by omega, h3, h4⟩)⟩
            case measure => simp [intOf]; omega
        · have hiN : i = ns := by omega
          subst hiN
          have g1 : ¬ (i : Int) < (i : Int) := by omega
          have g5 : IntKind.i64.wrap (c + 1) = c + 1 := IntWalk.i64_in _ (by omega)
          rcases HJ.out with ⟨rfl, hno⟩ | ⟨t, a, rfl, ht, ha, rfl⟩
          · have hok : ok = false := by
              cases ok with
              | false => rfl
              | true =>
                have h1 := HOK.out rfl
                have h2 := HOB.out
                rw [decide_eq_true h1] at h2
                have h3 : m.testBit c.toNat = true := h2.symm
                have h4 := bits_at (k := 32) (i := c.toNat) (by omega) h3
                have h5 := (List.getElem?_eq_some_iff.1 h4).1
                exact absurd (by omega) (hno (cntUp c.toNat m) (by rw [← HNS.out]; exact h5) _ h4)
            subst hok
            have hv : v = .nilIface := HV2.out
            subst hv
            clear HOK HOB hno
            go_wp2
            go_roundw
            case rel => exact ⟨c + 1, rfl, by omega, by omega, HBr⟩
            case measure => simp [intOf]; omega
          · obtain ⟨h32, hbit, hcnt⟩ := bits_idx (show (bitsUp 32 m)[t]? = some a from ha)
            have hok : ok = true := by
              have h2 := HOB.out
              rw [decide_eq_true (by omega), Int.toNat_natCast, hbit] at h2
              exact h2
            subst hok
            have hv := HV2.out
            simp only [if_true, Int.toNat_natCast] at hv
            unfold kidN at hv
            rw [hbit, hcnt] at hv
            simp only [if_true] at hv
            have htk : t < ks.length := by
              have h1 := (List.getElem?_eq_some_iff.1 ha).1
              have h2 := HKS.out
              unfold cntUp at h2
              unfold bitsOf at h1
              omega
            obtain ⟨n, hn⟩ : ∃ n, ks[t]? = some n := ⟨_, List.getElem?_eq_getElem htk⟩
            have htr : t < rs.length := by have := HRS.out; omega
            obtain ⟨r, hr⟩ : ∃ r, rs[t]? = some r := ⟨_, List.getElem?_eq_getElem htr⟩
            rw [hn] at hv
            obtain ⟨vs, hvs, hat⟩ := RN.Ats.at_ HA.out hr
            have h5 := hvs.length
            obtain ⟨v0, v1, v2, v3, v4, rfl⟩ : ∃ v0 v1 v2 v3 v4, vs = [v0, v1, v2, v3, v4] := by
              match vs, h5 with
              | [v0, v1, v2, v3, v4], _ => exact ⟨v0, v1, v2, v3, v4, rfl⟩
            obtain ⟨kb, ko, rfl, hkl, hkd, hcell⟩ := HK.out.cells (by omega)
            have ub := HB1.out.trans ((UP.out _ HBr.out).mono HB1.out.size)
            have k0 : wr.cell? ⟨kb, ko + t * 5, none⟩ = some v0 := (ub.cell (p := ⟨kb, ko + t * 5, none⟩) hkl).trans (hcell (t * 5) v0 (hat 0 v0 rfl))
            have k1 : wr.cell? ⟨kb, ko + t * 5 + 1, none⟩ = some v1 := (ub.cell (p := ⟨kb, ko + t * 5 + 1, none⟩) hkl).trans (hcell (t * 5 + 1) v1 (hat 1 v1 rfl))
            have k2 : wr.cell? ⟨kb, ko + t * 5 + 2, none⟩ = some v2 := (ub.cell (p := ⟨kb, ko + t * 5 + 2, none⟩) hkl).trans (hcell (t * 5 + 2) v2 (hat 2 v2 rfl))
            have k3 : wr.cell? ⟨kb, ko + t * 5 + 3, none⟩ = some v3 := (ub.cell (p := ⟨kb, ko + t * 5 + 3, none⟩) hkl).trans (hcell (t * 5 + 3) v3 (hat 3 v3 rfl))
            have k4 : wr.cell? ⟨kb, ko + t * 5 + 4, none⟩ = some v4 := (ub.cell (p := ⟨kb, ko + t * 5 + 4, none⟩) hkl).trans (hcell (t * 5 + 4) v4 (hat 4 v4 rfl))
            have CS : Hid (Calls Tryz.prog 57 #[v, .agg #[v0, v1, v2, v3, v4]] wr (TrueR wr)) := HIH.out t n r wr v [v0, v1, v2, v3, v4] hn hr hv (RN.At.below hvs ub)
            have d4 := (HC.out _ (UP.out _ HBr.out)).2.2.2
            have g6 : (t : Int) < (rs.length : Int) := by omega
            clear HOK HOB HV2 hv ha hn hr hvs hat h5 hcell hbit hcnt h32 htk htr ub hkl hkd ht
            go_wp2_with first
              | (go_at_call 57; ((with_reducible refine (CS.out).mono ?_)); rintro e w8 ⟨rfl, hb8⟩; have HB8 := Lib.hid (HBr.out.trans (hb8.mono HBr.out.size)))
              | fail
            go_roundw
            case rel => exact ⟨(a : Int) + 1, rfl, by omega, by omega, HB8⟩
            case measure => simp [intOf]; omega
    · have hc : c = 33 := by omega
      subst hc
      go_wp2
      go_ret
      exact ⟨rfl, HB1.out.trans ((UP.out _ HB.out).mono HB1.out.size)⟩
theorem sameNode {n : N} {r : RN} (h : Agr n r) : ∀ (w : World) {D D' : Nat → Prop} {x : Value} {vs : List Value} {L : Nat}, N.At w D n x → RN.At w D' r vs → n.fit L → n.count ≤ 1000000 → Calls Tryz.prog 57 #[x, .agg vs.toArray] w (TrueR w) := by
  induction h with
  | leaf h k v =>
    intro w D D' x vs L hx hr hf hc
    obtain ⟨b, rfl, _⟩ := N.At.form hx
    unfold RN.At at hr
    obtain ⟨pp, pc, sp, sc, kp, kc, cs, rfl, h1, _⟩ := hr
    unfold N.fit at hf
    exact sameLeaf w hx hf.2.1 hf.2.2 h1
  | bucket h t h2 hb ha =>
    intro w D D' x vs L hx hr hf hc
    obtain ⟨b, rfl, _⟩ := N.At.form hx
    unfold RN.At at hr
    obtain ⟨pp, pc, sp, sc, kp, kc, cs, rfl, h1, _⟩ := hr
    unfold N.fit at hf
    have hc' : t.size ≤ 1000000 := hc
    exact sameBucket w hx hb ha (fun y hy => by have := hf.2.2.1 y hy; omega) hc' h1
  | branch m ks rs h1 h2 h3 h4 ih =>
    intro w D D' x vs L hx hr hf hc
    obtain ⟨b, rfl, _⟩ := N.At.form hx
    unfold RN.At at hr
    obtain ⟨pp, pc, sp, sc, kp, kc, cs, rfl, g1, g2, g3, g4⟩ := hr
    unfold N.fit at hf
    have hc' : N.counts ks ≤ 1000000 := hc
    exact sameBranch w hx h1 h2 h3 g2 g3 g4 fun i n r w' x vs hn hr' hx' hvs =>
      ih i n r hn hr' w' hx' hvs (fits_iff.1 hf.2.2.2.2.1 n (List.mem_of_getElem? hn)) (Nat.le_trans (counts_mem (List.mem_of_getElem? hn)) hc')
theorem sameAny {n : Option N} {r : RN} (h : AgrO n r) (w : World) {D D' : Nat → Prop} {x : Value} {vs : List Value} (hx : NodeAt w D n x) (hr : RN.At w D' r vs) (hf : ∀ m, n = some m → m.fit 0 ∧ m.count ≤ 1000000) : Calls Tryz.prog 57 #[x, .agg vs.toArray] w (TrueR w) := by
  cases n with
  | none =>
    obtain rfl : x = .nilIface := hx
    obtain rfl : r = .mk 0 0 [] [] [] := h
    unfold RN.At at hr
    obtain ⟨pp, pc, sp, sc, kp, kc, cs, rfl, _⟩ := hr
    exact sameNone w pp sp kp pc sc kc
  | some n => exact sameNode h w hx hr (hf n rfl).1 (hf n rfl).2
end Go.Proofs.YtmbiiemlepfoaaaGreatDoor
