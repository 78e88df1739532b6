/- The walks of bits.Map's Nth at 0, Without. The walks of prune.collapse, pick, without. Where two trees are joined a turn does: even never lays them out anew. The walks of the reference's sets: Has, Number. The walk of the reference's Way. -/
import Derived.Test.YtmbiiemlepfoaaaGreatDoorFl15
import Derived.RangeFuncWrites
import Derived.RangeFuncKeeps
import Derived.Test.YtmbiiemlepfoaaaGreatDoorFl12
import Derived.Test.YtmbiiemlepfoaaaGreatDoorFl13
import Derived.Test.YtmbiiemlepfoaaaGreatDoorFl08
import Derived.Test.YtmbiiemlepfoaaaGreatDoorFl01
import Derived.Laws.Rows

namespace Go.Proofs.YtmbiiemlepfoaaaGreatDoor
open Go.RowKit Go.Shelf
set_option linter.unusedVariables false
attribute [local go_sem] Oper.semAt_some
set_option maxRecDepth 100000 in
set_option maxHeartbeats 4000000 in
theorem bitsSeqP (w0 : World) {n₀ B m : Nat} (hm : m < 4294967296) (hB : w0.heap[B]? = some (.cells #[.int .u32 (m : Int)] 218)) (h2 : 2 < n₀) (hn : n₀ ≤ w0.heap.size) (hT : TabAt 2 Lib.deBruijn32tab w0) :
    SeqStopsK Fence.wide 2 Tryz.prog 322 #[.pointer (some ⟨B, 0, none⟩)] encB (Below n₀) (fun xs => xs.map (·.val) = bitsOf m) (fun xs => ∃ r, xs.map (·.val) ++ r = bitsOf m) 33 w0 := by
  intro l J Jx W hW hJ hJx hY h0
  have hBl := row_ltT hB
  have c1 : W.cell? ⟨B, 0, none⟩ = some (.int .u32 (m : Int)) := (hW.cell (p := ⟨B, 0, none⟩) hBl).trans (cell_of_row w0 B 0 _ _ (0, 0) hB)
  have hT' : TabAt 2 Lib.deBruijn32tab W := tab_keep hT (hW.block 2 (by omega))
  have HT := Lib.hid hT'
  have hn' := hW.size
  have HJ := Lib.hid hJ
  have HJx := Lib.hid hJx
  have HY := Lib.hid hY
  have H0 := Lib.hid h0
  have HLEN : Hid (∀ pre : List (Fin 32), ∀ rest, pre.map (·.val) ++ rest = bitsOf m → pre.length < 33) := fun pre rest h => by
    have h1 := congrArg List.length h
    have h2 : (bitsOf m).length ≤ 32 := cnt_le 32 m
    rw [List.length_append, List.length_map] at h1
    omega
  clear hT hT' hJ hJx hY h0 hB hW
  refine callsIn_of_wp Tryz.func322 rfl trivial ?_ rfl
  simp only [Tryz.ntmps322, List.size_toArray, List.length_cons, List.length_nil, Nat.reduceAdd, Nat.reduceSub, Array.replicate_succ, Array.replicate_zero, List.push_toArray, List.append_toArray, List.nil_append, List.cons_append]
  gi_wp2
  gi_loopw [3] (fun v3 wr => ∃ (left : Nat) (pre : List (Fin 32)), v3 = .int .u32 (left : Int) ∧ left < 4294967296 ∧ Hid (pre.map (·.val) ++ bitsOf left = bitsOf m) ∧ Hid (J pre wr) ∧ Hid (Below n₀ W wr))
    (fun v3 _ => (intOf v3).toNat)
  case atStart => exact ⟨m, [], rfl, hm, rfl, H0.out, Below.refl _ _⟩
  case round =>
    obtain ⟨left, pre, rfl, hl, HP, HJp, HBW⟩ := hrel
    by_cases hz : left = 0
    · subst hz
      have HS := Lib.hid (show pre.map (·.val) = bitsOf m from by have := HP.out; rwa [bits_zero, List.append_nil] at this)
      gi_wp2
      go_end0
      exact ⟨⟨_, rfl⟩, .inl ⟨pre, HS.out, HJp.out⟩⟩
    · obtain ⟨hc32, hlt, hnext⟩ := bits_next hz hl
      have CT := Lib.hid (tz32 wr left hl hz (tab_keep HT.out (HBW.out.block 2 h2)))
      obtain ⟨c, hc⟩ : ∃ c, c = Lib.ctz 32 left := ⟨_, rfl⟩
      rw [← hc] at CT hc32 hnext
      have g0 : ((left : Int) != 0) = true := by simp; omega
      have g0' : ((left : Int) == 0) = false := by simp; omega
      have e1 : IntKind.u32.wrap ((left : Int) - 1) = ((left - 1 : Nat) : Int) := by rw [IntKind.wrap_u32]; omega
      have e1' : ((left : Int) - 1) % 4294967296 = ((left - 1 : Nat) : Int) := by omega
      have e2 := u32_and_nat left (left - 1) hl (by omega)
      have HP2 := Lib.hid (show (pre ++ [(⟨c, hc32⟩ : Fin 32)]).map (·.val) ++ bitsOf (left &&& (left - 1)) = bitsOf m from by
        have := HP.out
        rw [hnext] at this
        rw [List.map_append, List.append_assoc]
        exact this)
      have hlen := HLEN.out _ _ HP.out
      obtain ⟨nx, hnx⟩ : ∃ nx, nx = left &&& (left - 1) := ⟨_, rfl⟩
      rw [← hnx] at HP2 e2 hlt
      obtain ⟨fn, tmps, assign, body, hy, hR⟩ := HY.out pre ⟨c, hc32⟩ wr HJp.out hlen
      dsimp only [encB] at hy
      clear hc hnext hnx hlen
      gi_wp2_with fail
      gi_wp2_with (refine ⟨trivial, ?_⟩; ((with_reducible refine ((callsIn_wide (n := 1)).2 CT.out).mono ?_)); rintro e w2 ⟨rfl, rfl⟩)
      refine hR.mono ?_
      rintro e w4 (⟨rfl, hJ4, hk4⟩ | ⟨rfl, hJx4⟩)
      · have HJ4 := Lib.hid hJ4
        have HB4 := Lib.hid (HBW.out.trans hk4)
        clear hJ4 hk4 hR hy
        gi_wp2
        go_roundw
        case rel => exact ⟨nx, _, rfl, by omega, HP2, HJ4, HB4⟩
        case measure => simp [intOf]; omega
      · have HJ4 := Lib.hid hJx4
        clear hJx4 hR hy
        gi_wp2
        refine bodyPost_ret (results_none rfl _ _ _) rfl ?_
        exact ⟨⟨_, rfl⟩, .inr ⟨_, ⟨_, HP2.out⟩, HJ4.out⟩⟩
theorem wo_sub : ∀ c : Fin 32, ∀ j : Fin 32, (4294967295 - 2 ^ c.val).testBit j.val = decide (j.val ≠ c.val) := by decide +kernel
theorem andNot_wo {m c : Nat} (hm : m < 4294967296) (hc : c < 32) : m &&& (4294967295 - 2 ^ c) = woM m c := by
  apply Nat.eq_of_testBit_eq
  intro j
  rw [wo_bit, Nat.testBit_and]
  by_cases hj : j < 32
  · rw [wo_sub ⟨c, hc⟩ ⟨j, hj⟩]
  · have : m.testBit j = false := Nat.testBit_lt_two_pow (Nat.lt_of_lt_of_le hm (Nat.pow_le_pow_right (n := 2) (by decide) (show 32 ≤ j by omega)))
    rw [this]; simp
set_option maxRecDepth 100000 in
theorem bitsWithout (w : World) (m i : Nat) (hm : m < 4294967296) (hi : i < 32) : Calls Tryz.prog 293 #[.int .u32 (m : Int), .int .i64 (i : Int)] w fun e w' => e = .returned (.int .u32 ((woM m i : Nat) : Int)) ∧ w = w' := by
  have CB := Lib.hid (fun w => bitsBit w i hi)
  have hp : 2 ^ i < 4294967296 := Nat.pow_lt_pow_right (a := 2) (by decide) (show i < 32 from hi)
  have h1 := u32_andNot_nat m (2 ^ i) hm hp
  rw [andNot_wo hm hi] at h1
  generalize ((2 ^ i : Nat) : Int) = z at *
  generalize ((woM m i : Nat) : Int) = y at *
  clear hp
  go_enter Tryz.func293, Tryz.ntmps293
  go_wp2_with (go_at_call 247; ((with_reducible refine (CB.out _).mono ?_)); rintro e w1 ⟨rfl, rfl⟩)
  go_ret
  exact ⟨rfl, rfl⟩
set_option maxHeartbeats 4000000 in
set_option maxRecDepth 100000 in
theorem bitsNth0 (w : World) {m c : Nat} {rest : List Nat} (hm : m < 4294967296) (hb : bitsOf m = c :: rest) (h2 : 2 < w.heap.size) (hT : TabAt 2 Lib.deBruijn32tab w) :
    Calls Tryz.prog 296 #[.int .u32 (m : Int), .int .i64 0] w fun e w' => e = .returned (.tuple #[.int .i64 (c : Int), .bool true]) ∧ Below w.heap.size w w' := by
  have CA := Lib.hid (fun w => bitsAll w (m : Int))
  have HT := Lib.hid hT
  have HBITS := Lib.hid hb
  clear hT hb
  refine (callsIn_wide (n := 3)).1 ?_
  refine callsIn_of_wp_marks Tryz.func296 rfl trivial ?_ rfl
  simp only [Tryz.ntmps296, List.size_toArray, List.length_cons, List.length_nil, Nat.reduceAdd, Nat.reduceSub, Array.replicate_succ, Array.replicate_zero, List.push_toArray, List.append_toArray, List.nil_append, List.cons_append]
  gi_wp2_with first
    | (refine ⟨trivial, ?_⟩; ((with_reducible refine ((callsIn_wide).2 (CA.out _)).mono ?_)); rintro e w1 ⟨rfl, rfl⟩)
  obtain ⟨W0, hW0⟩ : ∃ x, x = (((w.alloc (.cells #[.int .i64 0] 3)).alloc (.cells #[.int .i64 0] 3)).alloc (.cells #[.bool false] 4)).alloc (.cells #[.int .u32 (m : Int)] 218) := ⟨_, rfl⟩
  have hs : W0.heap.size = w.heap.size + 4 := by rw [hW0]; simp
  have hbw : Below w.heap.size w W0 := by rw [hW0]; exact ((((Below.refl _ w).alloc (Nat.le_refl _) _).alloc (by simp) _).alloc (by simp; omega) _).alloc (by simp; omega) _
  have x0 : Boxed W0 w.heap.size 3 (.int .i64 0) := by rw [hW0]; exact (((Boxed.new w _ _).alloc _).alloc _).alloc _
  have x1 : Boxed W0 (w.heap.size + 1) 3 (.int .i64 0) := by rw [hW0]; have := Boxed.new (w.alloc (.cells #[.int .i64 0] 3)) 3 (.int .i64 0); rw [World.size_alloc] at this; exact (this.alloc _).alloc _
  have x2 : Boxed W0 (w.heap.size + 1 + 1) 4 (.bool false) := by rw [hW0]; have := Boxed.new ((w.alloc (.cells #[.int .i64 0] 3)).alloc (.cells #[.int .i64 0] 3)) 4 (.bool false); rw [World.size_alloc, World.size_alloc] at this; exact this.alloc _
  have x4 : Boxed W0 (w.heap.size + 1 + 1 + 1) 218 (.int .u32 (m : Int)) := by rw [hW0]; have := Boxed.new (((w.alloc (.cells #[.int .i64 0] 3)).alloc (.cells #[.int .i64 0] 3)).alloc (.cells #[.bool false] 4)) 218 (.int .u32 (m : Int)); rw [World.size_alloc, World.size_alloc, World.size_alloc] at this; exact this
  have SQ := bitsSeqP W0 (n₀ := w.heap.size) hm x4 h2 (by omega) (tab_keep HT.out (hbw.block 2 h2))
  rw [← hW0]
  clear hW0
  refine wpIn_rangeFunc_ownF rfl (by decide) (gf := 322) (lb := #[.pointer (some ⟨w.heap.size + 1 + 1 + 1, 0, none⟩)]) rfl trivial (enters_of Tryz.func322 (by kernel_rfl) rfl) SQ belowK_t (belowK_b (by omega)) (Below.refl _ _) (fun _ => rfl)
    (fun pre W => (pre = [] ∧ Boxed W w.heap.size 3 (.int .i64 0)) ∧ (Boxed W (w.heap.size + 1) 3 (.int .i64 0) ∧ (Boxed W (w.heap.size + 1 + 1) 4 (.bool false) ∧ Below w.heap.size w W)))
    (fun k pre W => (k = Code.ret ∧ ∃ x : Fin 32, pre = [x] ∧ Boxed W (w.heap.size + 1) 3 (.int .i64 (x.val : Int))) ∧ (Boxed W (w.heap.size + 1 + 1) 4 (.bool true) ∧ Below w.heap.size w W))
    (OwnFrom.and (fun s W W' row hs hg hr => ⟨hs.1, (boxed_own w.heap.size 3 (fun _ : List (Fin 32) => Value.int .i64 0)) s W W' row hs.2 hg fun r e => (hr r e).2⟩)
      (OwnFrom.and (Own.from (boxed_own (w.heap.size + 1) 3 (fun _ => .int .i64 0)) _) (OwnFrom.and (Own.from (boxed_own (w.heap.size + 1 + 1) 4 (fun _ => .bool false)) _) (ownFrom_below (Nat.le_refl _) (by omega)))))
    (fun k => OwnFrom.and (fun s W W' row hs hg hr => ⟨hs.1, by
        obtain ⟨x, h1, h2⟩ := hs.2
        exact ⟨x, h1, (boxed_own (w.heap.size + 1) 3 (fun _ : List (Fin 32) => Value.int .i64 (x.val : Int))) s W W' row h2 hg fun r e => (hr r e).2⟩⟩)
      (OwnFrom.and (Own.from (boxed_own (w.heap.size + 1 + 1) 4 (fun _ => .bool true)) _) (ownFrom_below (Nat.le_refl _) (by omega))))
    ⟨⟨rfl, x0⟩, x1, x2, hbw⟩
    (fun x => { tmps := #[Value.int IntKind.u32 ↑m, Value.int IntKind.i64 0, undef, Value.pointer (some { block := w.heap.size, off := 0 }), Value.pointer (some { block := w.heap.size + 1, off := 0 }), Value.pointer (some { block := w.heap.size + 1 + 1, off := 0 }), Value.int IntKind.i64 ↑x.val, Value.int IntKind.u32 ↑m, Value.func (Fn.func 322) #[] #[Value.pointer (some { block := w.heap.size + 1 + 1 + 1, off := 0 })], Value.int IntKind.i64 ↑x.val, undef, undef, undef, undef, undef], defers := [] }) ?assign ?body ?done ?stop
  case assign =>
    intro l x W K hK
    gi_wp2
    exact hK
  case body =>
    rintro l pre x W ⟨⟨rfl, y0⟩, y1, y2, hB⟩ hlt
    have hc0 := y0.cell
    have hc1 := y1.cell
    have hc2 := y2.cell
    have hf1 := y1.frozen
    have hf2 := y2.frozen
    have hx := x.isLt
    gi_wp2
    exact ⟨(KeepsOthers.setCell _ _ _).trans (KeepsOthers.setCell _ _ _), ⟨rfl, x, rfl, (y1.set _).other (by omega) _⟩, (y2.other (by omega) _).set _, (hB.setCell (p := ⟨w.heap.size + 1, 0, none⟩) (by simp) _).setCell (p := ⟨w.heap.size + 1 + 1, 0, none⟩) (by simp; omega) _⟩
  case done =>
    rintro D xs W hD hS ⟨⟨rfl, y0⟩, y1, y2, hB⟩ hK
    have := HBITS.out
    rw [← hS] at this
    simp at this
  case stop =>
    rintro D k pre W hD ⟨r, hr⟩ ⟨⟨rfl, x, rfl, y1⟩, y2, hB⟩ hK
    have hc := HBITS.out
    rw [← hr] at hc
    simp at hc
    have hc1 := y1.cell
    have hc2 := y2.cell
    gi_wp2
    refine ⟨by simp, .inl ⟨_, _, rfl, run_takeDeferred hK, ?_⟩⟩
    have z1 := (y1.kept (grownBy_putObj' W D (.deferred none)) (fun e => by have := Option.some.inj e; omega)).cell
    have z2 := (y2.kept (grownBy_putObj' W D (.deferred none)) (fun e => by have := Option.some.inj e; omega)).cell
    have hBD : Below w.heap.size w (W.putObj D (.deferred none)) := hB.grown (grownBy_putObj' W D (.deferred none)) hB.size (fun k e => by have := Option.some.inj e; omega)
    refine ⟨.tuple #[.int .i64 (x.val : Int), .bool true], ?_, by rw [hc.1], hBD⟩
    simp [results, show Tryz.f296.results = #[.cell 4 3, .cell 5 4] from rfl, go_sem, asAddr, Result.andThen, z1, z2]
end Go.Proofs.YtmbiiemlepfoaaaGreatDoor
namespace Go.Proofs.YtmbiiemlepfoaaaGreatDoor
open Go.RowKit
set_option linter.unusedVariables false
theorem pick_ats {w : World} {D : Nat → Prop} {m c : Nat} {ks : List N} {vs : List Value} (ha : N.Ats w D ks vs) (hl : ks.length = cntUp 32 m) : N.Ats w D (pickN m c ks) ((bitsOf (woM m c)).map (kidV m vs)) := by
  apply N.ats_of
  · unfold pickN; rw [List.length_map, List.length_map]
  · intro j n v hn hv
    unfold pickN at hn
    rw [List.getElem?_map, Option.map_eq_some_iff] at hn
    obtain ⟨i, hi, rfl⟩ := hn
    rw [List.getElem?_map, hi] at hv
    simp at hv
    subst hv
    obtain ⟨a1, a2, _⟩ := bits_idx hi
    rw [wo_bit, Bool.and_eq_true] at a2
    obtain ⟨n', hn'⟩ := with_old (c := c) hl a1 a2.1
    rw [hn']
    obtain ⟨v', h1, h2⟩ := ha.at_ hn'
    unfold kidV
    rw [if_pos a2.1]
    simp only [List.getD, h1, Option.getD_some]
    exact h2
theorem prunePick (w : World) (D : Nat → Prop) (hD : ∀ j, w.heap.size ≤ j → D j) {nb m c L : Nat} {ks : List N} (hx : N.At w D (.branch m ks) (ifp 308 nb)) (hf : (N.branch m ks).fit L) (hne : pickN m c ks ≠ []) (h2 : 2 < w.heap.size) (hT : TabAt 2 Lib.deBruijn32tab w)
    (hsz : N.counts (pickN m c ks) < 4611686018427387904) :
    Calls Tryz.prog 294 #[ifp 308 nb, .int .u32 (woM m c : Int)] w (W1R D (.branch (woM m c) (pickN m c ks)) w) := by
  obtain ⟨vs, hbr, ha⟩ := br_of hx hf
  have hl : ks.length = cntUp 32 m := by unfold N.fit at hf; exact hf.2.2.1
  refine prunePickV w D hD hbr (wo_lt hbr.lt) h2 hT (ats_form ha) _ ?_ ?_
  · intro w' p c' hb hv
    have hd : ∀ j, w'.heap.size ≤ j → D j := fun j hj => hD j (Nat.le_trans hb.size hj)
    have hlen : ((bitsOf (woM m c)).map (kidV m vs)).length = (bitsOf (woM m c)).length := List.length_map _
    have := nodeBranch w' D hd (m := woM m c) hv (pick_ats (c := c) (ha.below hb) hl) (wo_lt hbr.lt) (by unfold pickN; rw [List.length_map]; rfl) hne hsz
    rw [hlen] at this
    refine this.mono ?_
    rintro e w2 ⟨b, rfl, hn, hb2⟩
    exact ⟨⟨_, rfl⟩, ⟨b, rfl, hn, below_step hb hb2⟩, hb2⟩
  · rintro v w' o o' l ⟨b, he, hn, hb⟩ hl2 ho hoc
    exact ⟨b, he, hn.putObj o' ho hoc, hb.grown (grownBy_putObj' w' l o') hb.size (fun k e => by cases e; exact hl2)⟩
def CollR (D : Nat → Prop) (n : N) (w : World) (e : Ending) (w' : World) : Prop := ∃ t b, e = .returned (ifp t b) ∧ N.At w' D n (ifp t b) ∧ Below w.heap.size w w'
theorem coll_many {m : Nat} {ks : List N} (h : ks.length ≠ 1) : collapseN (.branch m ks) = .branch m ks := by
  match ks, h with
  | [], _ => rfl
  | [k], h => exact absurd rfl h
  | _ :: _ :: _, _ => simp [collapseN]
set_option maxHeartbeats 4000000 in
set_option maxRecDepth 100000 in
theorem pruneCollapse (w : World) (D : Nat → Prop) {nb m : Nat} {ks : List N} (hx : N.At w D (.branch m ks) (ifp 308 nb)) (hm : m < 4294967296) (hl : ks.length = cntUp 32 m) (h2 : 2 < w.heap.size) (hT : TabAt 2 Lib.deBruijn32tab w) :
    Calls Tryz.prog 251 #[ifp 308 nb] w (CollR D (collapseN (.branch m ks)) w) := by
  have CM := Lib.hid (nodeMap w (n := some (.branch m ks)) hx)
  rw [show mapV (N.mapO (some (N.branch m ks))) = .tuple #[.int .u32 (m : Int), .bool true] from rfl] at CM
  have CB := Lib.hid (fun w => bitsCount w m hm)
  by_cases h1 : ks.length = 1
  · obtain ⟨k, rfl⟩ : ∃ k, ks = [k] := by
      match ks, h1 with
      | [k], _ => exact ⟨k, rfl⟩
    have hc1 : cntUp 32 m = 1 := by rw [← hl]; rfl
    rw [hc1] at CB
    obtain ⟨c, hbm⟩ : ∃ c, bitsOf m = [c] := by
      have : (bitsOf m).length = 1 := hc1
      match hb : bitsOf m, this with
      | [c], _ => exact ⟨c, rfl⟩
    have hcm : c ∈ bitsOf m := by rw [hbm]; simp
    obtain ⟨hc32, hcb⟩ := mem_bitsUp.1 hcm
    have hkid : kidN m [k] c = some k := by
      unfold kidN
      rw [if_pos hcb]
      have := cnt_lt hc32 hcb
      rw [show cntUp c m = 0 from by omega]
      rfl
    have CN := Lib.hid (fun (w' : World) (hb : Below w.heap.size w w') => bitsNth0 w' hm hbm (Nat.lt_of_lt_of_le h2 hb.size) (tab_keep hT (hb.block 2 h2)))
    have CK := Lib.hid (show ∀ w', Below w.heap.size w w' → Calls Tryz.prog 103 #[ifp 308 nb, .int .i64 (c : Int)] w' (fun e w'' => ∃ v, e = .returned (.tuple #[v, .bool true]) ∧ N.At w' D k v ∧ ∃ n, w'' = w'.drewN n) from fun w' hb => (nodeKid w' (hx.below hb) hm hl hc32).mono fun e w'' ⟨v, h1, h2, h3⟩ => ⟨v, by rw [hcb] at h1; exact h1, by rw [hkid] at h2; exact h2, h3⟩)
    have HX := Lib.hid hx
    have q1 := kindLeaf
    have q2 := kindBucket
    have q3 := kindBranch
    have m1 := mKind223
    have m2 := mKind226
    have m3 := mKind308
    clear hx hT hl h1 hc1 hcm hkid
    cases k with
    | leaf g k' v' =>
      have e1 : collapseN (.branch m [.leaf g k' v']) = .leaf g k' v' := rfl
      rw [e1]
      have CK2 := Lib.hid (show ∀ w', Below w.heap.size w w' → Calls Tryz.prog 103 #[ifp 308 nb, .int .i64 (c : Int)] w' (fun e w'' => ∃ b, e = .returned (.tuple #[ifp 223 b, .bool true]) ∧ N.At w' D (.leaf g k' v') (ifp 223 b) ∧ ∃ n, w'' = w'.drewN n) from fun w' hb => (CK.out w' hb).mono fun e w'' ⟨v, h1, h2, h3⟩ => by
        have h2' := h2
        unfold N.At at h2'
        obtain ⟨b, _, _, _, _, rfl, _⟩ := h2'
        exact ⟨b, h1, h2, h3⟩)
      clear CK
      go_enter Tryz.func251, Tryz.ntmps251
      go_wp2_with first
        | (go_at_call 102; ((with_reducible refine (CM.out).mono ?_)); rintro e w1 ⟨rfl, rfl⟩)
        | (go_at_call 295; ((with_reducible refine (CB.out _).mono ?_)); rintro e w1 ⟨rfl, n1, rfl⟩)
        | (go_at_call 296; ((with_reducible refine (CN.out _ (below_drewN _ w n1)).mono ?_)); rintro e w2 ⟨rfl, hb2⟩; have HB2 := Lib.hid (show Below w.heap.size w w2 from (below_drewN w.heap.size w n1).trans (show Below w.heap.size (w.drewN n1) w2 from hb2)); clear hb2)
        | (go_at_call 103; ((with_reducible refine (CK2.out _ HB2.out).mono ?_)); rintro e w3 ⟨b, rfl, hn3, n3, rfl⟩; have HN3 := Lib.hid hn3; clear hn3)
        | (go_at_call 366; ((with_reducible refine (q1 _ _).mono ?_)); rintro e w4 ⟨rfl, rfl⟩)
        | fail
      go_ret
      exact ⟨_, _, rfl, HN3.out.below (below_drewN _ _ _), HB2.out.trans ((below_drewN _ w2 n3).mono HB2.out.size)⟩
    | bucket g t =>
      have e1 : collapseN (.branch m [.bucket g t]) = .bucket g t := rfl
      rw [e1]
      have CK2 := Lib.hid (show ∀ w', Below w.heap.size w w' → Calls Tryz.prog 103 #[ifp 308 nb, .int .i64 (c : Int)] w' (fun e w'' => ∃ b, e = .returned (.tuple #[ifp 226 b, .bool true]) ∧ N.At w' D (.bucket g t) (ifp 226 b) ∧ ∃ n, w'' = w'.drewN n) from fun w' hb => (CK.out w' hb).mono fun e w'' ⟨v, h1, h2, h3⟩ => by
        have h2' := h2
        unfold N.At at h2'
        obtain ⟨b, _, rfl, _⟩ := h2'
        exact ⟨b, h1, h2, h3⟩)
      clear CK
      go_enter Tryz.func251, Tryz.ntmps251
      go_wp2_with first
        | (go_at_call 102; ((with_reducible refine (CM.out).mono ?_)); rintro e w1 ⟨rfl, rfl⟩)
        | (go_at_call 295; ((with_reducible refine (CB.out _).mono ?_)); rintro e w1 ⟨rfl, n1, rfl⟩)
        | (go_at_call 296; ((with_reducible refine (CN.out _ (below_drewN _ w n1)).mono ?_)); rintro e w2 ⟨rfl, hb2⟩; have HB2 := Lib.hid (show Below w.heap.size w w2 from (below_drewN w.heap.size w n1).trans (show Below w.heap.size (w.drewN n1) w2 from hb2)); clear hb2)
        | (go_at_call 103; ((with_reducible refine (CK2.out _ HB2.out).mono ?_)); rintro e w3 ⟨b, rfl, hn3, n3, rfl⟩; have HN3 := Lib.hid hn3; clear hn3)
        | (go_at_call 368; ((with_reducible refine (q2 _ _).mono ?_)); rintro e w4 ⟨rfl, rfl⟩)
        | fail
      go_ret
      exact ⟨_, _, rfl, HN3.out.below (below_drewN _ _ _), HB2.out.trans ((below_drewN _ w2 n3).mono HB2.out.size)⟩
    | branch m' ks' =>
      have e1 : collapseN (.branch m [.branch m' ks']) = .branch m [.branch m' ks'] := rfl
      rw [e1]
      have CK2 := Lib.hid (show ∀ w', Below w.heap.size w w' → Calls Tryz.prog 103 #[ifp 308 nb, .int .i64 (c : Int)] w' (fun e w'' => ∃ b, e = .returned (.tuple #[ifp 308 b, .bool true]) ∧ N.At w' D (.branch m' ks') (ifp 308 b) ∧ ∃ n, w'' = w'.drewN n) from fun w' hb => (CK.out w' hb).mono fun e w'' ⟨v, h1, h2, h3⟩ => by
        have h2' := h2
        unfold N.At at h2'
        obtain ⟨b, _, _, _, rfl, _⟩ := h2'
        exact ⟨b, h1, h2, h3⟩)
      clear CK
      go_enter Tryz.func251, Tryz.ntmps251
      go_wp2_with first
        | (go_at_call 102; ((with_reducible refine (CM.out).mono ?_)); rintro e w1 ⟨rfl, rfl⟩)
        | (go_at_call 295; ((with_reducible refine (CB.out _).mono ?_)); rintro e w1 ⟨rfl, n1, rfl⟩)
        | (go_at_call 296; ((with_reducible refine (CN.out _ (below_drewN _ w n1)).mono ?_)); rintro e w2 ⟨rfl, hb2⟩; have HB2 := Lib.hid (show Below w.heap.size w w2 from (below_drewN w.heap.size w n1).trans (show Below w.heap.size (w.drewN n1) w2 from hb2)); clear hb2)
        | (go_at_call 103; ((with_reducible refine (CK2.out _ HB2.out).mono ?_)); rintro e w3 ⟨b, rfl, hn3, n3, rfl⟩; have HN3 := Lib.hid hn3; clear hn3)
        | (go_at_call 370; ((with_reducible refine (q3 _ _).mono ?_)); rintro e w4 ⟨rfl, rfl⟩)
        | fail
      go_ret
      exact ⟨_, _, rfl, (HX.out.below HB2.out).below (below_drewN _ _ _), HB2.out.trans ((below_drewN _ w2 n3).mono HB2.out.size)⟩
  · rw [coll_many h1]
    have hc1 : cntUp 32 m ≠ 1 := by rw [← hl]; exact h1
    have hcl := cnt_le 32 m
    have HX := Lib.hid hx
    generalize cntUp 32 m = cn at *
    have hq : ((cn : Int) != 1) = true := by rw [bne_iff_ne]; omega
    clear hx hT hl h1 hc1
    go_enter Tryz.func251, Tryz.ntmps251
    go_wp2_with first
      | (go_at_call 102; ((with_reducible refine (CM.out).mono ?_)); rintro e w1 ⟨rfl, rfl⟩)
      | (go_at_call 295; ((with_reducible refine (CB.out _).mono ?_)); rintro e w1 ⟨rfl, n1, rfl⟩)
      | fail
    go_ret
    exact ⟨_, _, rfl, HX.out.below (below_drewN _ _ _), below_drewN _ _ _⟩
end Go.Proofs.YtmbiiemlepfoaaaGreatDoor
namespace Go.Proofs.YtmbiiemlepfoaaaGreatDoor
set_option linter.unusedVariables false
def Near2 (a b : Nat) : Prop := (a + 1 ≤ 3 * (b + 1) + 3 ∨ 3 * (a + 1) < 13 * (b + 1)) ∧ (b + 1 ≤ 3 * (a + 1) + 3 ∨ 3 * (b + 1) < 13 * (a + 1))
theorem turn_num2 {x i o : Nat} (h1 : ¬ (x + 1 ≤ 3 * (i + 1 + o + 1) ∧ i + 1 + o + 1 ≤ 3 * (x + 1))) (hlt : x < i + 1 + o) (hn : i + 1 + o + 1 ≤ 3 * (x + 1) + 3 ∨ 3 * (i + 1 + o + 1) < 13 * (x + 1)) (he : i + 1 ≤ 3 * (o + 1) ∧ o + 1 ≤ 3 * (i + 1)) (hs : singleB x i o = false) :
    0 < i ∧ ∀ a b : Nat, i = a + 1 + b → (a + 1 ≤ 3 * (b + 1) ∧ b + 1 ≤ 3 * (a + 1)) → doubleB x a b o = true := by
  have hs' : ¬ ((x + 1 ≤ 3 * (i + 1) ∧ i + 1 ≤ 3 * (x + 1)) ∧ (x + i + 1 + 1 ≤ 3 * (o + 1) ∧ o + 1 ≤ 3 * (x + i + 1 + 1))) := by
    intro h
    have : singleB x i o = true := by simp only [singleB, evenB, Bool.and_eq_true, decide_eq_true_eq]; exact h
    rw [this] at hs; cases hs
  rcases hn with hn | hn
  · refine ⟨by omega, fun a b hi hab => ?_⟩
    simp only [doubleB, evenB, Bool.and_eq_true, decide_eq_true_eq]
    refine ⟨⟨⟨?_, ?_⟩, ⟨?_, ?_⟩⟩, ⟨?_, ?_⟩⟩ <;> omega
  · refine ⟨by omega, fun a b hi hab => ?_⟩
    simp only [doubleB, evenB, Bool.and_eq_true, decide_eq_true_eq]
    refine ⟨⟨⟨?_, ?_⟩, ⟨?_, ?_⟩⟩, ⟨?_, ?_⟩⟩ <;> omega
theorem evenT_ex {l r : T} (k v : List UInt8) (hl : l.Bal) (hr : r.Bal) (hn : Near2 l.size r.size) : evenT l k v r = some (evenF l k v r) := by
  have key : evenT l k v r ≠ none := by
    unfold evenT
    by_cases h1 : evenB l.size r.size = true
    · rw [if_pos h1]; simp
    · rw [if_neg h1]
      rw [evenB_iff] at h1
      by_cases h2 : l.size < r.size
      · rw [if_pos h2]
        cases r with
        | nil => simp [T.size] at h2
        | node i k2 v2 o =>
          obtain ⟨he, hi, ho⟩ := hr
          simp only [T.size] at h1 h2 hn
          unfold leftT
          dsimp only
          by_cases hs : singleB l.size i.size o.size = true
          · rw [if_pos hs]; simp
          · rw [if_neg hs]
            have ht := turn_num2 h1 h2 hn.2 (evenB_iff.1 he) (by simpa using hs)
            cases i with
            | nil => exact absurd ht.1 (by simp [T.size])
            | node a k3 v3 b =>
              have hd := ht.2 a.size b.size rfl (evenB_iff.1 hi.1)
              dsimp only
              rw [if_pos hd]; simp
      · rw [if_neg h2]
        cases l with
        | nil =>
          simp only [T.size] at h1 h2 hn
          have := hn.2
          omega
        | node o k2 v2 i =>
          obtain ⟨he, ho, hi⟩ := hl
          simp only [T.size] at h1 h2 hn
          unfold rightT
          dsimp only
          have he' := evenB_iff.1 he
          have hn1 := hn.1
          by_cases hs : singleB r.size i.size o.size = true
          · rw [if_pos hs]; simp
          · rw [if_neg hs]
            have ht := turn_num2 (x := r.size) (i := i.size) (o := o.size) (by omega) (by omega) (by omega) (by omega) (by simpa using hs)
            cases i with
            | nil => exact absurd ht.1 (by simp [T.size])
            | node a k3 v3 b =>
              have hab' := evenB_iff.1 hi.1
              have hd := ht.2 b.size a.size (by simp only [T.size]; omega) (by omega)
              dsimp only
              rw [if_pos hd]; simp
  unfold evenF
  cases h : evenT l k v r with
  | none => exact absurd h key
  | some t => rfl
theorem join_left {a b r : T} {k k' v v' : List UInt8} (hl : (T.node a k' v' b).Bal) (hr : r.Bal) (h0 : evenB (T.node a k' v' b).size r.size = false) (h1 : r.size < (T.node a k' v' b).size) :
    joinT (.node a k' v' b) k v r = evenF a k' v' (joinT b k v r) ∧ evenT a k' v' (joinT b k v r) = some (evenF a k' v' (joinT b k v r)) := by
  have hj := join_ok k v hl.2.2 hr
  have hs := join_size k v hl.2.2 hr
  have he := evenB_iff.1 hl.1
  have h0' := evenB_not.1 h0
  simp only [T.size] at h0' h1
  refine ⟨?_, evenT_ex k' v' hl.2.1 hj.1 ?_⟩
  · rw [joinT.eq_def, if_neg (by rw [h0]; simp), if_pos (by simp only [T.size]; exact h1)]
  · unfold Near2
    omega
theorem join_right {a b l : T} {k k' v v' : List UInt8} (hl : l.Bal) (hr : (T.node a k' v' b).Bal) (h0 : evenB l.size (T.node a k' v' b).size = false) (h1 : ¬ (T.node a k' v' b).size < l.size) :
    joinT l k v (.node a k' v' b) = evenF (joinT l k v a) k' v' b ∧ evenT (joinT l k v a) k' v' b = some (evenF (joinT l k v a) k' v' b) := by
  have hj := join_ok k v hl hr.2.1
  have hs := join_size k v hl hr.2.1
  have he := evenB_iff.1 hr.1
  have h0' := evenB_not.1 h0
  simp only [T.size] at h0' h1
  refine ⟨?_, evenT_ex k' v' hj.1 hr.2.2 ?_⟩
  · rw [joinT.eq_def, if_neg (by rw [h0]; simp), if_neg (by simp only [T.size]; exact h1)]
  · unfold Near2
    omega
theorem join_even {l r : T} {k v : List UInt8} (h : evenB l.size r.size = true) : joinT l k v r = .node l k v r := by rw [joinT.eq_def, if_pos h]
theorem first_len (l : T) (k v : List UInt8) (r : T) (hl : l.Bal) (hr : r.Bal) : (firstT k v r l).2.size = l.size + r.size := by
  have := congrArg List.length (first_ok l k v r hl hr).2
  rw [List.length_append, List.length_cons, List.length_cons, T.list_length, T.list_length, T.list_length] at this
  omega
theorem first_even {a b r : T} {k k' v v' : List UInt8} (h : (T.node (.node a k' v' b) k v r).Bal) : evenT (firstT k' v' b a).2 k v r = some (evenF (firstT k' v' b a).2 k v r) := by
  obtain ⟨he, hl, hr⟩ := h
  have hf := first_ok a k' v' b hl.2.1 hl.2.2
  have hs := first_len a k' v' b hl.2.1 hl.2.2
  refine evenT_ex k v hf.1 hr ?_
  have := evenB_iff.1 he
  simp only [T.size] at this
  unfold Near2
  omega
theorem del_size {k : List UInt8} : ∀ {t u : T}, t.Bal → delT k t = some u → u.Bal ∧ u.size + 1 = t.size
  | .nil, u, _, h => by simp [delT] at h
  | .node l k' v' r, u, hb, h => by
    obtain ⟨he, hl, hr⟩ := hb
    unfold delT at h
    split at h
    · cases h
      obtain ⟨h1, h2⟩ := pair_ok hl hr
      exact ⟨h1, by rw [← T.list_length, h2, List.length_append, T.list_length, T.list_length]; simp only [T.size]; omega⟩
    · split at h
      · obtain ⟨r', h1, rfl⟩ := Option.map_eq_some_iff.1 h
        obtain ⟨h2, h3⟩ := del_size hr h1
        exact ⟨(evenF_ok k' v' hl h2).1, by rw [evenF_size k' v' hl h2]; simp only [T.size]; omega⟩
      · obtain ⟨l', h1, rfl⟩ := Option.map_eq_some_iff.1 h
        obtain ⟨h2, h3⟩ := del_size hl h1
        exact ⟨(evenF_ok k' v' h2 hr).1, by rw [evenF_size k' v' h2 hr]; simp only [T.size]; omega⟩
theorem del_right {l r u : T} {k k' v' : List UInt8} (h : (T.node l k' v' r).Bal) (hd : delT k r = some u) : evenT l k' v' u = some (evenF l k' v' u) := by
  obtain ⟨he, hl, hr⟩ := h
  obtain ⟨h2, h3⟩ := del_size hr hd
  have := evenB_iff.1 he
  exact evenT_ex k' v' hl h2 (by unfold Near2; omega)
theorem del_left {l r u : T} {k k' v' : List UInt8} (h : (T.node l k' v' r).Bal) (hd : delT k l = some u) : evenT u k' v' r = some (evenF u k' v' r) := by
  obtain ⟨he, hl, hr⟩ := h
  obtain ⟨h2, h3⟩ := del_size hl hd
  have := evenB_iff.1 he
  exact evenT_ex k' v' h2 hr (by unfold Near2; omega)
end Go.Proofs.YtmbiiemlepfoaaaGreatDoor
namespace Go.Proofs.YtmbiiemlepfoaaaGreatDoor
open Go.RowKit
set_option linter.unusedVariables false
def ivR (x : Nat) : Value := .int .i64 (x : Int)
set_option maxHeartbeats 1000000 in
set_option maxRecDepth 100000 in
theorem ref07Has (w : World) {D : Nat → Prop} {p : Option Addr} {c : Nat} {S : List Nat} (h : IsVs w D p c (S.map ivR)) (hn : S.length ≤ 1000000) (x : Nat) :
    Calls Tryz.prog 187 #[.slice p S.length c, .int .i64 (x : Int)] w fun e w' => e = .returned (.bool (decide (x ∈ S))) ∧ w = w' := by
  obtain ⟨R, hR⟩ : ∃ R, decide (x ∈ S) = R := ⟨_, rfl⟩
  rw [hR]
  have HR := Lib.hid hR
  have H := Lib.hid h
  obtain ⟨N, hN⟩ : ∃ N, S.length = N := ⟨_, rfl⟩
  rw [hN] at hn ⊢
  have HN := Lib.hid hN
  clear h hN hR
  go_enter Tryz.func187, Tryz.ntmps187
  go_wp2
  go_loop [5] (fun v5 => ∃ i : Nat, v5 = .int .i64 (i : Int) ∧ i ≤ N ∧ Hid (x ∉ S.take i)) (fun v5 => N - (intOf v5).toNat)
  case atStart => exact ⟨0, rfl, by omega, by show x ∉ S.take 0; simp⟩
  case round =>
    obtain ⟨i, rfl, hi, HI⟩ := hrel
    by_cases hlt : i < N
    · have hlt' : i < S.length := by rw [HN.out]; exact hlt
      obtain ⟨y, hy⟩ : ∃ y, S[i]? = some y := ⟨_, List.getElem?_eq_getElem hlt'⟩
      obtain ⟨b, o, rfl, hb, hd, hc⟩ := H.out.cells (by simp; omega)
      have c0 : w.cell? ⟨b, o + i, none⟩ = some (.int .i64 (y : Int)) := hc _ _ (by rw [List.getElem?_map, hy]; rfl)
      have g1 : (i : Int) < (N : Int) := by omega
      clear hc
      by_cases he : y = x
      · have hq : ((y : Int) == (x : Int)) = true := by rw [he]; simp
        have hr : R = true := by rw [← HR.out, ← he]; simpa using List.mem_of_getElem? hy
        have HRR := Lib.hid hr
        clear he hr hy
        go_wp2
        go_ret
        rw [HRR.out]
        exact ⟨rfl, rfl⟩
      · have hq : ((y : Int) == (x : Int)) = false := by rw [beq_eq_false_iff_ne]; omega
        have hi' : x ∉ S.take (i + 1) := by
          rw [List.take_add_one, hy]
          have := HI.out
          simp only [List.mem_append, Option.mem_toList, Option.mem_def, Option.some.injEq]
          rintro (h | h)
          · exact this h
          · exact he h
        have HI' := Lib.hid hi'
        clear he hi' hy
        go_wp2
        go_round
        case rel => exact ⟨i + 1, rfl, by omega, HI'⟩
        case measure => simp [intOf]; omega
    · have hiN : i = N := by omega
      subst hiN
      have g1 : ¬ (i : Int) < (i : Int) := by omega
      have hr : R = false := by
        rw [← HR.out, decide_eq_false_iff_not]
        have := HI.out
        rwa [List.take_of_length_le (by rw [HN.out]; omega)] at this
      have HRR := Lib.hid hr
      clear hr
      go_wp2
      go_ret
      rw [HRR.out]
      exact ⟨rfl, rfl⟩
theorem half_bit (m i : Nat) : m / 2 ^ i = (m / 2 ^ (i + 1)) * 2 + (if m.testBit i then 1 else 0) := by
  rw [Nat.testBit_eq_decide_div_mod_eq, Nat.pow_succ, ← Nat.div_div_eq_div_mul]
  have := Nat.mod_two_eq_zero_or_one (m / 2 ^ i)
  rcases this with h | h
  · simp [h]; omega
  · simp [h]; omega
theorem bits_len (m : Nat) : (bitsOf m).length ≤ 32 := cnt_le 32 m
set_option maxHeartbeats 1000000 in
set_option maxRecDepth 100000 in
theorem ref07Number (w : World) {D : Nat → Prop} {p : Option Addr} {c m : Nat} (h : IsVs w D p c ((bitsOf m).map ivR)) (hm : m < 4294967296) :
    Calls Tryz.prog 110 #[.slice p (bitsOf m).length c] w fun e w' => e = .returned (.int .u32 (m : Int)) ∧ w = w' := by
  have hl := bits_len m
  have CH := Lib.hid (fun (x : Nat) => ref07Has w h (by omega) x)
  generalize hL : (bitsOf m).length = L at *
  clear h hL
  go_enter Tryz.func110, Tryz.ntmps110
  go_wp2
  go_loop [3, 4] (fun v3 v4 => ∃ j n : Nat, v4 = .int .i64 ((j : Int) - 1) ∧ v3 = .int .u32 (n : Int) ∧ j ≤ 32 ∧ n ≤ m ∧ Hid (n = m / 2 ^ j)) (fun _ v4 => ((intOf v4) + 1).toNat)
  case atStart => exact ⟨32, 0, rfl, rfl, by omega, by omega, by show 0 = m / 2 ^ 32; rw [Nat.div_eq_of_lt (by simpa using hm)]⟩
  case round =>
    obtain ⟨j, n, rfl, rfl, hj, hnm, HI⟩ := hrel
    rcases j with _ | i
    · have hr : n = m := by rw [HI.out]; simp
      have HRR := Lib.hid hr
      have g0 : ¬ (0 : Int) ≤ ((0 : Nat) : Int) - 1 := by omega
      clear hr
      go_wp2
      go_ret
      rw [HRR.out]
      exact ⟨rfl, rfl⟩
    · have e0 : ((i + 1 : Nat) : Int) - 1 = (i : Int) := by omega
      rw [e0]
      have hh := half_bit m i
      have hbm : decide (i ∈ bitsOf m) = m.testBit i := by rw [Bool.eq_iff_iff]; simp [mem_bitsUp]; omega
      have hc := CH.out i
      rw [hbm] at hc
      have CI := Lib.hid hc
      have hle : m / 2 ^ i ≤ m := Nat.div_le_self _ _
      have HI' : Hid (n = m / 2 ^ (i + 1)) := HI
      clear e0 hbm hc HI
      by_cases hb : m.testBit i = true
      · rw [if_pos hb, ← HI'.out] at hh
        rw [hb] at CI
        have hw1 : IntKind.u32.wrap ((n : Int) * 2) = ((n * 2 : Nat) : Int) := by rw [IntWalk.u32_in _ (by omega)]; omega
        have hw2 : IntKind.u32.wrap (((n * 2 : Nat) : Int) + 1) = ((n * 2 + 1 : Nat) : Int) := by rw [IntWalk.u32_in _ (by omega)]; omega
        have HH := Lib.hid hh.symm
        have hn2 : n * 2 + 1 ≤ m := by omega
        clear hh hb
        generalize hy : n * 2 = y at *
        clear hy
        go_wp2_with first
          | (go_at_call 187; ((with_reducible refine (CI.out).mono ?_)); rintro e w2 ⟨rfl, rfl⟩)
          | fail
        go_round
        case rel => exact ⟨i, y + 1, rfl, rfl, by omega, by omega, HH.out⟩
        case measure => simp [intOf]
      · rw [if_neg hb, ← HI'.out, Nat.add_zero] at hh
        rw [Bool.not_eq_true] at hb
        rw [hb] at CI
        have hw1 : IntKind.u32.wrap ((n : Int) * 2) = ((n * 2 : Nat) : Int) := by rw [IntWalk.u32_in _ (by omega)]; omega
        have HH := Lib.hid hh.symm
        have hn2 : n * 2 ≤ m := by omega
        clear hh hb
        generalize hy : n * 2 = y at *
        clear hy
        go_wp2_with first
          | (go_at_call 187; ((with_reducible refine (CI.out).mono ?_)); rintro e w2 ⟨rfl, rfl⟩)
          | fail
        go_round
        case rel => exact ⟨i, y, rfl, rfl, by omega, by omega, HH.out⟩
        case measure => simp [intOf]
def wayA (h i : Nat) : List Value := (List.range 13).map fun j => if j < i then ivR (chunkM h j) else ivR 0
theorem wayA_set {h i : Nat} (hi : i < 13) : ((wayA h i).toArray.setIfInBounds i (ivR (chunkM h i))) = (wayA h (i + 1)).toArray := by
  apply Array.ext'
  rw [Array.toList_setIfInBounds]
  apply List.ext_getElem?
  intro j
  unfold wayA
  simp only [List.getElem?_set, List.getElem?_map, List.length_map, List.length_range]
  by_cases hj : j < 13
  · rw [List.getElem?_range hj]
    by_cases e : i = j
    · subst e; simp [hi]
    · simp [e]
      by_cases h1 : j < i
      · rw [if_pos h1, if_pos (by omega)]
      · rw [if_neg h1, if_neg (by omega)]
  · have e : ¬ i = j := by omega
    rw [List.getElem?_eq_none (by simp; omega)]
    simp [e]
theorem way_row {w : World} {b : Nat} {h i : Nat} (hr : w.heap[b]? = some (.cells (wayA h i).toArray 239)) (hi : i < 13) : (w.setCell ⟨b, i, none⟩ (ivR (chunkM h i))).heap[b]? = some (.cells (wayA h (i + 1)).toArray 239) := by
  rw [← wayA_set hi]
  simp [World.setCell, Array.getElem?_modify, hr]
theorem set_otherA {w : World} {a : Addr} {x : Value} {k : Nat} (h : k ≠ a.block) : (w.setCell a x).heap[k]? = w.heap[k]? := by
  simp only [World.setCell, Array.getElem?_modify]
  rw [if_neg (fun e => h e.symm)]
theorem below_setA {n : Nat} {w W : World} (h : Below n w W) {a : Addr} (hn : n ≤ a.block) (x : Value) : Below n w (W.setCell a x) :=
  ⟨h.os, h.tape, h.output, by simp only [World.setCell, Array.size_modify]; exact h.size, fun k hk => (set_otherA (by omega)).trans (h.block k hk)⟩
theorem set_sizeA (w : World) (a : Addr) (x : Value) : (w.setCell a x).heap.size = w.heap.size := by simp [World.setCell]
theorem info_239 : (Tryz.prog.info? 239).map (·.size) = some 13 := by kernel_rfl
theorem row_239 : (Tryz.prog.underlying 239).map (·.isRow) = some true := by kernel_rfl
theorem way_len (h i : Nat) : (wayA h i).length = 13 := by simp [wayA]
theorem way_one (h i : Nat) : (wayA h i).toArray.all (·.oneCell') = true := by
  rw [List.all_toArray, List.all_eq_true]
  intro x hx
  obtain ⟨j, _, rfl⟩ := List.mem_map.1 hx
  split <;> rfl
theorem way_at {h i j : Nat} (hj : j < 13) : (wayA h i)[j]? = some (if j < i then ivR (chunkM h j) else ivR 0) := by
  unfold wayA
  rw [List.getElem?_map, List.getElem?_range hj]
  rfl
theorem chunk_div (h : Nat) {j : Nat} (hj : j < 13) : chunkM h j = h / 32 ^ j % 32 := by
  unfold chunkM cutM
  rw [Nat.min_eq_left (by omega), Nat.pow_mul]
set_option maxHeartbeats 2000000 in
set_option maxRecDepth 100000 in
theorem ref06Way (w : World) (h : Nat) (hh : h < 18446744073709551616) : Calls Tryz.prog 111 #[.int .u64 (h : Int)] w fun e w' => e = .returned (.agg (wayA h 13).toArray) ∧ Below w.heap.size w w' := by
  obtain ⟨W2, hW2⟩ : ∃ x, x = (w.alloc (.cells (wayA h 0).toArray 239)).alloc (.cells (wayA h 0).toArray 239) := ⟨_, rfl⟩
  have hz : W2.heap.size = w.heap.size + 2 := by rw [hW2]; simp
  have hB : Below w.heap.size w W2 := by rw [hW2]; exact ((Below.refl _ w).alloc (Nat.le_refl _) _).alloc (by simp) _
  have r1 : W2.heap[w.heap.size + 1]? = some (.cells (wayA h 0).toArray 239) := by rw [hW2]; have := heap_alloc_new (w.alloc (.cells (wayA h 0).toArray 239)) (.cells (wayA h 0).toArray 239); simpa using this
  have r2 : W2.heap[w.heap.size]? = some (.cells (wayA h 0).toArray 239) := by rw [hW2, haOld _ _ (by simp)]; exact heap_alloc_new _ _
  have hW2' : W2 = (w.alloc (.cells #[.int .i64 0, .int .i64 0, .int .i64 0, .int .i64 0, .int .i64 0, .int .i64 0, .int .i64 0, .int .i64 0, .int .i64 0, .int .i64 0, .int .i64 0, .int .i64 0, .int .i64 0] 239)).alloc (.cells #[.int .i64 0, .int .i64 0, .int .i64 0, .int .i64 0, .int .i64 0, .int .i64 0, .int .i64 0, .int .i64 0, .int .i64 0, .int .i64 0, .int .i64 0, .int .i64 0, .int .i64 0] 239) := hW2
  have HB := Lib.hid hB
  have HR := Lib.hid r1
  have HR2 := Lib.hid r2
  clear r2
  clear hB r1 hW2
  go_enter Tryz.func111, Tryz.ntmps111
  go_wp2_with fail
  rw [← hW2']
  clear hW2'
  go_loopw [0, 4] (fun v0 v4 wr => ∃ i x : Nat, v0 = .int .u64 (x : Int) ∧ v4 = .int .i64 (i : Int) ∧ i ≤ 13 ∧ Hid (x = h / 32 ^ i) ∧ x < 18446744073709551616 ∧ Hid (wr.heap[w.heap.size + 1]? = some (.cells (wayA h i).toArray 239)) ∧ Hid (Below w.heap.size w wr) ∧ Hid (wr.heap[w.heap.size]? = some (.cells (wayA h 0).toArray 239)) ∧ wr.heap.size = w.heap.size + 2) (fun _ v4 _ => 13 - (intOf v4).toNat)
  case atStart => exact ⟨0, h, rfl, rfl, by omega, by show h = h / 32 ^ 0; simp, hh, HR, HB, HR2, hz⟩
  case round =>
    obtain ⟨i, x, rfl, rfl, hi, HX, hx, HRI, HBI, HZI, hzi⟩ := hrel
    by_cases hlt : i < 13
    · have g1 : (i : Int) < 13 := by omega
      have c0 : wr.cell? ⟨w.heap.size + 1, i, none⟩ = some (ivR 0) := by rw [cell_of_row wr _ i _ _ (0, 0) HRI.out]; simp only [List.getElem?_toArray]; rw [way_at hlt, if_neg (by omega)]
      have f0 : wr.frozen? ⟨w.heap.size + 1, i, none⟩ = false := frozen_of_row wr _ i _ _ HRI.out
      have hv : ((x : Int) % 32) = ((chunkM h i : Nat) : Int) := by rw [chunk_div h hlt, ← HX.out]; omega
      have hw : IntKind.i64.wrap ((x : Int) % 32) = ((chunkM h i : Nat) : Int) := by rw [IntWalk.i64_in _ (by omega), hv]
      have hd : x / 32 = h / 32 ^ (i + 1) := by rw [HX.out, Nat.div_div_eq_div_mul, Nat.pow_succ]
      have hdi : ((x : Int) / 32) = ((x / 32 : Nat) : Int) := by omega
      have hdl : x / 32 < 18446744073709551616 := by omega
      have HD := Lib.hid hd
      have HR' := Lib.hid (way_row HRI.out hlt)
      have HB' := Lib.hid (below_setA HBI.out (a := ⟨w.heap.size + 1, i, none⟩) (by simp) (ivR (chunkM h i)))
      have HZ' := Lib.hid ((set_otherA (w := wr) (a := ⟨w.heap.size + 1, i, none⟩) (x := ivR (chunkM h i)) (k := w.heap.size) (by simp)).trans HZI.out)
      have hs' := (set_sizeA wr ⟨w.heap.size + 1, i, none⟩ (ivR (chunkM h i))).trans hzi
      unfold ivR at *
      generalize chunkM h i = C at *
      generalize x / 32 = X at *
      clear hd HX
      go_wp2
      go_roundw
      case rel => exact ⟨i + 1, X, rfl, rfl, by omega, HD, hdl, HR', HB', HZ', hs'⟩
      case measure => simp [intOf]; omega
    · obtain rfl : i = 13 := by omega
      go_wp2_with first
        | (refine wpList_load_row rfl 239 _ rfl (w.heap.size + 1) rfl 239 (wayA h 13).toArray (0, 0) _ HRI.out Tryz.underlying239 rfl (by rw [info_239]; simp [way_len]) ?_)
        | (refine wpList_store_row rfl 239 _ _ rfl w.heap.size rfl (wayA h 13).toArray rfl 239 (wayA h 0).toArray HZI.out (by rw [info_239]; simp [way_len]) (by simp [way_len]) (way_one h 13) ?_)
        | fail
      refine bodyPost_ret (results_row1 rfl _ _ w.heap.size 239 (wayA h 13) (0, 0) rfl (setRow_heap _ _ _ _ 239 (0, 0) HZI.out) row_239 (by rw [info_239, way_len])) rfl ⟨rfl, below_setRow HBI.out (Nat.le_refl _) _⟩
end Go.Proofs.YtmbiiemlepfoaaaGreatDoor
