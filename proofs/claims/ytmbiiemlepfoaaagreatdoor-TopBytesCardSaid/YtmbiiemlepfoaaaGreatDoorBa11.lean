/- The walk of node.Branch. bits.Map's All: its maker; its closure as an iterator. The walk of graft.With. -/
import Derived.Test.YtmbiiemlepfoaaaGreatDoorBa10
import Derived.Deep.RegionWith
import Derived.Test.YtmbiiemlepfoaaaGreatDoorBa08
import Derived.Test.YtmbiiemlepfoaaaGreatDoorBa06
import Derived.RangeFuncWrites
import Derived.RangeFuncKeeps
import Derived.Maps.AppendAt

/-! The walk of node.Branch. -/
namespace Go.Proofs.YtmbiiemlepfoaaaGreatDoor
open Go.RowKit
set_option linter.unusedVariables false

theorem mCount223 (a : Addr) (w : World) : (method 563 223 (.pointer (some a)) "Count").run Tryz.prog w = .ok (365, .pointer (some a)) w := by kernel_rfl
theorem mCount226 (a : Addr) (w : World) : (method 563 226 (.pointer (some a)) "Count").run Tryz.prog w = .ok (367, .pointer (some a)) w := by kernel_rfl
theorem mCount308 (a : Addr) (w : World) : (method 563 308 (.pointer (some a)) "Count").run Tryz.prog w = .ok (369, .pointer (some a)) w := by kernel_rfl
theorem mKind223 (a : Addr) (w : World) : (method 563 223 (.pointer (some a)) "Kind").run Tryz.prog w = .ok (366, .pointer (some a)) w := by kernel_rfl
theorem mKind226 (a : Addr) (w : World) : (method 563 226 (.pointer (some a)) "Kind").run Tryz.prog w = .ok (368, .pointer (some a)) w := by kernel_rfl
theorem mKind308 (a : Addr) (w : World) : (method 563 308 (.pointer (some a)) "Kind").run Tryz.prog w = .ok (370, .pointer (some a)) w := by kernel_rfl
theorem counts_take {ks : List N} {i : Nat} {n : N} (h : ks[i]? = some n) : N.counts (ks.take (i + 1)) = N.counts (ks.take i) + n.count := by
  have e : ∀ (a b : List N), N.counts (a ++ b) = N.counts a + N.counts b := by
    intro a b
    induction a with
    | nil => simp [N.counts]
    | cons x xs ih => simp only [List.cons_append, N.counts, ih]; omega
  rw [List.take_add_one, h, e]
  simp [N.counts]
theorem counts_le (ks : List N) (i : Nat) : N.counts (ks.take i) ≤ N.counts ks := by
  have e : ∀ (a b : List N), N.counts (a ++ b) = N.counts a + N.counts b := by
    intro a b
    induction a with
    | nil => simp [N.counts]
    | cons x xs ih => simp only [List.cons_append, N.counts, ih]; omega
  conv => rhs; rw [← List.take_append_drop i ks, e]
  omega
abbrev branchRow (m : Nat) (q : Option Addr) (l d n : Nat) : Obj := .cells #[.int .u32 (m : Int), .slice q l d, .int .i64 (n : Int)] 312
set_option maxHeartbeats 4000000 in
set_option maxRecDepth 100000 in
theorem nodeBranch (w : World) (D : Nat → Prop) (hD : ∀ j, w.heap.size ≤ j → D j) {D0 : Nat → Prop} {m c : Nat} {ks : List N} {vs : List Value} {p : Option Addr} (hv : IsVs w D0 p c vs) (ha : N.Ats w D ks vs) (hm : m < 4294967296) (hlen : ks.length = cntUp 32 m) (hne : ks ≠ []) (hsz : N.counts ks < 4611686018427387904) :
    Calls Tryz.prog 253 #[.int .u32 (m : Int), .slice p vs.length c] w fun e w' => ∃ b, e = .returned (ifp 308 b) ∧ N.At w' D (.branch m ks) (ifp 308 b) ∧ Below w.heap.size w w' := by
  have hl := ha.length
  have hpos : 0 < vs.length := by rw [hl]; exact List.length_pos_iff.2 hne
  have h32 : vs.length ≤ 32 := by rw [hl, hlen]; exact cnt_le 32 m
  obtain ⟨pb, po, rfl, hpb, hpd, hcell⟩ := hv.cells hpos
  have cc := bitsCount w m hm
  rw [← hlen, ← hl] at cc
  have CC := Lib.hid cc
  have one : ∀ u ∈ vs, u.oneCell' = true := by
    intro u hu
    obtain ⟨i, hi, rfl⟩ := List.getElem_of_mem hu
    obtain ⟨v, h1, h2⟩ := ha.at_ (i := i) (n := ks[i]'(by omega)) (List.getElem?_eq_getElem (by omega))
    obtain ⟨b, rfl, _⟩ := h2.form
    rw [List.getElem?_eq_getElem hi] at h1
    rw [Option.some.inj h1]; rfl
  have CK := Lib.hid (show ∀ w', Below w.heap.size w w' → Calls Tryz.prog 299 #[.slice (some ⟨pb, po, none⟩) vs.length c] w' _ from fun w' hb => cloneV w' (hv.below hb) one (by omega))
  have HA := Lib.hid (ha.mono (D' := fun j => D j ∧ j < w.heap.size) fun k hk hd => ⟨hd, hk⟩)
  have HCELL := Lib.hid hcell
  have HONE := Lib.hid one
  have HD := Lib.hid hD
  have HL := Lib.hid hl
  clear cc hv ha hcell one hD hl hlen hne
  have g0 : ((vs.length : Int) == 0) = false := by rw [beq_eq_false_iff_ne]; omega
  go_enter Tryz.func253, Tryz.ntmps253
  go_wp2_with first | (go_at_call 295; ((with_reducible refine (CC.out).mono ?_)); rintro e w1 ⟨rfl, nn, rfl⟩) | (go_at_call 299; ((with_reducible refine (CK.out _ (below_drewN _ _ _)).mono ?_)); rintro e w2 ⟨q, d, rfl, hq, hb2⟩; have HQ := Lib.hid hq; have HB2 := Lib.hid hb2; clear hq hb2)
  obtain ⟨xb, hxb⟩ : ∃ xb, xb = w2.heap.size := ⟨_, rfl⟩
  obtain ⟨W3, hW3⟩ : ∃ x, x = w2.alloc (.cells #[.int .u32 (m : Int), .slice q vs.length d, .int .i64 0] 312) := ⟨_, rfl⟩
  rw [← hxb, ← hW3]
  have hb0 := (below_drewN w.heap.size w nn).trans (HB2.out.mono (Nat.le_refl _))
  have hx := hb0.size
  have hb3 : Below w.heap.size w W3 := by rw [hW3]; exact hb0.alloc hb0.size _
  have hr3 : W3.heap[xb]? = some (branchRow m q vs.length d (N.counts (ks.take 0))) := by rw [hW3, hxb]; exact heap_alloc_new _ _
  have hq3 : IsVs W3 (fun j => w.heap.size ≤ j ∧ j ≠ xb) q d vs := by
    have h1 : IsVs w2 (fun j => w.heap.size ≤ j ∧ j ≠ xb) q d vs := HQ.out.mono fun k hk hd => ⟨hd, by omega⟩
    rw [hW3]
    exact h1.below ((Below.refl _ _).alloc (Nat.le_refl _) _)
  have HQ3 := Lib.hid hq3
  have HB3 := Lib.hid hb3
  have HR3 := Lib.hid hr3
  have hxw : w.heap.size ≤ xb := by omega
  have hpx : pb ≠ xb := by omega
  clear hb3 hr3 hq3 hb0 hW3 hxb hx HQ HB2 CK CC
  have hnil : ∀ (t : Nat) (v : Value) (w : World), (binOp .eql 42 (.iface t v) .nilIface).run Tryz.prog w = .ok (.bool false) w := fun _ _ _ => by kernel_rfl
  go_loopw [25] (fun v25 wr => ∃ i : Nat, v25 = .int .i64 (i : Int) ∧ i ≤ vs.length ∧ Hid (wr.heap[xb]? = some (branchRow m q vs.length d (N.counts (ks.take i)))) ∧ Hid (W3.grownBy wr (some xb)))
    (fun v25 _ => vs.length - (intOf v25).toNat)
  case atStart => exact ⟨0, rfl, Nat.zero_le _, HR3.out, grown_rfl _ _⟩
  case round =>
    obtain ⟨i, rfl, hi, HR, HG⟩ := hrel
    have r2 : wr.cell? ⟨xb, 2, none⟩ = some (.int .i64 (N.counts (ks.take i) : Int)) := cell_of_row wr xb 2 _ _ (0, 0) HR.out
    have f2 : wr.frozen? ⟨xb, 2, none⟩ = false := frozen_of_row wr xb 2 _ _ HR.out
    by_cases hlt : i < vs.length
    · obtain ⟨n, hn⟩ : ∃ n, ks[i]? = some n := ⟨_, List.getElem?_eq_getElem (by have := HL.out; omega)⟩
      obtain ⟨v, hv1, hv2⟩ := HA.out.at_ hn
      obtain ⟨kb, rfl, ⟨hkd, hkl⟩, _⟩ := hv2.form
      have hgw : w.grownBy wr (some xb) := grown_trans (grown_of_below HB3.out _) HG.out
      have hoff : Off (fun j => D j ∧ j < w.heap.size) (some xb) := fun b e h => by cases e; have := h.2; omega
      have hvr := hv2.grown hoff hgw
      have hce : wr.cell? ⟨pb, po + i, none⟩ = some (ifp n.tag kb) := by
        rw [World.cell?_of_block (w := w) (hgw.block pb hpb (by simp; exact hpx))]
        exact HCELL.out i _ hv1
      have CN := Lib.hid (nodeCount wr.drew (hvr.below (Below.refl _ _).drew))
      have hct := counts_take hn
      have hcl := counts_le ks (i + 1)
      have hw1 : IntKind.i64.wrap ((N.counts (ks.take i) : Int) + (n.count : Int)) = (N.counts (ks.take (i + 1)) : Int) := by rw [IntWalk.i64_in _ (by omega)]; omega
      have HSET := Lib.hid (show ∀ W : World, W.heap[xb]? = some (branchRow m q vs.length d (N.counts (ks.take i))) → (W.setCell ⟨xb, 2, none⟩ (.int .i64 (N.counts (ks.take (i + 1)) : Int))).heap[xb]? = some (branchRow m q vs.length d (N.counts (ks.take (i + 1)))) from fun W h => by simp [World.setCell, Array.getElem?_modify, h])
      generalize hc1 : N.counts (ks.take (i + 1)) = c1 at *
      have HC1 := Lib.hid hc1
      generalize N.counts (ks.take i) = c0 at *
      have g1 : (i : Int) < (vs.length : Int) := by omega
      have HG2 := Lib.hid (show ∀ W : World, wr.grownBy W (some xb) → ∀ v, W3.grownBy (W.setCell ⟨xb, 2, none⟩ v) (some xb) from fun W hg v => grown_trans (grown_trans HG.out hg) ⟨rfl, rfl, rfl, by simp [World.setCell], fun k _ hk => Below.heap_setCell W _ _ k (fun e => hk (by rw [e]))⟩)
      clear hct hcl hvr hv2 hgw hn hv1 hc1
      cases n with
      | leaf g k v =>
        unfold N.tag at hce
        unfold N.cf at CN
        have mm := mCount223
        go_wp2_with fail
        go_region_with ((go_at_call 365; ((with_reducible refine CN.out.mono ?_)); rintro e w9 ⟨rfl, rfl⟩))
        all_goals
          go_wp2
          go_roundw
          case rel => exact ⟨i + 1, by go_num, by omega, by rw [HC1.out]; exact HSET.out _ HR.out, grown_trans (HG2.out wr (grown_rfl _ _) _) (grown_dr _ _)⟩
          case measure => simp [intOf]; omega
      | bucket g t =>
        unfold N.tag at hce
        unfold N.cf at CN
        have mm := mCount226
        go_wp2_with fail
        go_region_with ((go_at_call 367; ((with_reducible refine CN.out.mono ?_)); rintro e w9 ⟨rfl, rfl⟩))
        all_goals
          go_wp2
          go_roundw
          case rel => exact ⟨i + 1, by go_num, by omega, by rw [HC1.out]; exact HSET.out _ HR.out, grown_trans (HG2.out wr (grown_rfl _ _) _) (grown_dr _ _)⟩
          case measure => simp [intOf]; omega
      | branch m' ks' =>
        unfold N.tag at hce
        unfold N.cf at CN
        have mm := mCount308
        go_wp2_with fail
        go_region_with ((go_at_call 369; ((with_reducible refine CN.out.mono ?_)); rintro e w9 ⟨rfl, rfl⟩))
        all_goals
          go_wp2
          go_roundw
          case rel => exact ⟨i + 1, by go_num, by omega, by rw [HC1.out]; exact HSET.out _ HR.out, grown_trans (HG2.out wr (grown_rfl _ _) _) (grown_dr _ _)⟩
          case measure => simp [intOf]; omega
    · obtain rfl : i = vs.length := by omega
      have HE := Lib.hid (show ks.take vs.length = ks from by rw [HL.out]; exact List.take_length)
      go_wp2
      go_ret
      have hB := HB3.out.grown HG.out HB3.out.size (fun k e => by cases e; omega)
      refine ⟨xb, rfl, ?_, hB⟩
      have hr := HR.out
      rw [HE.out] at hr
      have hoff : Off (fun j => w.heap.size ≤ j ∧ j ≠ xb) (some xb) := fun b e h => by cases e; exact h.2 rfl
      have hoff2 : Off (fun j => D j ∧ j < w.heap.size) (some xb) := fun b e h => by cases e; have := h.2; omega
      unfold N.At
      refine ⟨xb, q, d, vs, rfl, HD.out _ hxw, hr, (HQ3.out.grown hoff HG.out).mono fun j _ hj => HD.out j hj.1, ?_⟩
      exact ((HA.out.keep (grown_trans (grown_of_below HB3.out _) HG.out).size (hoff2.keep (grown_trans (grown_of_below HB3.out _) HG.out)))).mono fun j _ hj => hj.1
end Go.Proofs.YtmbiiemlepfoaaaGreatDoor

/-! bits.Map's All: its maker; its closure as an iterator. -/
namespace Go.Proofs.YtmbiiemlepfoaaaGreatDoor
open Go.RowKit Go.Shelf
set_option linter.unusedVariables false
attribute [local go_sem] Oper.semAt_some

theorem bitsAll (w : World) (m : Int) : Calls Tryz.prog 298 #[.int .u32 m] w fun e w' => e = .returned (.func (.func 322) #[] #[.pointer (some ⟨w.heap.size, 0, none⟩)]) ∧ w' = w.alloc (.cells #[.int .u32 m] 218) := by
  have hmf : ∀ (fn : Fn) (first cap : Array Value) (w : World), (Instr.makeFunc fn first cap).run Tryz.prog w = .ok (.func fn first cap) w := fun _ _ _ _ => rfl
  go_enter Tryz.func298, Tryz.ntmps298
  go_wp2
  go_ret
  exact ⟨rfl, rfl⟩

abbrev encB (x : Fin 32) : Array Value := #[.int .i64 (x.val : Int)]
theorem tab_keep {g : Nat} {tab : List Nat} {w w' : World} (h : TabAt g tab w) (hk : w'.heap[g]? = w.heap[g]?) : TabAt g tab w' := fun j hj => by
  rw [← h j hj]
  unfold World.cell?
  rw [hk]
set_option maxRecDepth 100000 in
set_option maxHeartbeats 4000000 in
theorem bitsSeq (w0 : World) {n₀ B m : Nat} (hm : m < 4294967296) (hB : w0.heap[B]? = some (.cells #[.int .u32 (m : Int)] 218)) (h2 : 2 < n₀) (hn : n₀ ≤ w0.heap.size) (hT : TabAt 2 Lib.deBruijn32tab w0) :
    SeqStopsK Fence.wide 2 Tryz.prog 322 #[.pointer (some ⟨B, 0, none⟩)] encB (Below n₀) (fun xs => xs.map (·.val) = bitsOf m) (fun _ => True) 33 w0 := by
  intro l J Jx W hW hJ hJx hY h0
  have hBl := row_ltT hB
  have c1 : W.cell? ⟨B, 0, none⟩ = some (.int .u32 (m : Int)) := (hW.cell (p := ⟨B, 0, none⟩) hBl).trans (cell_of_row w0 B 0 _ _ (0, 0) hB)
  have hT' : TabAt 2 Lib.deBruijn32tab W := tab_keep hT (hW.block 2 (by omega))
  have HT := Lib.hid hT'
  have hn' := hW.size
  have HJ := Lib.hid hJ
  have HJx := Lib.hid hJx
  have HY := Lib.hid hY
  have H0 := Lib.hid h0
  have HLEN : Hid (∀ pre : List (Fin 32), ∀ rest, pre.map (·.val) ++ rest = bitsOf m → pre.length < 33) := fun pre rest h => by
    have h1 := congrArg List.length h
    have h2 : (bitsOf m).length ≤ 32 := cnt_le 32 m
    rw [List.length_append, List.length_map] at h1
    omega
  clear hT hT' hJ hJx hY h0 hB hW
  refine callsIn_of_wp Tryz.func322 rfl trivial ?_ rfl
  simp only [Tryz.ntmps322, List.size_toArray, List.length_cons, List.length_nil, Nat.reduceAdd, Nat.reduceSub, Array.replicate_succ, Array.replicate_zero, List.push_toArray, List.append_toArray, List.nil_append, List.cons_append]
  gi_wp2
  gi_loopw [3] (fun v3 wr => ∃ (left : Nat) (pre : List (Fin 32)), v3 = .int .u32 (left : Int) ∧ left < 4294967296 ∧ Hid (pre.map (·.val) ++ bitsOf left = bitsOf m) ∧ Hid (J pre wr) ∧ Hid (Below n₀ W wr))
    (fun v3 _ => (intOf v3).toNat)
  case atStart => exact ⟨m, [], rfl, hm, rfl, H0.out, Below.refl _ _⟩
  case round =>
    obtain ⟨left, pre, rfl, hl, HP, HJp, HBW⟩ := hrel
    by_cases hz : left = 0
    · subst hz
      have HS := Lib.hid (show pre.map (·.val) = bitsOf m from by have := HP.out; rwa [bits_zero, List.append_nil] at this)
      gi_wp2
      go_end0
      exact ⟨⟨_, rfl⟩, .inl ⟨pre, HS.out, HJp.out⟩⟩
    · obtain ⟨hc32, hlt, hnext⟩ := bits_next hz hl
      have CT := Lib.hid (tz32 wr left hl hz (tab_keep HT.out (HBW.out.block 2 h2)))
      obtain ⟨c, hc⟩ : ∃ c, c = Lib.ctz 32 left := ⟨_, rfl⟩
      rw [← hc] at CT hc32 hnext
      have g0 : ((left : Int) != 0) = true := by simp; omega
      have g0' : ((left : Int) == 0) = false := by simp; omega
      have e1 : IntKind.u32.wrap ((left : Int) - 1) = ((left - 1 : Nat) : Int) := by rw [IntKind.wrap_u32]; omega
      have e1' : ((left : Int) - 1) % 4294967296 = ((left - 1 : Nat) : Int) := by omega
      have e2 := u32_and_nat left (left - 1) hl (by omega)
      have HP2 := Lib.hid (show (pre ++ [(⟨c, hc32⟩ : Fin 32)]).map (·.val) ++ bitsOf (left &&& (left - 1)) = bitsOf m from by
        have := HP.out
        rw [hnext] at this
        rw [List.map_append, List.append_assoc]
        exact this)
      have hlen := HLEN.out _ _ HP.out
      obtain ⟨nx, hnx⟩ : ∃ nx, nx = left &&& (left - 1) := ⟨_, rfl⟩
      rw [← hnx] at HP2 e2 hlt
      obtain ⟨fn, tmps, assign, body, hy, hR⟩ := HY.out pre ⟨c, hc32⟩ wr HJp.out hlen
      dsimp only [encB] at hy
      clear hc hnext hnx hlen
      gi_wp2_with fail
      gi_wp2_with (refine ⟨trivial, ?_⟩; ((with_reducible refine ((callsIn_wide (n := 1)).2 CT.out).mono ?_)); rintro e w2 ⟨rfl, rfl⟩)
      refine hR.mono ?_
      rintro e w4 (⟨rfl, hJ4, hk4⟩ | ⟨rfl, hJx4⟩)
      · have HJ4 := Lib.hid hJ4
        have HB4 := Lib.hid (HBW.out.trans hk4)
        clear hJ4 hk4 hR hy
        gi_wp2
        go_roundw
        case rel => exact ⟨nx, _, rfl, by omega, HP2, HJ4, HB4⟩
        case measure => simp [intOf]; omega
      · have HJ4 := Lib.hid hJx4
        clear hJx4 hR hy
        gi_wp2
        refine bodyPost_ret (results_none rfl _ _ _) rfl ?_
        exact ⟨⟨_, rfl⟩, .inr ⟨_, trivial, HJ4.out⟩⟩
end Go.Proofs.YtmbiiemlepfoaaaGreatDoor

/-! The walk of graft.With. -/
namespace Go.Proofs.YtmbiiemlepfoaaaGreatDoor
open Go.RowKit Go.Shelf
set_option linter.unusedVariables false
attribute [local go_sem] Oper.semAt_some

def kidV (m : Nat) (vs : List Value) (c : Nat) : Value := if m.testBit c then vs.getD (cntUp c m) .nilIface else .nilIface
structure BrAt (w : World) (nb m : Nat) (vs : List Value) : Prop where
  row : ∃ p c n, w.heap[nb]? = some (branchRow m p vs.length c n) ∧ (0 < vs.length → ∃ b o, p = some ⟨b, o, none⟩ ∧ b < w.heap.size ∧ ∀ i x, vs[i]? = some x → w.cell? ⟨b, o + i, none⟩ = some x)
  len : vs.length = cntUp 32 m
  lt : m < 4294967296
theorem BrAt.below {w w' : World} {n₀ nb m : Nat} {vs : List Value} (h : BrAt w nb m vs) (hn : n₀ = w.heap.size) (hb : Below n₀ w w') : BrAt w' nb m vs := by
  subst hn
  obtain ⟨p, c, n, h1, h2⟩ := h.row
  exact ⟨⟨p, c, n, (hb.block nb (row_ltT h1)).trans h1, fun hl => by
    obtain ⟨b, o, hp, hbl, hc⟩ := h2 hl
    exact ⟨b, o, hp, Nat.lt_of_lt_of_le hbl hb.size, fun i x hx => (hb.cell (p := ⟨b, o + i, none⟩) hbl).trans (hc i x hx)⟩⟩, h.len, h.lt⟩
set_option maxHeartbeats 1000000 in
set_option maxRecDepth 100000 in
theorem nodeKidV (w : World) {nb m c : Nat} {vs : List Value} (h : BrAt w nb m vs) (hc : c < 32) :
    Calls Tryz.prog 103 #[ifp 308 nb, .int .i64 (c : Int)] w fun e w' => e = .returned (.tuple #[kidV m vs c, .bool (m.testBit c)]) ∧ ∃ n, w' = w.drewN n := by
  obtain ⟨p, pc, nn, hr, hv⟩ := h.row
  have hm := h.lt
  have hlen := h.len
  have q0 := ta308_308
  have c0 : w.cell? ⟨nb, 0, none⟩ = some (.int .u32 (m : Int)) := cell_of_row w nb 0 _ _ (0, 0) hr
  have c1 : w.cell? ⟨nb, 1, none⟩ = some (.slice p vs.length pc) := cell_of_row w nb 1 _ _ (0, 0) hr
  have CH := Lib.hid (fun w => bitsHas w m c hm hc)
  have CP := Lib.hid (fun w => bitsPlace w m c hm hc)
  unfold kidV
  by_cases hb : m.testBit c = true
  · rw [if_pos hb]
    rw [hb] at CH ⊢
    have hlt := cnt_lt hc hb
    have hi : cntUp c m < vs.length := by omega
    obtain ⟨pb, po, rfl, hpb, hcell⟩ := hv (by omega)
    have c2 := hcell _ _ (List.getElem?_eq_getElem hi)
    rw [show vs.getD (cntUp c m) .nilIface = vs[cntUp c m] from by simp [List.getD, hi]]
    generalize vs[cntUp c m] = v at *
    have g0 : (0 : Int) ≤ (cntUp c m : Int) := by omega
    have g1 : (cntUp c m : Int) < (vs.length : Int) := by omega
    generalize cntUp c m = i at *
    clear hcell hv hr hlen hlt h
    go_enter Tryz.func103, Tryz.ntmps103
    go_wp2_with (go_at_call 177; ((with_reducible refine (CH.out _).mono ?_)); rintro e w1 ⟨rfl, rfl⟩)
    go_quiet (first | (go_at_call 178; with_reducible exact quiet_left (CP.out _)) | fail)
    go_wp2
    go_ret2
    exact ⟨rfl, _, rfl⟩
  · have hb' : m.testBit c = false := by simpa using hb
    rw [hb', if_neg (by simp)]
    rw [hb'] at CH
    clear hv hr hlen h
    go_enter Tryz.func103, Tryz.ntmps103
    go_wp2_with (go_at_call 177; ((with_reducible refine (CH.out _).mono ?_)); rintro e w1 ⟨rfl, rfl⟩)
    go_ret2
    exact ⟨rfl, 0, rfl⟩

theorem collect_step {W w1 : World} {n₀ b5 kb k m : Nat} {v v' : Value} {xs ys : List Value} {tmp : Obj} (hv : Boxed W kb 310 v) (hrow : W.ownsRow b5 42 1 v k xs) (hkb : kb < b5) (hn0 : n₀ ≤ kb) (hb5 : b5 ≤ W.heap.size)
    (hown' : w1.ownsRow b5 42 1 v' m ys) (hgrow : (W.alloc tmp).grownBy w1 v.ownBlock) :
    Boxed w1 kb 310 v ∧ Boxed (w1.setCell ⟨kb, 0, none⟩ v') kb 310 v' ∧ (w1.setCell ⟨kb, 0, none⟩ v').ownsRow b5 42 1 v' m ys ∧ KeepsOthers W (w1.setCell ⟨kb, 0, none⟩ v') ∧ Below n₀ W (w1.setCell ⟨kb, 0, none⟩ v') ∧ ∀ j, j < b5 → j ≠ kb → (w1.setCell ⟨kb, 0, none⟩ v').heap[j]? = W.heap[j]? := by
  have hown0 : ∀ j, v.ownBlock = some j → b5 ≤ j := fun j h => (hrow.lt j h).1
  have hne : some kb ≠ v.ownBlock := fun e => by have := hown0 kb e.symm; omega
  have hv1 : Boxed w1 kb 310 v := (hv.alloc tmp).kept hgrow hne
  refine ⟨hv1, hv1.set v', hown'.kept (grownBy_setCell' w1 kb v') ?_, ?_, ?_, ?_⟩
  · rcases ho : v'.ownBlock with _ | j
    · exact .inl rfl
    · exact .inr fun e => by cases e; have := (hown'.lt _ ho).1; omega
  · refine ((KeepsOthers.alloc W tmp).trans (KeepsOthers.of_grownBy hgrow fun j o ej hj => ?_)).trans (KeepsOthers.setCell _ _ _)
    rcases (hrow.alloc tmp).2 with ⟨rfl, _⟩ | ⟨g, cap, cur, rfl, _, hgb, _⟩
    · simp [Value.ownBlock] at ej
    · obtain rfl : g = j := by simpa [Value.ownBlock] using ej
      rw [hgb] at hj; cases hj; rfl
  · exact (((Below.refl n₀ W).alloc (by omega) tmp).grown hgrow (by simp; omega) fun j ej => by have := hown0 j ej; omega).setCell (p := ⟨kb, 0, none⟩) hn0 v'
  · intro j hj hjk
    rw [Below.heap_setCell _ _ _ _ (fun e => hjk e), hgrow.block j (by simp; omega) (fun e => by have := hown0 j e.symm; omega)]
    exact Below.heap_alloc _ _ _ (by omega)
theorem kidV_form {vs : List Value} (h : ∀ v ∈ vs, ∃ t b, v = ifp t b) (m c : Nat) : kidV m vs c = .nilIface ∨ ∃ t b, kidV m vs c = ifp t b := by
  unfold kidV
  split
  · by_cases hl : cntUp c m < vs.length
    · right
      rw [show vs.getD (cntUp c m) .nilIface = vs[cntUp c m] from by simp [List.getD, hl]]
      exact h _ (List.getElem_mem hl)
    · left
      simp [List.getD, hl]
  · exact .inl rfl
def withV (m c : Nat) (vs : List Value) (kv : Value) (i : Nat) : Value := if i = c then kv else kidV m vs i
set_option maxHeartbeats 8000000 in
set_option maxRecDepth 100000 in
theorem graftWithV (w : World) (D : Nat → Prop) (hD : ∀ j, w.heap.size ≤ j → D j) {nb m c : Nat} {vs : List Value} {kt kb : Nat} (h : BrAt w nb m vs) (hc : c < 32) (h2 : 2 < w.heap.size) (hT : TabAt 2 Lib.deBruijn32tab w) (h1 : ∀ v ∈ vs, ∃ t b, v = ifp t b)
    (R : Ending → World → Prop)
    (CB : ∀ w' p c', Below w.heap.size w w' → IsVs w' (fun j => w.heap.size ≤ j) p c' ((bitsOf (m ||| 2 ^ c)).map (withV m c vs (ifp kt kb))) → Calls Tryz.prog 253 #[.int .u32 ((m ||| 2 ^ c : Nat) : Int), .slice p (bitsOf (m ||| 2 ^ c)).length c'] w' fun e w2 => (∃ v, e = .returned v) ∧ R e w2 ∧ Below w'.heap.size w' w2)
    (HR : ∀ v w' o o' l, R (.returned v) w' → w.heap.size ≤ l → w'.heap[l]? = some o → o.isCells = false → R (.returned v) (w'.putObj l o')) :
    Calls Tryz.prog 252 #[ifp 308 nb, .int .i64 (c : Int), ifp kt kb] w R := by
  obtain ⟨i0, hi, hz0, hz1, hz2⟩ := info_parts info42
  have hmm := or_lt32 h.lt hc
  have nm := fun (w' : World) (hb : Below w.heap.size w w') => show Calls Tryz.prog 102 #[ifp 308 nb] w' fun e w2 => e = .returned (.tuple #[.int .u32 (m : Int), .bool true]) ∧ w' = w2 from by
    obtain ⟨p, pc, nn, hr, hv⟩ := (h.below rfl hb).row
    have q0 := ta308_308
    have c0 : w'.cell? ⟨nb, 0, none⟩ = some (.int .u32 (m : Int)) := cell_of_row w' nb 0 _ _ (0, 0) hr
    clear hr hv
    go_enter Tryz.func102, Tryz.ntmps102
    go_wp2
    go_ret2
    exact ⟨rfl, rfl⟩
  have CM := Lib.hid nm
  have CW := Lib.hid (fun w => bitsWith w m c h.lt hc)
  have CA := Lib.hid (fun w => bitsAll w ((m ||| 2 ^ c : Nat) : Int))
  have HBR := Lib.hid h
  have HT := Lib.hid hT
  have HCB := Lib.hid CB
  have HHR := Lib.hid HR
  have HD := Lib.hid hD
  have H1 := Lib.hid h1
  clear nm h hT CB HR hD h1
  obtain ⟨m', hm'⟩ : ∃ m', m' = m ||| 2 ^ c := ⟨_, rfl⟩
  rw [← hm'] at CW CA HCB hmm
  clear hm'
  have hb0 : Below w.heap.size w (((w.alloc (.cells #[ifp 308 nb] 42)).alloc (.cells #[.int .i64 (c : Int)] 3)).alloc (.cells #[ifp kt kb] 42)) := (((Below.refl _ w).alloc (Nat.le_refl _) _).alloc (by simp) _).alloc (by simp; omega) _
  refine (callsIn_wide (n := 3)).1 ?_
  refine callsIn_of_wp_marks Tryz.func252 rfl trivial ?_ rfl
  simp only [Tryz.ntmps252, List.size_toArray, List.length_cons, List.length_nil, Nat.reduceAdd, Nat.reduceSub, Array.replicate_succ, Array.replicate_zero, List.push_toArray, List.append_toArray, List.nil_append, List.cons_append]
  gi_wp2_with first
    | (refine ⟨trivial, ?_⟩; ((with_reducible refine ((callsIn_wide).2 (CM.out _ hb0)).mono ?_)); rintro e w1 ⟨rfl, rfl⟩)
    | (refine ⟨trivial, ?_⟩; ((with_reducible refine ((callsIn_wide).2 (CW.out _)).mono ?_)); rintro e w1 ⟨rfl, rfl⟩)
    | (refine ⟨trivial, ?_⟩; ((with_reducible refine ((callsIn_wide).2 (CA.out _)).mono ?_)); rintro e w1 ⟨rfl, rfl⟩)
  obtain ⟨W0, hW0⟩ : ∃ x, x = ((((w.alloc (.cells #[ifp 308 nb] 42)).alloc (.cells #[.int .i64 (c : Int)] 3)).alloc (.cells #[ifp kt kb] 42)).alloc (.cells #[.slice none 0 0] 310)).alloc (.cells #[.int .u32 (m' : Int)] 218) := ⟨_, rfl⟩
  have hs : W0.heap.size = w.heap.size + 5 := by rw [hW0]; simp
  have hbw : Below w.heap.size w W0 := by rw [hW0]; exact (hb0.alloc (by simp; omega) _).alloc (by simp; omega) _
  have x0 : Boxed W0 w.heap.size 42 (ifp 308 nb) := by rw [hW0]; exact ((((Boxed.new w _ _).alloc _).alloc _).alloc _).alloc _
  have x1 : Boxed W0 (w.heap.size + 1) 3 (.int .i64 (c : Int)) := by rw [hW0]; have := Boxed.new (w.alloc (.cells #[ifp 308 nb] 42)) 3 (.int .i64 (c : Int)); rw [World.size_alloc] at this; exact ((this.alloc _).alloc _).alloc _
  have x2 : Boxed W0 (w.heap.size + 1 + 1) 42 (ifp kt kb) := by rw [hW0]; have := Boxed.new ((w.alloc (.cells #[ifp 308 nb] 42)).alloc (.cells #[.int .i64 (c : Int)] 3)) 42 (ifp kt kb); rw [World.size_alloc, World.size_alloc] at this; exact (this.alloc _).alloc _
  have x3 : Boxed W0 (w.heap.size + 1 + 1 + 1) 310 (.slice none 0 0) := by rw [hW0]; have := Boxed.new (((w.alloc (.cells #[ifp 308 nb] 42)).alloc (.cells #[.int .i64 (c : Int)] 3)).alloc (.cells #[ifp kt kb] 42)) 310 (.slice none 0 0); rw [World.size_alloc, World.size_alloc, World.size_alloc] at this; exact this.alloc _
  have x4 : Boxed W0 (w.heap.size + 1 + 1 + 1 + 1) 218 (.int .u32 (m' : Int)) := by rw [hW0]; have := Boxed.new ((((w.alloc (.cells #[ifp 308 nb] 42)).alloc (.cells #[.int .i64 (c : Int)] 3)).alloc (.cells #[ifp kt kb] 42)).alloc (.cells #[.slice none 0 0] 310)) 218 (.int .u32 (m' : Int)); rw [World.size_alloc, World.size_alloc, World.size_alloc, World.size_alloc] at this; exact this
  have SQ := bitsSeq W0 (n₀ := w.heap.size) hmm x4 h2 (by omega) (tab_keep HT.out (hbw.block 2 h2))
  rw [← hW0]
  clear hW0 hb0
  refine wpIn_rangeFunc_ownF rfl (by decide) (gf := 322) (lb := #[.pointer (some ⟨w.heap.size + 1 + 1 + 1 + 1, 0, none⟩)]) rfl trivial (enters_of Tryz.func322 (by kernel_rfl) rfl) SQ belowK_t (belowK_b (by omega)) (Below.refl _ _) (fun _ => rfl)
    (fun pre W => (∃ v, Boxed W (w.heap.size + 1 + 1 + 1) 310 v ∧ W.ownsRow (w.heap.size + 5) 42 1 v pre.length (pre.map fun x => withV m c vs (ifp kt kb) x.val) ∧ True) ∧ (Boxed W w.heap.size 42 (ifp 308 nb) ∧ (Boxed W (w.heap.size + 1) 3 (.int .i64 (c : Int)) ∧ (Boxed W (w.heap.size + 1 + 1) 42 (ifp kt kb) ∧ (Below w.heap.size w W ∧ w.heap.size + 5 ≤ W.heap.size)))))
    (fun _ _ _ => False)
    (OwnFrom.and (Own.from (holdsRow_own (w.heap.size + 5) (w.heap.size + 1 + 1 + 1) 310 42 1 (fun pre : List (Fin 32) => pre.length) (fun pre => pre.map fun x => withV m c vs (ifp kt kb) x.val) (fun _ _ => True)) _)
      (OwnFrom.and (Own.from (boxed_own w.heap.size 42 (fun _ => ifp 308 nb)) _) (OwnFrom.and (Own.from (boxed_own (w.heap.size + 1) 3 (fun _ => .int .i64 (c : Int))) _) (OwnFrom.and (Own.from (boxed_own (w.heap.size + 1 + 1) 42 (fun _ => ifp kt kb)) _) (OwnFrom.and (ownFrom_below (Nat.le_refl _) (by omega)) (fun _ _ _ _ hs hg _ => Nat.le_trans hs hg.size))))))
    (fun _ _ _ _ _ hs _ _ => hs)
    ⟨⟨_, x3, World.ownsRow_nil _ _ _ _, trivial⟩, x0, x1, x2, hbw, by omega⟩
    (fun x => { tmps := #[ifp 308 nb, Value.int IntKind.i64 ↑c, ifp kt kb, Value.pointer (some { block := w.heap.size, off := 0 }), Value.pointer (some { block := w.heap.size + 1, off := 0 }), Value.pointer (some { block := w.heap.size + 1 + 1, off := 0 }), Value.nilIface, Value.int IntKind.u32 ↑m', Value.bool true, Value.pointer (some { block := w.heap.size + 1 + 1 + 1, off := 0 }), Value.int IntKind.i64 ↑x.val, undef, undef, Value.tuple #[Value.int IntKind.u32 ↑m, Value.bool true], ifp 308 nb, Value.tuple #[Value.int IntKind.u32 ↑m, Value.bool true], Value.int IntKind.u32 ↑m, Value.bool true, Value.int IntKind.u32 ↑m, Value.int IntKind.i64 ↑c, Value.int IntKind.u32 ↑m', Value.int IntKind.u32 ↑m', Value.func (Fn.func 322) #[] #[Value.pointer (some { block := w.heap.size + 1 + 1 + 1 + 1, off := 0 })], Value.int IntKind.i64 ↑x.val, undef, undef, undef, undef, undef, undef, undef, undef, undef, undef, undef, undef, undef, undef, undef, undef, undef, undef, undef, undef], defers := [] }) ?assign ?body ?done ?stop
  case assign =>
    intro l x W K hK
    gi_wp2
    exact hK
  case body =>
    rintro l pre x W ⟨⟨v, hv, hrow, _⟩, y0, y1, y2, hB, hb5⟩ hlt
    have hWs := hB.size
    have hWz := x4.lt
    have hc0 := y0.cell
    have hc1 := y1.cell
    have hc2 := y2.cell
    have hc3 := hv.cell
    by_cases hxc : x.val = c
    · have g0 : ((x.val : Int) == (c : Int)) = true := by simp [hxc]
      have hf : withV m c vs (ifp kt kb) x.val = ifp kt kb := by unfold withV; rw [if_pos hxc]
      gi_wp2_with (gi_at_builtin; refine wpListIn_append_own _ rfl _ _ 310 rfl (w.heap.size + 5) 42 i0 .nilIface 1 16 Tryz.underlying310 hi hz0 hz1 hz2 rfl (by decide) _ _ _ rfl (hrow.alloc _) ⟨W.heap.size, 0, none⟩ 1 1 [ifp kt kb] rfl rfl (cell_one_new _ _ _) (by simp [Value.oneCell']) (by unfold maxLen; omega) (by omega) (by simp; omega) ?_; intro v' w1 hown' hgrow _; obtain ⟨g', cap', rfl⟩ := ownsRow_succ hown'; obtain ⟨hv1, hv2, hr2, hk2, hb2, hot⟩ := collect_step (n₀ := w.heap.size) hv hrow (by omega) (by omega) hb5 hown' hgrow; have hd1 := hv1.cell; have hd2 := hv1.frozen)
      exact ⟨hk2, hb2, ⟨_, hv2, by rw [List.length_append, List.map_append, List.map_cons, hf]; simpa using hr2, trivial⟩, (hot _ (by omega) (by omega)).trans y0, (hot _ (by omega) (by omega)).trans y1, (hot _ (by omega) (by omega)).trans y2, hB.trans hb2, Nat.le_trans hb5 hb2.size⟩
    · have g0 : ((x.val : Int) == (c : Int)) = false := by rw [beq_eq_false_iff_ne]; omega
      have hf : withV m c vs (ifp kt kb) x.val = kidV m vs x.val := by unfold withV; rw [if_neg hxc]
      have CKD := Lib.hid (nodeKidV W (HBR.out.below rfl hB) x.isLt)
      rcases kidV_form H1.out m x.val with hkv | ⟨t2, b2, hkv⟩
      · rw [hkv] at CKD hf
        gi_wp2_with first
          | (refine ⟨trivial, ?_⟩; ((with_reducible refine (CallsIn.inRound l ((callsIn_wide).2 CKD.out)).mono ?_)); rintro e w9 ⟨rfl, n9, rfl⟩; have hv' : Boxed (W.drewN n9) (w.heap.size + 1 + 1 + 1) 310 v := hv; have hrow' : (W.drewN n9).ownsRow (w.heap.size + 5) 42 1 v pre.length (pre.map fun x => withV m c vs (ifp kt kb) x.val) := hrow; have hc3' := hv'.cell)
          | (gi_at_builtin; refine wpListIn_append_own _ rfl _ _ 310 rfl (w.heap.size + 5) 42 i0 .nilIface 1 16 Tryz.underlying310 hi hz0 hz1 hz2 rfl (by decide) _ _ _ rfl (hrow'.alloc _) ⟨W.heap.size, 0, none⟩ 1 1 [.nilIface] rfl rfl (cell_one_new _ _ _) (by simp [Value.oneCell']) (by unfold maxLen; omega) (by omega) (by simp; omega) ?_; intro v' w1 hown' hgrow _; obtain ⟨g', cap', rfl⟩ := ownsRow_succ hown'; obtain ⟨hv1, hv2, hr2, hk2, hb2, hot⟩ := collect_step (n₀ := w.heap.size) hv' hrow' (by omega) (by omega) hb5 hown' hgrow; have hd1 := hv1.cell; have hd2 := hv1.frozen)
        exact ⟨⟨hk2.size, hk2.same⟩, (below_drewN _ W n9).trans hb2, ⟨_, hv2, by rw [List.length_append, List.map_append, List.map_cons, hf]; simpa using hr2, trivial⟩, (hot _ (by omega) (by omega)).trans y0, (hot _ (by omega) (by omega)).trans y1, (hot _ (by omega) (by omega)).trans y2, hB.trans ((below_drewN _ W n9).trans hb2), Nat.le_trans hb5 hb2.size⟩
      · rw [hkv] at CKD hf
        gi_wp2_with first
          | (refine ⟨trivial, ?_⟩; ((with_reducible refine (CallsIn.inRound l ((callsIn_wide).2 CKD.out)).mono ?_)); rintro e w9 ⟨rfl, n9, rfl⟩; have hv' : Boxed (W.drewN n9) (w.heap.size + 1 + 1 + 1) 310 v := hv; have hrow' : (W.drewN n9).ownsRow (w.heap.size + 5) 42 1 v pre.length (pre.map fun x => withV m c vs (ifp kt kb) x.val) := hrow; have hc3' := hv'.cell)
          | (gi_at_builtin; refine wpListIn_append_own _ rfl _ _ 310 rfl (w.heap.size + 5) 42 i0 .nilIface 1 16 Tryz.underlying310 hi hz0 hz1 hz2 rfl (by decide) _ _ _ rfl (hrow'.alloc _) ⟨W.heap.size, 0, none⟩ 1 1 [ifp t2 b2] rfl rfl (cell_one_new _ _ _) (by simp [Value.oneCell']) (by unfold maxLen; omega) (by omega) (by simp; omega) ?_; intro v' w1 hown' hgrow _; obtain ⟨g', cap', rfl⟩ := ownsRow_succ hown'; obtain ⟨hv1, hv2, hr2, hk2, hb2, hot⟩ := collect_step (n₀ := w.heap.size) hv' hrow' (by omega) (by omega) hb5 hown' hgrow; have hd1 := hv1.cell; have hd2 := hv1.frozen)
        exact ⟨⟨hk2.size, hk2.same⟩, (below_drewN _ W n9).trans hb2, ⟨_, hv2, by rw [List.length_append, List.map_append, List.map_cons, hf]; simpa using hr2, trivial⟩, (hot _ (by omega) (by omega)).trans y0, (hot _ (by omega) (by omega)).trans y1, (hot _ (by omega) (by omega)).trans y2, hB.trans ((below_drewN _ W n9).trans hb2), Nat.le_trans hb5 hb2.size⟩
  case done =>
    rintro D xs W hD hS ⟨⟨v, hv, hrow, _⟩, y0, y1, y2, hB, hb5⟩ hK
    have hm1 : (xs.map fun x => withV m c vs (ifp kt kb) x.val) = (bitsOf m').map (withV m c vs (ifp kt kb)) := by rw [← hS, List.map_map]; rfl
    have hl1 : xs.length = (bitsOf m').length := by have := congrArg List.length hS; rwa [List.length_map] at this
    rw [hm1, hl1] at hrow
    obtain ⟨q, d, rfl⟩ := own_slice hrow
    have hc3 := hv.cell
    have CBW := Lib.hid (HCB.out W q d hB (by have := IsVs.own (base := w.heap.size + 5) (D := fun j => w.heap.size ≤ j) (vs := (bitsOf m').map (withV m c vs (ifp kt kb))) (fun j hj => by omega) (by rw [List.length_map]; exact hrow); exact this))
    clear hm1 hrow
    gi_wp2_with (refine ⟨trivial, ?_⟩; ((with_reducible refine ((callsIn_wide).2 CBW.out).mono ?_)); rintro e w5 ⟨⟨rv, rfl⟩, hR5, hb5'⟩; have hK5 := (hb5'.block D (row_ltT hK)).trans hK)
    refine ⟨by simp, .inl ⟨_, _, rfl, run_takeDeferred hK5, ?_⟩⟩
    refine ⟨_, results_tmp rfl _ _ _, ?_⟩
    exact HHR.out rv w5 _ _ D hR5 (by omega) hK5 rfl
  case stop =>
    rintro D c pre W _ _ h _
    exact h.elim
end Go.Proofs.YtmbiiemlepfoaaaGreatDoor
