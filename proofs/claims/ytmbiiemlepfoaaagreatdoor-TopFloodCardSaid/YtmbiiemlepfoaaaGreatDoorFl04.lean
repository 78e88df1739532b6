/- walk.All's closure as an iterator with a block of its own (the cursor). sip's parts, as functions of their arguments alone (nothing is said of which). The walk of sip's Round. The walks of Meter.Visit, Meter.Compare: at nil, and at a meter's block. The tree's turns, Put and From, in plain Lean. The walks of weigh. The walks of turnLeft, turnRight: one turn, two turns. (gen_turn.py wrote these lines out for both sides.) -/
import Derived.Test.YtmbiiemlepfoaaaGreatDoorFl01
import Derived.Test.YtmbiiemlepfoaaaGreatDoorFl03
import Derived.Test.YtmbiiemlepfoaaaGreatDoorFl02
import Derived.BigQuiet
import Derived.Deep.RegionHeld3

namespace Go.Proofs.YtmbiiemlepfoaaaGreatDoor
open Go.RowKit Go.Shelf
set_option linter.unusedVariables false
attribute [local go_sem] Oper.semAt_some
abbrev PairT := List UInt8 × List UInt8
def seqM (t : T) (f : List UInt8) (tk : List UInt8) (closed : Bool) : List (PairT × Nat) := (t.list.zipIdx.take (endM t tk closed)).drop (rankM t f)
def EncP (D : Nat → Prop) (A : World) (x : PairT × Nat) (args : Array Value) : Prop :=
  ∃ q1 d1 q2 d2, args = #[.int .i64 (x.2 : Int), pairV q1 d1 x.1.1 q2 d2 x.1.2] ∧ IsD A D q1 d1 x.1.1 ∧ IsD A D q2 d2 x.1.2
theorem zip_at {L : List PairT} {j : Nat} {x : PairT} (h : L[j]? = some x) : L.zipIdx[j]? = some (x, j) := by simp [h]
theorem seq_next {L : List PairT} {f j : Nat} {x : PairT} (hf : f ≤ j) (h : L[j]? = some x) : (L.zipIdx.take (j + 1)).drop f = (L.zipIdx.take j).drop f ++ [(x, j)] := by
  have hj : j < L.zipIdx.length := (List.getElem?_eq_some_iff.1 (zip_at h)).1
  rw [List.take_add_one, zip_at h, List.drop_append_of_le_length (by rw [List.length_take]; omega)]
  rfl
theorem seq_at {L : List PairT} {f j e : Nat} {x : PairT} (hf : f ≤ j) (he : j < e) (h : L[j]? = some x) : ∃ post, (L.zipIdx.take e).drop f = (L.zipIdx.take j).drop f ++ (x, j) :: post := by
  have hj : j < L.zipIdx.length := (List.getElem?_eq_some_iff.1 (zip_at h)).1
  refine ⟨(L.zipIdx.take e).drop (j + 1), ?_⟩
  have e1 : (L.zipIdx.take e) = L.zipIdx.take (j + 1) ++ (L.zipIdx.take e).drop (j + 1) := by
    conv => lhs; rw [← List.take_append_drop (j + 1) (L.zipIdx.take e)]
    rw [List.take_take, Nat.min_eq_left (by omega)]
  conv => lhs; rw [e1]
  rw [List.drop_append_of_le_length (by rw [List.length_take]; omega), seq_next hf h, List.append_assoc]
  rfl
theorem seq_none {L : List PairT} {f : Nat} : (L.zipIdx.take f).drop f = [] := List.drop_eq_nil_of_le (by rw [List.length_take]; omega)
def placeOf (wr : World) : Value → Nat
  | .pointer (some a) => match wr.cell? (a.add 1) with
    | some (.int _ i) => i.toNat
    | _ => 0
  | _ => 0
set_option maxRecDepth 100000 in
set_option maxHeartbeats 4000000 in
theorem allSeq (w0 : World) {n₀ B1 B2 : Nat} (hn : n₀ ≤ w0.heap.size) (hB1 : B1 < w0.heap.size) (hB2 : B2 < w0.heap.size) {p : Option Addr} {t : T} (h : TreeAt w0 (fun k => k < n₀) p t) (hsm : t.Small) (hsz : t.size < 1152921504606846976)
    {fp tp : Option Addr} {fc tc : Nat} {f tk : List UInt8} (hf : IsB w0 fp fc f) (ht : IsB w0 tp tc tk) (closed : Bool)
    (hc1 : w0.cell? ⟨B1, 0, none⟩ = some (.pointer p)) (hc2 : w0.heap[B2]? = some (.cells #[.slice fp f.length fc, .slice tp tk.length tc, .bool closed] 151)) :
    SeqG Tryz.prog 172 #[.pointer (some ⟨B1, 0, none⟩), .pointer (some ⟨B2, 0, none⟩)] (EncP fun j => w0.heap.size ≤ j) n₀ (seqM t f tk closed) w0 := by
  intro l J Jx W hW hJ hJx hY h0
  have c1 : W.cell? ⟨B1, 0, none⟩ = some (.pointer p) := (hW.cell (p := ⟨B1, 0, none⟩) hB1).trans hc1
  have r2 := (hW.block B2 hB2).trans hc2
  have c20 : W.cell? ⟨B2, 0, none⟩ = some (.slice fp f.length fc) := cell_of_row W _ 0 _ _ (0, 0) r2
  have c21 : W.cell? ⟨B2, 1, none⟩ = some (.slice tp tk.length tc) := cell_of_row W _ 1 _ _ (0, 0) r2
  have c22 : W.cell? ⟨B2, 2, none⟩ = some (.bool closed) := cell_of_row W _ 2 _ _ (0, 0) r2
  have hn' : n₀ ≤ W.heap.size := Nat.le_trans hn hW.size
  have hzW : w0.heap.size ≤ W.heap.size := hW.size
  have hB1' : B1 < W.heap.size := Nat.lt_of_lt_of_le hB1 hW.size
  have hT := h.below hW
  have CE := Lib.hid (walkEnds W _ hT hsm hsz (hf.below hW) (ht.below hW) closed)
  have hel := endM_le t tk closed
  have hfl := rankM_le t f
  have CAT := Lib.hid (show ∀ w', Below W.heap.size W w' → Calls Tryz.prog 174 #[.pointer p, .int .i64 (rankM t f : Int)] w' _ from fun w' hb => cursorAt w' _ (hT.below hb) _ hfl)
  have HT := Lib.hid hT
  have HJ := Lib.hid (fun g pre A B => @hJ g pre A B)
  have HJx := Lib.hid (fun g pre A B => @hJx g pre A B)
  have HY := Lib.hid hY
  have H0 := Lib.hid h0
  clear hT hf ht hc1 hc2 r2 h hJ hJx hY h0 hW
  refine callsIn_of_wp Tryz.func172 rfl trivial ?_ rfl
  simp only [Tryz.ntmps172, List.size_toArray, List.length_cons, List.length_nil, Nat.reduceAdd, Nat.reduceSub, Array.replicate_succ, Array.replicate_zero, List.push_toArray, List.append_toArray, List.nil_append, List.cons_append]
  gi_wp2_with first
    | (refine ⟨trivial, rfl, ?_⟩; ((with_reducible refine ((callsIn_wide (n := 0)).2 CE.out).mono ?_)); rintro e w1 ⟨rfl, hb⟩; have c1' : w1.cell? ⟨B1, 0, none⟩ = some (.pointer p) := (hb.cell (p := ⟨B1, 0, none⟩) hB1').trans c1; have HB := Lib.hid hb; clear hb)
    | (refine ⟨trivial, rfl, ?_⟩; ((with_reducible refine ((callsIn_wide (n := 0)).2 (CAT.out _ HB.out)).mono ?_)); rintro e w2 ⟨rfl, rfl⟩)
  have hgs : W.heap.size ≤ w1.heap.size := HB.out.size
  have hbn : Below n₀ W (w1.alloc (.cells #[.pointer p, .int .i64 (rankM t f : Int)] 372)) := (HB.out.mono hn').alloc (by omega) _
  have hrow0 : (w1.alloc (.cells #[.pointer p, .int .i64 (rankM t f : Int)] 372)).heap[w1.heap.size]? = some (.cells #[.pointer p, .int .i64 (rankM t f : Int)] 372) := heap_alloc_new _ _
  have hJ0 : J w1.heap.size ((t.list.zipIdx.take (rankM t f)).drop (rankM t f)) (w1.alloc (.cells #[.pointer p, .int .i64 (rankM t f : Int)] 372)) := by
    rw [seq_none]
    refine HJ.out _ _ _ _ hgs (H0.out _ hgs) ?_
    have hb := HB.out.alloc hgs (.cells #[.pointer p, .int .i64 (rankM t f : Int)] 372)
    exact ⟨hb.os, hb.tape, hb.output, hb.size, fun k hk _ => hb.block k hk⟩
  gi_loopw [7] (fun v7 wr => ∃ j : Nat, rankM t f ≤ j ∧ (j ≤ endM t tk closed ∨ j = rankM t f) ∧ wr.heap[w1.heap.size]? = some (.cells #[.pointer p, .int .i64 (j : Int)] 372) ∧
      J w1.heap.size ((t.list.zipIdx.take j).drop (rankM t f)) wr ∧ Below n₀ W wr)
    (fun _ wr => endM t tk closed - placeOf wr (.pointer (some ⟨w1.heap.size, 0, none⟩)))
  case atStart => exact ⟨_, Nat.le_refl _, .inr rfl, hrow0, hJ0, hbn⟩
  case round =>
    obtain ⟨j, hfj, hje, hrow, hJj, hbj⟩ := hrel
    have e1 : wr.cell? ⟨w1.heap.size, 1, none⟩ = some (.int .i64 (j : Int)) := cell_of_row wr _ 1 _ _ (0, 0) hrow
    have CP := Lib.hid (cursorPlace wr e1)
    by_cases hlt : j < endM t tk closed
    · have hjt : j < t.list.length := by rw [T.list_length]; omega
      obtain ⟨⟨k, v⟩, hkv⟩ : ∃ x, t.list[j]? = some x := ⟨_, List.getElem?_eq_getElem hjt⟩
      obtain ⟨post, hpost⟩ := seq_at hfj hlt hkv
      have hTj : TreeAt wr (fun k => k < n₀) p t := HT.out.keep hbj.size fun k _ hk => hbj.block k hk
      have CN := Lib.hid (cursorNext wr _ (fun j => w0.heap.size ≤ j) (fun k hk => by have := hbj.size; omega) hTj hsm hsz hrow hkv)
      have HPOST := Lib.hid hpost
      have HJj := Lib.hid hJj
      have HBJ := Lib.hid hbj
      have HROW := Lib.hid hrow
      have hgl := row_ltT hrow
      clear hpost hJj hbj hrow hTj
      skip
      gi_wp2_with first
        | (refine ⟨trivial, rfl, ?_⟩; ((with_reducible refine ((callsIn_wide (n := 0)).2 CP.out).mono ?_)); rintro e w2 ⟨rfl, rfl⟩)
        | (refine ⟨trivial, rfl, ?_⟩; ((with_reducible refine ((callsIn_wide (n := 0)).2 CN.out).mono ?_)); rintro e w3 ⟨q1, d1, q2, d2, rfl, hN⟩; have HN := Lib.hid hN; clear hN; have hgA : wr.grownBy (w3.alloc (.cells #[.slice q1 k.length d1, .slice q2 v.length d2] 61)) (some w1.heap.size) := grown_trans HN.out.grown (World.grownBy_alloc _ _ _); have hbA := (Below.refl w3.heap.size w3).alloc (Nat.le_refl _) (.cells #[.slice q1 k.length d1, .slice q2 v.length d2] 61); obtain ⟨fn, tmps, assign, body, hy, hR⟩ := HY.out w1.heap.size _ ((k, v), j) _ _ _ hgs HPOST.out (HJ.out _ _ _ _ hgs HJj.out hgA) ⟨q1, d1, q2, d2, rfl, HN.out.key.below hbA, HN.out.val.below hbA⟩; have HGA := Lib.hid hgA; have HBA := Lib.hid hbA; clear hgA hbA)
      refine ⟨rfl, hR.mono ?_⟩
      have hgA2 := HGA.out.size
      have hw3 := HN.out.grown.size
      have hgw3 : w1.heap.size < w3.heap.size := by omega
      rintro e w4 (⟨rfl, hJ4, hk4⟩ | ⟨rfl, hJx4⟩)
      · have hrow4 : w4.heap[w1.heap.size]? = some (.cells #[.pointer p, .int .i64 ((j + 1 : Nat) : Int)] 372) :=
          ((hk4.own (by omega)).trans (haOld w3 _ hgw3)).trans HN.out.row
        have hb4 : Below n₀ W w4 := by
          refine HBJ.out.trans (Below.trans ?_ hk4.below)
          exact (Below.refl n₀ wr).grown HGA.out (by omega) (fun q e => by cases e; omega)
        have HR4 := Lib.hid hrow4
        have HB4 := Lib.hid hb4
        have HJ4 := Lib.hid hJ4
        clear hrow4 hb4 hJ4 hk4 hR hy
        gi_wp2
        go_roundw
        case rel => exact ⟨j + 1, by omega, .inl (by omega), HR4.out, by rw [seq_next hfj hkv]; exact HJ4.out, HB4.out⟩
        case measure =>
          have e2 : w4.cell? ⟨w1.heap.size, 1, none⟩ = some (.int .i64 ((j + 1 : Nat) : Int)) := cell_of_row w4 _ 1 _ _ (0, 0) HR4.out
          simp only [placeOf, Addr.add_lit, Nat.zero_add, e1, e2, Int.toNat_natCast]
          omega
      · have HJ4 := Lib.hid hJx4
        clear hJx4 hR hy
        gi_wp2
        refine bodyPost_ret (results_none rfl _ _ _) rfl ?_
        refine ⟨⟨_, rfl⟩, w1.heap.size, hgs, .inr ⟨_, ?_, HJ4.out⟩⟩
        exact ⟨post, by unfold seqM; rw [HPOST.out]; simp⟩
    · have HJj := Lib.hid hJj
      have hq : seqM t f tk closed = (t.list.zipIdx.take j).drop (rankM t f) := by
        unfold seqM
        rcases hje with h | h
        · rw [show endM t tk closed = j from by omega]
        · subst h
          rw [seq_none]
          exact List.drop_eq_nil_of_le (by rw [List.length_take]; omega)
      clear hJj hbj hrow
      gi_wp2_with first
        | (refine ⟨trivial, rfl, ?_⟩; ((with_reducible refine ((callsIn_wide (n := 0)).2 CP.out).mono ?_)); rintro e w2 ⟨rfl, rfl⟩)
      go_end0
      exact ⟨⟨_, rfl⟩, w1.heap.size, hgs, .inl (by rw [hq]; exact HJj.out)⟩
end Go.Proofs.YtmbiiemlepfoaaaGreatDoor
namespace Go.Proofs.YtmbiiemlepfoaaaGreatDoor
open Go.RowKit
set_option linter.unusedVariables false
theorem run_shl {P : Program} (k yk : IntKind) (x y : Int) (w : World) (h : 0 ≤ y) : (Op.shift .shl k x yk y).run P w = .ok (.int k (k.wrap (x * 2 ^ (min y.toNat k.bits)))) w := by
  simp [Op.shift, Int.not_lt.2 h]
theorem run_shr {P : Program} (k yk : IntKind) (x y : Int) (w : World) (h : 0 ≤ y) : (Op.shift .shr k x yk y).run P w = .ok (.int k (x.fdiv (2 ^ (min y.toNat k.bits)))) w := by
  simp [Op.shift, Int.not_lt.2 h]
theorem and63 : ∀ n : Fin 64, bits .and .u64 (n.val : Int) 63 = (n.val : Int) := by decide
def rotM (x : Int) (k : Nat) : Int := bits .or .u64 (IntKind.u64.wrap (x * 2 ^ k)) (x / 2 ^ (64 - k))
set_option maxHeartbeats 1000000 in
set_option maxRecDepth 100000 in
theorem rotAny (w : World) (x : Int) (k : Nat) (hk : k < 64) : Calls Tryz.prog 335 #[.int .u64 x, .int .i64 (k : Int)] w fun e w' => e = .returned (.int .u64 (rotM x k)) ∧ w = w' := by
  have h1 : bits .and .u64 (k : Int) 63 = (k : Int) := and63 ⟨k, hk⟩
  have h2 : IntKind.u64.wrap (64 - (k : Int)) = 64 - (k : Int) := IntWalk.u64_in _ (by omega)
  have h3 := fun w => run_shl (P := Tryz.prog) .u64 .u64 x (k : Int) w (by omega)
  have h4 := fun w => run_shr (P := Tryz.prog) .u64 .u64 x (64 - (k : Int)) w (by omega)
  go_enter Tryz.func335, Tryz.ntmps335
  go_wp2
  go_ret
  exact ⟨rfl, rfl⟩
theorem turnAny (w : World) (x : Int) (k : Nat) (hk : k < 64) : Calls Tryz.prog 314 #[.int .u64 x, .int .i64 (k : Int)] w fun e w' => e = .returned (.int .u64 (rotM x k)) ∧ w = w' := by
  have CR := Lib.hid (rotAny w x k hk)
  have h1 : ((k : Int)).tmod 64 = (k : Int) := by rw [Int.tmod_eq_of_lt (by omega) (by omega)]
  go_enter Tryz.func314, Tryz.ntmps314
  go_wp2_with (go_at_call 335; ((with_reducible refine CR.out.mono ?_)); rintro e w1 ⟨rfl, rfl⟩)
  go_ret
  exact ⟨rfl, rfl⟩
def mixM (a b : Int) (k : Nat) : Int × Int := (IntKind.u64.wrap (a + b), bits .xor .u64 (rotM b k) (IntKind.u64.wrap (a + b)))
theorem mixAny (w : World) (a b : Int) (k : Nat) (hk : k < 64) : Calls Tryz.prog 313 #[.int .u64 a, .int .u64 b, .int .i64 (k : Int)] w fun e w' => e = .returned (.tuple #[.int .u64 (mixM a b k).1, .int .u64 (mixM a b k).2]) ∧ w = w' := by
  have CR := Lib.hid (turnAny w b k hk)
  go_enter Tryz.func313, Tryz.ntmps313
  go_wp2_with (go_at_call 314; ((with_reducible refine CR.out.mono ?_)); rintro e w1 ⟨rfl, rfl⟩)
  go_ret2
  exact ⟨rfl, rfl⟩
structure Four where
  a : Int
  b : Int
  c : Int
  d : Int
def Four.v (x : Four) : Value := .agg #[.int .u64 x.a, .int .u64 x.b, .int .u64 x.c, .int .u64 x.d]
def roundM (x : Four) : Four :=
  let p := mixM x.a x.b 13
  let r := mixM x.c x.d 16
  let s := mixM (rotM p.1 32) r.2 21
  let q := mixM r.1 p.2 17
  ⟨s.1, q.2, rotM q.1 32, s.2⟩
set_option maxHeartbeats 2000000 in
set_option maxRecDepth 100000 in
theorem sipRound (w : World) (x : Four) : Calls Tryz.prog 280 #[x.v] w fun e w' => e = .returned (roundM x).v ∧ Below w.heap.size w w' := by
  obtain ⟨a, b, c, d⟩ := x
  unfold Four.v roundM
  simp only
  have C13 := Lib.hid (show ∀ w a b, Calls Tryz.prog 313 #[.int .u64 a, .int .u64 b, .int .i64 13] w _ from fun w a b => mixAny w a b 13 (by decide))
  have C16 := Lib.hid (show ∀ w a b, Calls Tryz.prog 313 #[.int .u64 a, .int .u64 b, .int .i64 16] w _ from fun w a b => mixAny w a b 16 (by decide))
  have C21 := Lib.hid (show ∀ w a b, Calls Tryz.prog 313 #[.int .u64 a, .int .u64 b, .int .i64 21] w _ from fun w a b => mixAny w a b 21 (by decide))
  have C17 := Lib.hid (show ∀ w a b, Calls Tryz.prog 313 #[.int .u64 a, .int .u64 b, .int .i64 17] w _ from fun w a b => mixAny w a b 17 (by decide))
  have C32 := Lib.hid (show ∀ w a, Calls Tryz.prog 314 #[.int .u64 a, .int .i64 32] w _ from fun w a => turnAny w a 32 (by decide))
  go_enter Tryz.func280, Tryz.ntmps280
  go_wp2_with first
    | (go_at_call 314; ((with_reducible refine (C32.out _ _).mono ?_)); rintro e w1 ⟨rfl, rfl⟩)
    | (go_at_call 313; first | (((with_reducible refine (C13.out _ _ _).mono ?_)); rintro e w1 ⟨rfl, rfl⟩) | (((with_reducible refine (C16.out _ _ _).mono ?_)); rintro e w1 ⟨rfl, rfl⟩) | (((with_reducible refine (C21.out _ _ _).mono ?_)); rintro e w1 ⟨rfl, rfl⟩) | (((with_reducible refine (C17.out _ _ _).mono ?_)); rintro e w1 ⟨rfl, rfl⟩))
  have hb := ((Below.refl _ w).alloc (Nat.le_refl _) (.cells #[.int .u64 a, .int .u64 b, .int .u64 c, .int .u64 d] 363))
  refine bodyPost_ret ?_ rfl ⟨rfl, hb.alloc (by simp) _⟩
  rw [results_cell1 rfl]
  simp [go_sem, asAddr, Result.andThen]
abbrev meterRow (v c : Nat) : Obj := .cells #[.int .i64 (v : Int), .int .i64 (c : Int)] 47
theorem meterVisit0 (w : World) : Calls Tryz.prog 46 #[.pointer none] w fun e w' => e = .returned (.tuple #[]) ∧ w = w' := by
  go_enter Tryz.func46, Tryz.ntmps46
  go_wp2
  go_end0
  exact ⟨rfl, rfl⟩
theorem meterCompare0 (w : World) {p q : Option Addr} {c d : Nat} {a b : List UInt8} (ha : IsB w p c a) (hb : IsB w q d b) :
    Calls Tryz.prog 47 #[.pointer none, .slice p a.length c, .slice q b.length d] w fun e w' => e = .returned (.int .i64 (Lib.compareBytes a b)) ∧ w = w' := by
  have CC := Lib.hid (keysCompare w ha hb)
  clear ha hb
  go_enter Tryz.func47, Tryz.ntmps47
  go_wp2_with (go_at_call 106; ((with_reducible refine CC.out.mono ?_)); rintro e w1 ⟨rfl, rfl⟩)
  go_ret
  exact ⟨rfl, rfl⟩
theorem meterVisit (w : World) {m v c : Nat} (h : w.heap[m]? = some (meterRow v c)) (hv : v < 1000000000000) :
    Calls Tryz.prog 46 #[.pointer (some ⟨m, 0, none⟩)] w fun e w' => e = .returned (.tuple #[]) ∧ w'.heap[m]? = some (meterRow (v + 1) c) ∧ w.grownBy w' (some m) := by
  have c0 : w.cell? ⟨m, 0, none⟩ = some (.int .i64 (v : Int)) := cell_of_row w m 0 _ _ (0, 0) h
  have f0 : w.frozen? ⟨m, 0, none⟩ = false := frozen_of_row w m 0 _ _ h
  have w1 : IntKind.i64.wrap ((v : Int) + 1) = ((v + 1 : Nat) : Int) := by rw [IntWalk.i64_in _ (by omega)]; omega
  have H := Lib.hid h
  clear h
  go_enter Tryz.func46, Tryz.ntmps46
  go_wp2
  go_end0
  refine ⟨rfl, ?_, rfl, rfl, rfl, by simp [World.setCell], fun k _ hk => Below.heap_setCell w _ _ k (fun e => hk (by rw [e]))⟩
  simp [World.setCell, Array.getElem?_modify, H.out]
theorem meterCompare (w : World) {m v n : Nat} (h : w.heap[m]? = some (meterRow v n)) (hn : n < 1000000000000) {p q : Option Addr} {c d : Nat} {a b : List UInt8} (ha : IsD w (fun k => k ≠ m) p c a) (hb : IsD w (fun k => k ≠ m) q d b) :
    Calls Tryz.prog 47 #[.pointer (some ⟨m, 0, none⟩), .slice p a.length c, .slice q b.length d] w fun e w' => e = .returned (.int .i64 (Lib.compareBytes a b)) ∧ w'.heap[m]? = some (meterRow v (n + 1)) ∧ w.grownBy w' (some m) := by
  have c0 : w.cell? ⟨m, 1, none⟩ = some (.int .i64 (n : Int)) := cell_of_row w m 1 _ _ (0, 0) h
  have f0 : w.frozen? ⟨m, 1, none⟩ = false := frozen_of_row w m 1 _ _ h
  have w1 : IntKind.i64.wrap ((n : Int) + 1) = ((n + 1 : Nat) : Int) := by rw [IntWalk.i64_in _ (by omega)]; omega
  have hk : ∀ x : Value, ∀ k, k < w.heap.size → k ≠ m → (w.setCell ⟨m, 1, none⟩ x).heap[k]? = w.heap[k]? := fun x k _ hk => Below.heap_setCell w _ _ k (fun e => hk e)
  have CC := Lib.hid (fun x : Value => keysCompare (w.setCell ⟨m, 1, none⟩ x) (ha.keep (by simp [World.setCell]) (hk x)).b (hb.keep (by simp [World.setCell]) (hk x)).b)
  have H := Lib.hid h
  clear h ha hb hk
  go_enter Tryz.func47, Tryz.ntmps47
  go_wp2_with (go_at_call 106; ((with_reducible refine (CC.out _).mono ?_)); rintro e w1 ⟨rfl, rfl⟩)
  go_ret
  refine ⟨rfl, ?_, rfl, rfl, rfl, by simp [World.setCell], fun k _ hk => Below.heap_setCell w _ _ k (fun e => hk (by rw [e]))⟩
  simp [World.setCell, Array.getElem?_modify, H.out]
end Go.Proofs.YtmbiiemlepfoaaaGreatDoor
namespace Go.Proofs.YtmbiiemlepfoaaaGreatDoor
set_option linter.unusedVariables false
def evenB (l r : Nat) : Bool := decide (l + 1 ≤ 3 * (r + 1)) && decide (r + 1 ≤ 3 * (l + 1))
theorem evenB_iff {l r : Nat} : evenB l r = true ↔ l + 1 ≤ 3 * (r + 1) ∧ r + 1 ≤ 3 * (l + 1) := by simp [evenB]
theorem evenB_not {l r : Nat} : evenB l r = false ↔ ¬ (l + 1 ≤ 3 * (r + 1) ∧ r + 1 ≤ 3 * (l + 1)) := by rw [← evenB_iff]; simp
def singleB (l i o : Nat) : Bool := evenB l i && evenB (l + i + 1) o
def doubleB (l a b o : Nat) : Bool := evenB l a && evenB b o && evenB (l + 1 + a) (b + 1 + o)
def T.Bal : T → Prop
  | .nil => True
  | .node l _ _ r => evenB l.size r.size = true ∧ l.Bal ∧ r.Bal
def leftT (l : T) (k v : List UInt8) : T → Option T
  | .nil => none
  | .node i k2 v2 o =>
    if singleB l.size i.size o.size then some (.node (.node l k v i) k2 v2 o)
    else match i with
      | .nil => none
      | .node a k3 v3 b => if doubleB l.size a.size b.size o.size then some (.node (.node l k v a) k3 v3 (.node b k2 v2 o)) else none
def rightT (r : T) (k v : List UInt8) : T → Option T
  | .nil => none
  | .node o k2 v2 i =>
    if singleB r.size i.size o.size then some (.node o k2 v2 (.node i k v r))
    else match i with
      | .nil => none
      | .node a k3 v3 b => if doubleB r.size b.size a.size o.size then some (.node (.node o k2 v2 a) k3 v3 (.node b k v r)) else none
def evenT (l : T) (k v : List UInt8) (r : T) : Option T :=
  if evenB l.size r.size then some (.node l k v r)
  else if l.size < r.size then leftT l k v r else rightT r k v l
def Near (a b : Nat) : Prop := a + 1 ≤ 3 * (b + 1) + 3 ∧ b + 1 ≤ 3 * (a + 1) + 3
structure Laid (x : Option T) (l : T) (k v : List UInt8) (r t : T) : Prop where
  eq : x = some t
  bal : t.Bal
  size : t.size = l.size + 1 + r.size
  list : t.list = l.list ++ (k, v) :: r.list
theorem turn_num {x i o : Nat} (h1 : ¬ (x + 1 ≤ 3 * (i + 1 + o + 1) ∧ i + 1 + o + 1 ≤ 3 * (x + 1))) (hlt : x < i + 1 + o) (hn : i + 1 + o + 1 ≤ 3 * (x + 1) + 3) (he : i + 1 ≤ 3 * (o + 1) ∧ o + 1 ≤ 3 * (i + 1)) (hs : singleB x i o = false) :
    0 < i ∧ ∀ a b : Nat, i = a + 1 + b → (a + 1 ≤ 3 * (b + 1) ∧ b + 1 ≤ 3 * (a + 1)) → doubleB x a b o = true := by
  have hs' : ¬ ((x + 1 ≤ 3 * (i + 1) ∧ i + 1 ≤ 3 * (x + 1)) ∧ (x + i + 1 + 1 ≤ 3 * (o + 1) ∧ o + 1 ≤ 3 * (x + i + 1 + 1))) := by
    intro h
    have : singleB x i o = true := by simp only [singleB, evenB, Bool.and_eq_true, decide_eq_true_eq]; exact h
    rw [this] at hs; cases hs
  refine ⟨by omega, fun a b hi hab => ?_⟩
  simp only [doubleB, evenB, Bool.and_eq_true, decide_eq_true_eq]
  refine ⟨⟨⟨?_, ?_⟩, ⟨?_, ?_⟩⟩, ⟨?_, ?_⟩⟩ <;> omega
theorem evenT_laid {l r : T} (k v : List UInt8) (hl : l.Bal) (hr : r.Bal) (hn : Near l.size r.size) : ∃ t, Laid (evenT l k v r) l k v r t := by
  unfold evenT
  by_cases h1 : evenB l.size r.size = true
  · rw [if_pos h1]
    exact ⟨_, rfl, ⟨h1, hl, hr⟩, rfl, rfl⟩
  · rw [if_neg h1]
    have h1' := h1
    rw [evenB_iff] at h1'
    by_cases h2 : l.size < r.size
    · rw [if_pos h2]
      cases r with
      | nil => simp [T.size] at h2
      | node i k2 v2 o =>
        obtain ⟨he, hi, ho⟩ := hr
        simp only [T.size] at h1' h2 hn
        unfold leftT
        dsimp only
        by_cases hs : singleB l.size i.size o.size = true
        · rw [if_pos hs]
          have hs' := hs
          simp only [singleB, Bool.and_eq_true] at hs'
          exact ⟨_, rfl, ⟨by have := hs'.2; simp only [T.size]; rwa [show l.size + 1 + i.size = l.size + i.size + 1 from by omega], ⟨hs'.1, hl, hi⟩, ho⟩, by simp only [T.size]; omega, by simp [T.list]⟩
        · rw [if_neg hs]
          have ht := turn_num h1' h2 hn.2 (evenB_iff.1 he) (by simpa using hs)
          cases i with
          | nil => exact absurd ht.1 (by simp [T.size])
          | node a k3 v3 b =>
            obtain ⟨hab, ha, hb⟩ := hi
            have hd := ht.2 a.size b.size rfl (evenB_iff.1 hab)
            dsimp only
            rw [if_pos hd]
            simp only [doubleB, Bool.and_eq_true] at hd
            exact ⟨_, rfl, ⟨hd.2, ⟨hd.1.1, hl, ha⟩, hd.1.2, hb, ho⟩, by simp only [T.size]; omega, by simp [T.list]⟩
    · rw [if_neg h2]
      cases l with
      | nil =>
        simp only [T.size] at h1' h2 hn
        have := hn.2
        omega
      | node o k2 v2 i =>
        obtain ⟨he, ho, hi⟩ := hl
        simp only [T.size] at h1' h2 hn
        unfold rightT
        dsimp only
        have he' := evenB_iff.1 he
        have hn1 := hn.1
        have hn2 := hn.2
        by_cases hs : singleB r.size i.size o.size = true
        · rw [if_pos hs]
          have hs' := hs
          simp only [singleB, Bool.and_eq_true] at hs'
          have e1 := evenB_iff.1 hs'.1
          have e2 := evenB_iff.1 hs'.2
          exact ⟨_, rfl, ⟨evenB_iff.2 (by simp only [T.size]; omega), ho, evenB_iff.2 (by omega), hi, hr⟩, by simp only [T.size]; omega, by simp [T.list]⟩
        · rw [if_neg hs]
          have ht := turn_num (x := r.size) (i := i.size) (o := o.size) (by omega) (by omega) (by omega) (by omega) (by simpa using hs)
          cases i with
          | nil => exact absurd ht.1 (by simp [T.size])
          | node a k3 v3 b =>
            obtain ⟨hab, ha, hb⟩ := hi
            have hab' := evenB_iff.1 hab
            have hd := ht.2 b.size a.size (by simp only [T.size]; omega) (by omega)
            dsimp only
            rw [if_pos hd]
            simp only [doubleB, Bool.and_eq_true] at hd
            have e1 := evenB_iff.1 hd.1.1
            have e2 := evenB_iff.1 hd.1.2
            have e3 := evenB_iff.1 hd.2
            exact ⟨_, rfl, ⟨evenB_iff.2 (by simp only [T.size]; omega), ⟨evenB_iff.2 (by omega), ho, ha⟩, evenB_iff.2 (by omega), hb, hr⟩, by simp only [T.size]; omega, by simp [T.list]⟩
def putT (k v : List UInt8) : T → T
  | .nil => .node .nil k v .nil
  | .node l k' v' r =>
    if Lib.compareBytes k k' = 0 then .node l k v r
    else if Lib.compareBytes k k' = 1 then (evenT l k' v' (putT k v r)).getD .nil
    else (evenT (putT k v l) k' v' r).getD .nil
theorem putT_bal (k v : List UInt8) : ∀ {t : T}, t.Bal → (putT k v t).Bal ∧ (t.size = (putT k v t).size ∨ t.size + 1 = (putT k v t).size)
  | .nil, _ => ⟨⟨rfl, trivial, trivial⟩, .inr rfl⟩
  | .node l k' v' r, ⟨he, hl, hr⟩ => by
    have he' := evenB_iff.1 he
    unfold putT
    split
    · exact ⟨⟨he, hl, hr⟩, .inl rfl⟩
    · split
      · obtain ⟨h1, h2⟩ := putT_bal k v hr
        obtain ⟨t, e, hb, hs, _⟩ := evenT_laid k' v' hl h1 (by unfold Near; omega)
        rw [e]
        exact ⟨hb, by simp only [Option.getD_some, T.size]; omega⟩
      · obtain ⟨h1, h2⟩ := putT_bal k v hl
        obtain ⟨t, e, hb, hs, _⟩ := evenT_laid k' v' h1 hr (by unfold Near; omega)
        rw [e]
        exact ⟨hb, by simp only [Option.getD_some, T.size]; omega⟩
theorem putT_right {l r : T} {k v k' v' : List UInt8} (h : (T.node l k' v' r).Bal) : ∃ t, Laid (evenT l k' v' (putT k v r)) l k' v' (putT k v r) t := by
  obtain ⟨he, hl, hr⟩ := h
  have he' := evenB_iff.1 he
  obtain ⟨h1, h2⟩ := putT_bal k v hr
  exact evenT_laid k' v' hl h1 (by unfold Near; omega)
theorem putT_left {l r : T} {k v k' v' : List UInt8} (h : (T.node l k' v' r).Bal) : ∃ t, Laid (evenT (putT k v l) k' v' r) (putT k v l) k' v' r t := by
  obtain ⟨he, hl, hr⟩ := h
  have he' := evenB_iff.1 he
  obtain ⟨h1, h2⟩ := putT_bal k v hl
  exact evenT_laid k' v' h1 hr (by unfold Near; omega)
def fromT (l : List (List UInt8 × List UInt8)) : T :=
  match h : l[l.length / 2]? with
  | none => .nil
  | some (k, v) =>
    have : l.length / 2 < l.length := (List.getElem?_eq_some_iff.1 h).1
    .node (fromT (l.take (l.length / 2))) k v (fromT (l.drop (l.length / 2 + 1)))
  termination_by l.length
  decreasing_by
  all_goals simp
  all_goals omega
theorem fromT_nil : fromT [] = .nil := by rw [fromT]; rfl
theorem fromT_node {l : List (List UInt8 × List UInt8)} {k v : List UInt8} (h : l[l.length / 2]? = some (k, v)) :
    fromT l = .node (fromT (l.take (l.length / 2))) k v (fromT (l.drop (l.length / 2 + 1))) := by
  rw [fromT]
  split
  · rename_i h'
    rw [h] at h'
    cases h'
  · rename_i k' v' h'
    rw [h] at h'
    cases h'
    rfl
theorem fromT_list : ∀ (n : Nat) (l : List (List UInt8 × List UInt8)), l.length ≤ n → (fromT l).list = l
  | 0, l, h => by
    obtain rfl : l = [] := List.eq_nil_of_length_eq_zero (by omega)
    rw [fromT_nil]; rfl
  | n + 1, l, h => by
    by_cases h0 : l.length = 0
    · obtain rfl : l = [] := List.eq_nil_of_length_eq_zero h0
      rw [fromT_nil]; rfl
    · have hlt : l.length / 2 < l.length := by omega
      have e := fromT_node (l := l) (k := l[l.length / 2].1) (v := l[l.length / 2].2) (List.getElem?_eq_getElem hlt)
      rw [e, T.list, fromT_list n _ (by rw [List.length_take]; omega), fromT_list n _ (by rw [List.length_drop]; omega)]
      conv => rhs; rw [← List.take_append_drop (l.length / 2) l, List.drop_eq_getElem_cons hlt]
theorem from_list (l : List (List UInt8 × List UInt8)) : (fromT l).list = l := fromT_list _ l (Nat.le_refl _)
theorem from_size (l : List (List UInt8 × List UInt8)) : (fromT l).size = l.length := by rw [← T.list_length, from_list]
theorem fromT_bal : ∀ (n : Nat) (l : List (List UInt8 × List UInt8)), l.length ≤ n → (fromT l).Bal
  | 0, l, h => by
    obtain rfl : l = [] := List.eq_nil_of_length_eq_zero (by omega)
    rw [fromT_nil]; trivial
  | n + 1, l, h => by
    by_cases h0 : l.length = 0
    · obtain rfl : l = [] := List.eq_nil_of_length_eq_zero h0
      rw [fromT_nil]; trivial
    · have hlt : l.length / 2 < l.length := by omega
      rw [fromT_node (l := l) (k := l[l.length / 2].1) (v := l[l.length / 2].2) (List.getElem?_eq_getElem hlt)]
      refine ⟨evenB_iff.2 ?_, fromT_bal n _ (by rw [List.length_take]; omega), fromT_bal n _ (by rw [List.length_drop]; omega)⟩
      rw [from_size, from_size, List.length_take, List.length_drop]
      omega
theorem from_bal (l : List (List UInt8 × List UInt8)) : (fromT l).Bal := fromT_bal _ l (Nat.le_refl _)
end Go.Proofs.YtmbiiemlepfoaaaGreatDoor
namespace Go.Proofs.YtmbiiemlepfoaaaGreatDoor
open Go.RowKit
set_option linter.unusedVariables false
theorem weighSize (w : World) (n : Nat) (h : n ≤ 1048576) : Calls Tryz.prog 189 #[.int .i64 (n : Int)] w fun e w' => e = .returned (.int .i64 (n : Int)) ∧ w = w' := by
  have g0 : ¬ (n : Int) < 0 := by omega
  have g1 : ¬ (0 : Int) < -(n : Int) := by omega
  have g2 : ¬ (1048576 : Int) < (n : Int) := by omega
  have g3 : min (n : Int) 1048576 = (n : Int) := by omega
  go_enter Tryz.func189, Tryz.ntmps189
  go_wp2
  go_ret
  exact ⟨rfl, rfl⟩
set_option maxHeartbeats 1000000 in
theorem weighEven0 (w : World) (a b : Nat) (ha : a ≤ 3145728) (hb : b ≤ 3145728) : Calls Tryz.prog 188 #[.int .i64 (a : Int), .int .i64 (b : Int)] w fun e w' => e = .returned (.bool (evenB a b)) ∧ w = w' := by
  by_cases h1 : a + 1 ≤ 3 * (b + 1)
  · by_cases h2 : b + 1 ≤ 3 * (a + 1)
    · have e : evenB a b = true := evenB_iff.2 ⟨h1, h2⟩
      have d1 : (a : Int) + 1 ≤ 3 * ((b : Int) + 1) := by omega
      have d2 : (b : Int) + 1 ≤ 3 * ((a : Int) + 1) := by omega
      rw [e]; clear e
      go_enter Tryz.func188, Tryz.ntmps188
      go_wp2
      go_ret
      exact ⟨rfl, rfl⟩
    · have e : evenB a b = false := evenB_not.2 (fun h => h2 h.2)
      have d1 : (a : Int) + 1 ≤ 3 * ((b : Int) + 1) := by omega
      have d2 : ¬ (b : Int) + 1 ≤ 3 * ((a : Int) + 1) := by omega
      rw [e]; clear e
      go_enter Tryz.func188, Tryz.ntmps188
      go_wp2
      go_ret
      exact ⟨rfl, rfl⟩
  · have e : evenB a b = false := evenB_not.2 (fun h => h1 h.1)
    have d1 : ¬ (a : Int) + 1 ≤ 3 * ((b : Int) + 1) := by omega
    rw [e]; clear e
    go_enter Tryz.func188, Tryz.ntmps188
    go_wp2
    go_ret
    exact ⟨rfl, rfl⟩
set_option maxHeartbeats 1000000 in
theorem weighEven (w : World) (a b : Nat) (ha : a ≤ 1048576) (hb : b ≤ 1048576) : Calls Tryz.prog 114 #[.int .i64 (a : Int), .int .i64 (b : Int)] w fun e w' => e = .returned (.bool (evenB a b)) ∧ w = w' := by
  have CA := Lib.hid (weighSize w a ha)
  have CB := Lib.hid (weighSize w b hb)
  have CE := Lib.hid (weighEven0 w a b (by omega) (by omega))
  go_enter Tryz.func114, Tryz.ntmps114
  go_wp2_with first | (go_at_call 189; first | (((with_reducible refine (CA.out).mono ?_)); rintro e w1 ⟨rfl, rfl⟩) | (((with_reducible refine (CB.out).mono ?_)); rintro e w1 ⟨rfl, rfl⟩)) | (go_at_call 188; ((with_reducible refine (CE.out).mono ?_)); rintro e w1 ⟨rfl, rfl⟩)
  go_ret
  exact ⟨rfl, rfl⟩
set_option maxHeartbeats 1000000 in
theorem weighSingle (w : World) (a b c : Nat) (ha : a ≤ 1048576) (hb : b ≤ 1048576) (hc : c ≤ 1048576) : Calls Tryz.prog 190 #[.int .i64 (a : Int), .int .i64 (b : Int), .int .i64 (c : Int)] w fun e w' => e = .returned (.bool (singleB a b c)) ∧ w = w' := by
  have CA := Lib.hid (weighSize w a ha)
  have CB := Lib.hid (weighSize w b hb)
  have CC := Lib.hid (weighSize w c hc)
  have ce := weighEven0 w a b (by omega) (by omega)
  have cf := weighEven0 w (a + b + 1) c (by omega) (by omega)
  have ee : ((a + b + 1 : Nat) : Int) = (a : Int) + (b : Int) + 1 := by omega
  rw [ee] at cf
  unfold singleB
  generalize evenB (a + b + 1) c = y at *
  by_cases h : evenB a b = true
  · rw [h] at ce ⊢
    rw [Bool.true_and]
    have CE := Lib.hid ce
    have CF := Lib.hid cf
    clear ce cf ee h
    go_enter Tryz.func190, Tryz.ntmps190
    go_wp2_with first | (go_at_call 189; first | (((with_reducible refine (CA.out).mono ?_)); rintro e w1 ⟨rfl, rfl⟩) | (((with_reducible refine (CB.out).mono ?_)); rintro e w1 ⟨rfl, rfl⟩) | (((with_reducible refine (CC.out).mono ?_)); rintro e w1 ⟨rfl, rfl⟩)) | (go_at_call 188; first | (((with_reducible refine (CE.out).mono ?_)); rintro e w1 ⟨rfl, rfl⟩) | (((with_reducible refine (CF.out).mono ?_)); rintro e w1 ⟨rfl, rfl⟩))
    go_ret
    exact ⟨rfl, rfl⟩
  · have h' : evenB a b = false := by simpa using h
    rw [h'] at ce ⊢
    rw [Bool.false_and]
    have CE := Lib.hid ce
    clear ce cf ee h h'
    go_enter Tryz.func190, Tryz.ntmps190
    go_wp2_with first | (go_at_call 189; first | (((with_reducible refine (CA.out).mono ?_)); rintro e w1 ⟨rfl, rfl⟩) | (((with_reducible refine (CB.out).mono ?_)); rintro e w1 ⟨rfl, rfl⟩) | (((with_reducible refine (CC.out).mono ?_)); rintro e w1 ⟨rfl, rfl⟩)) | (go_at_call 188; (((with_reducible refine (CE.out).mono ?_)); rintro e w1 ⟨rfl, rfl⟩))
    go_ret
    exact ⟨rfl, rfl⟩
theorem T.size_node (l r : T) (k v : List UInt8) : (T.node l k v r).size = l.size + 1 + r.size := rfl
theorem quiet_left {P : Program} {f : FuncId} {args : Array Value} {w : World} {n : Nat} {v : Value}
    (h : Calls P f args (w.drewN n) fun e w' => e = .returned v ∧ w.drewN n = w') : Calls P f args (w.drewN n) fun e w'' => e = .returned v ∧ ∃ m, w'' = w.drewN m :=
  h.mono fun _ _ ⟨he, hm⟩ => ⟨he, n, hm.symm⟩
theorem below_drewN (B : Nat) (w : World) (n : Nat) : Below B w (w.drewN n) := ⟨rfl, rfl, rfl, Nat.le_refl _, fun _ _ => rfl⟩
theorem below_step {W wc w' : World} (h : Below W.heap.size W wc) (h' : Below wc.heap.size wc w') : Below W.heap.size W w' := h.trans (h'.mono h.size)
theorem evenZ (w : World) (a b : Nat) (ha : a ≤ 1048576) (hb : b ≤ 1048576) (x y : Int) (hx : x = (a : Int)) (hy : y = (b : Int)) : Calls Tryz.prog 114 #[.int .i64 x, .int .i64 y] w fun e w' => e = .returned (.bool (evenB a b)) ∧ w = w' := by
  subst hx; subst hy; exact weighEven w a b ha hb
set_option maxHeartbeats 1000000 in
set_option maxRecDepth 100000 in
theorem treeLeft1 (w : World) (D : Nat → Prop) (hD : ∀ k, w.heap.size ≤ k → D k) {lp rp kp vp : Option Addr} {kc vc : Nat} {l i o : T} {k v k2 v2 : List UInt8} (hl : TreeAt w D lp l) (hr : TreeAt w D rp (.node i k2 v2 o)) (hk : IsD w D kp kc k) (hv : IsD w D vp vc v)
    (hsz : l.size + 1 + (i.size + 1 + o.size) ≤ 1048576) (hs : singleB l.size i.size o.size = true) :
    Calls Tryz.prog 116 #[.pointer lp, pairV kp kc k vp vc v, .pointer rp] w fun e w' => ∃ p, e = .returned (.pointer p) ∧ TreeAt w' D p (.node (.node l k v i) k2 v2 o) ∧ Below w.heap.size w w' := by
  obtain ⟨hb, kp2, kc2, vp2, vc2, ip, op, rfl, hdr, hrow, hk2, hv2, hi, ho⟩ := hr
  obtain ⟨W2, hW2⟩ : ∃ x, x = w.alloc (.cells #[.slice kp k.length kc, .slice vp v.length vc] 61) := ⟨_, rfl⟩
  have hz : W2.heap.size = w.heap.size + 1 := by rw [hW2]; simp
  have hB : Below w.heap.size w W2 := by rw [hW2]; exact (Below.refl _ w).alloc (Nat.le_refl _) _
  have r0 : W2.heap[w.heap.size]? = some (.cells #[.slice kp k.length kc, .slice vp v.length vc] 61) := by rw [hW2]; exact heap_alloc_new _ _
  have hrl := row_ltT hrow
  have r1 := (hB.block hb hrl).trans hrow
  have HC := Lib.hid (show ∀ w', Below W2.heap.size W2 w' → (w'.cell? ⟨w.heap.size, 0, none⟩ = some (.slice kp k.length kc) ∧ w'.cell? ⟨w.heap.size, 1, none⟩ = some (.slice vp v.length vc) ∧ w'.cell? ⟨hb, 0, none⟩ = some (.slice kp2 k2.length kc2) ∧ w'.cell? ⟨hb, 1, none⟩ = some (.slice vp2 v2.length vc2)) from fun w' hb0 => by
    have r0' := (hb0.block w.heap.size (by omega)).trans r0
    have r1' := (hb0.block hb (by omega)).trans r1
    exact ⟨cell_of_row w' _ 0 _ _ (0, 0) r0', cell_of_row w' _ 1 _ _ (0, 0) r0', cell_of_row w' _ 0 _ _ (0, 0) r1', cell_of_row w' _ 1 _ _ (0, 0) r1'⟩)
  have d2 : W2.cell? ⟨hb, 2, none⟩ = some (.pointer ip) := cell_of_row W2 _ 2 _ _ (0, 0) r1
  have d3 : W2.cell? ⟨hb, 3, none⟩ = some (.pointer op) := cell_of_row W2 _ 3 _ _ (0, 0) r1
  have up : ∀ w', Below W2.heap.size W2 w' → Below w.heap.size w w' := fun w' hb0 => hB.trans (hb0.mono (by omega))
  have C1 := Lib.hid (show ∀ w', Below W2.heap.size W2 w' → Calls Tryz.prog 115 #[.pointer lp, pairV kp kc k vp vc v, .pointer ip] w' _ from fun w' hb0 => treeNode w' D (fun j hj => hD j (by have := (up w' hb0).size; omega)) (hl.below (up w' hb0)) (hi.below (up w' hb0)) (hk.below (up w' hb0)) (hv.below (up w' hb0)) (by omega))
  have C2 := Lib.hid (show ∀ w' p, Below W2.heap.size W2 w' → TreeAt w' D p (.node l k v i) → Calls Tryz.prog 115 #[.pointer p, pairV kp2 kc2 k2 vp2 vc2 v2, .pointer op] w' _ from fun w' p hb0 ht => treeNode w' D (fun j hj => hD j (by have := (up w' hb0).size; omega)) ht (ho.below (up w' hb0)) (hk2.below (up w' hb0)) (hv2.below (up w' hb0)) (by rw [T.size_node]; omega))
  have CZ := Lib.hid (show ∀ n, Calls Tryz.prog 64 #[.pointer lp] (W2.drewN n) _ from fun n => treeSize _ (hl.below (up _ (below_drewN _ _ _))))
  have CZi := Lib.hid (show ∀ n, Calls Tryz.prog 64 #[.pointer ip] (W2.drewN n) _ from fun n => treeSize _ (hi.below (up _ (below_drewN _ _ _))))
  have CZo := Lib.hid (show ∀ n, Calls Tryz.prog 64 #[.pointer op] (W2.drewN n) _ from fun n => treeSize _ (ho.below (up _ (below_drewN _ _ _))))
  have cs := fun w => weighSingle w l.size i.size o.size (by omega) (by omega) (by omega)
  rw [hs] at cs
  have CS := Lib.hid cs
  have UP := Lib.hid up
  clear hl hk hv hk2 hv2 hi ho up hrow r0 r1 hB hD cs hz hs
  go_enter Tryz.func116, Tryz.ntmps116
  go_wp2_with fail
  rw [← hW2]
  clear hW2
  go_quiet (fail)
  go_wp2_with first | (go_at_call 64; first | (((with_reducible refine (CZ.out _).mono ?_)); rintro e w1 ⟨rfl, rfl⟩) | (((with_reducible refine (CZi.out _).mono ?_)); rintro e w1 ⟨rfl, rfl⟩) | (((with_reducible refine (CZo.out _).mono ?_)); rintro e w1 ⟨rfl, rfl⟩)) | (go_at_call 190; ((with_reducible refine (CS.out _).mono ?_)); rintro e w1 ⟨rfl, rfl⟩)
  have hB1 := below_drewN W2.heap.size W2 (nq + 1)
  go_region_held3 (fun w' => w'.cell? ⟨w.heap.size, 0, none⟩ = some (.slice kp k.length kc) ∧ w'.cell? ⟨w.heap.size, 1, none⟩ = some (.slice vp v.length vc) ∧ w'.cell? ⟨hb, 0, none⟩ = some (.slice kp2 k2.length kc2) ∧ w'.cell? ⟨hb, 1, none⟩ = some (.slice vp2 v2.length vc2))
    (first | exact HC.out _ (by assumption) | fail)
    (first | (go_at_call 115; first | (((with_reducible refine (C1.out _ hB1).mono ?_)); rintro e w2 ⟨p2, rfl, ht2, hb2⟩; have hB2 := below_step hB1 hb2; have HT2 := Lib.hid ht2; clear ht2 hb2) | (((with_reducible refine (C2.out _ _ hB2 HT2.out).mono ?_)); rintro e w3 ⟨p3, rfl, ht3, hb3⟩; have hB3 := below_step hB2 hb3; have HT3 := Lib.hid ht3; clear ht3 hb3) | fail) | fail)
  go_wp2
  go_ret
  exact ⟨_, rfl, HT3.out, UP.out _ hB3⟩
set_option maxHeartbeats 1000000 in
set_option maxRecDepth 100000 in
theorem treeRight1 (w : World) (D : Nat → Prop) (hD : ∀ k, w.heap.size ≤ k → D k) {lp rp kp vp : Option Addr} {kc vc : Nat} {r i o : T} {k v k2 v2 : List UInt8} (hl : TreeAt w D lp (.node o k2 v2 i)) (hr : TreeAt w D rp r) (hk : IsD w D kp kc k) (hv : IsD w D vp vc v)
    (hsz : r.size + 1 + (i.size + 1 + o.size) ≤ 1048576) (hs : singleB r.size i.size o.size = true) :
    Calls Tryz.prog 117 #[.pointer lp, pairV kp kc k vp vc v, .pointer rp] w fun e w' => ∃ p, e = .returned (.pointer p) ∧ TreeAt w' D p (.node o k2 v2 (.node i k v r)) ∧ Below w.heap.size w w' := by
  obtain ⟨hb, kp2, kc2, vp2, vc2, op, ip, rfl, hdr, hrow, hk2, hv2, ho, hi⟩ := hl
  obtain ⟨W2, hW2⟩ : ∃ x, x = w.alloc (.cells #[.slice kp k.length kc, .slice vp v.length vc] 61) := ⟨_, rfl⟩
  have hz : W2.heap.size = w.heap.size + 1 := by rw [hW2]; simp
  have hB : Below w.heap.size w W2 := by rw [hW2]; exact (Below.refl _ w).alloc (Nat.le_refl _) _
  have r0 : W2.heap[w.heap.size]? = some (.cells #[.slice kp k.length kc, .slice vp v.length vc] 61) := by rw [hW2]; exact heap_alloc_new _ _
  have hrl := row_ltT hrow
  have r1 := (hB.block hb hrl).trans hrow
  have HC := Lib.hid (show ∀ w', Below W2.heap.size W2 w' → (w'.cell? ⟨w.heap.size, 0, none⟩ = some (.slice kp k.length kc) ∧ w'.cell? ⟨w.heap.size, 1, none⟩ = some (.slice vp v.length vc) ∧ w'.cell? ⟨hb, 0, none⟩ = some (.slice kp2 k2.length kc2) ∧ w'.cell? ⟨hb, 1, none⟩ = some (.slice vp2 v2.length vc2)) from fun w' hb0 => by
    have r0' := (hb0.block w.heap.size (by omega)).trans r0
    have r1' := (hb0.block hb (by omega)).trans r1
    exact ⟨cell_of_row w' _ 0 _ _ (0, 0) r0', cell_of_row w' _ 1 _ _ (0, 0) r0', cell_of_row w' _ 0 _ _ (0, 0) r1', cell_of_row w' _ 1 _ _ (0, 0) r1'⟩)
  have d2 : W2.cell? ⟨hb, 2, none⟩ = some (.pointer op) := cell_of_row W2 _ 2 _ _ (0, 0) r1
  have d3 : W2.cell? ⟨hb, 3, none⟩ = some (.pointer ip) := cell_of_row W2 _ 3 _ _ (0, 0) r1
  have up : ∀ w', Below W2.heap.size W2 w' → Below w.heap.size w w' := fun w' hb0 => hB.trans (hb0.mono (by omega))
  have C1 := Lib.hid (show ∀ w', Below W2.heap.size W2 w' → Calls Tryz.prog 115 #[.pointer ip, pairV kp kc k vp vc v, .pointer rp] w' _ from fun w' hb0 => treeNode w' D (fun j hj => hD j (by have := (up w' hb0).size; omega)) (hi.below (up w' hb0)) (hr.below (up w' hb0)) (hk.below (up w' hb0)) (hv.below (up w' hb0)) (by omega))
  have C2 := Lib.hid (show ∀ w' p, Below W2.heap.size W2 w' → TreeAt w' D p (.node i k v r) → Calls Tryz.prog 115 #[.pointer op, pairV kp2 kc2 k2 vp2 vc2 v2, .pointer p] w' _ from fun w' p hb0 ht => treeNode w' D (fun j hj => hD j (by have := (up w' hb0).size; omega)) (ho.below (up w' hb0)) ht (hk2.below (up w' hb0)) (hv2.below (up w' hb0)) (by rw [T.size_node]; omega))
  have CZ := Lib.hid (show ∀ n, Calls Tryz.prog 64 #[.pointer rp] (W2.drewN n) _ from fun n => treeSize _ (hr.below (up _ (below_drewN _ _ _))))
  have CZi := Lib.hid (show ∀ n, Calls Tryz.prog 64 #[.pointer ip] (W2.drewN n) _ from fun n => treeSize _ (hi.below (up _ (below_drewN _ _ _))))
  have CZo := Lib.hid (show ∀ n, Calls Tryz.prog 64 #[.pointer op] (W2.drewN n) _ from fun n => treeSize _ (ho.below (up _ (below_drewN _ _ _))))
  have cs := fun w => weighSingle w r.size i.size o.size (by omega) (by omega) (by omega)
  rw [hs] at cs
  have CS := Lib.hid cs
  have UP := Lib.hid up
  clear hr hk hv hk2 hv2 hi ho up hrow r0 r1 hB hD cs hz hs
  go_enter Tryz.func117, Tryz.ntmps117
  go_wp2_with fail
  rw [← hW2]
  clear hW2
  go_quiet (fail)
  go_wp2_with first | (go_at_call 64; first | (((with_reducible refine (CZ.out _).mono ?_)); rintro e w1 ⟨rfl, rfl⟩) | (((with_reducible refine (CZi.out _).mono ?_)); rintro e w1 ⟨rfl, rfl⟩) | (((with_reducible refine (CZo.out _).mono ?_)); rintro e w1 ⟨rfl, rfl⟩)) | (go_at_call 190; ((with_reducible refine (CS.out _).mono ?_)); rintro e w1 ⟨rfl, rfl⟩)
  have hB1 := below_drewN W2.heap.size W2 (nq + 1)
  go_region_held3 (fun w' => w'.cell? ⟨w.heap.size, 0, none⟩ = some (.slice kp k.length kc) ∧ w'.cell? ⟨w.heap.size, 1, none⟩ = some (.slice vp v.length vc) ∧ w'.cell? ⟨hb, 0, none⟩ = some (.slice kp2 k2.length kc2) ∧ w'.cell? ⟨hb, 1, none⟩ = some (.slice vp2 v2.length vc2))
    (first | exact HC.out _ (by assumption) | fail)
    (first | (go_at_call 115; first | (((with_reducible refine (C1.out _ hB1).mono ?_)); rintro e w2 ⟨p2, rfl, ht2, hb2⟩; have hB2 := below_step hB1 hb2; have HT2 := Lib.hid ht2; clear ht2 hb2) | (((with_reducible refine (C2.out _ _ hB2 HT2.out).mono ?_)); rintro e w3 ⟨p3, rfl, ht3, hb3⟩; have hB3 := below_step hB2 hb3; have HT3 := Lib.hid ht3; clear ht3 hb3) | fail) | fail)
  go_wp2
  go_ret
  exact ⟨_, rfl, HT3.out, UP.out _ hB3⟩
end Go.Proofs.YtmbiiemlepfoaaaGreatDoor
