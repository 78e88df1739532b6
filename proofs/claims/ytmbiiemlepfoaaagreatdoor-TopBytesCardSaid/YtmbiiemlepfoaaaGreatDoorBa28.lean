/- The walk of pair.Map over a list that is a map. A trie of a list of pairs, put one by one; cells set in the midst of a row. The walk of chart.From. -/
import Derived.Test.YtmbiiemlepfoaaaGreatDoorBa14
import Derived.Test.YtmbiiemlepfoaaaGreatDoorBa07
import Derived.Test.YtmbiiemlepfoaaaGreatDoorBa20
import Derived.Test.YtmbiiemlepfoaaaGreatDoorBa03
import Derived.Deep.RegionHeld3
import Derived.Test.YtmbiiemlepfoaaaGreatDoorBa26
import Derived.Test.YtmbiiemlepfoaaaGreatDoorBa09
import Derived.Deep.Upon
import Derived.Test.YtmbiiemlepfoaaaGreatDoorBa27

/-! The walk of pair.Map over a list that is a map. -/
namespace Go.Proofs.YtmbiiemlepfoaaaGreatDoor
open Go.RowKit
set_option linter.unusedVariables false

theorem asc_at : ∀ {L : List PairT} {last : Option (List UInt8)} {i : Nat} {x y : PairT}, AscFrom last L → L[i]? = some x → L[i + 1]? = some y → Lib.compareBytes x.1 y.1 = -1
  | [], _, _, _, _, _, h, _ => by simp at h
  | a :: L, _, 0, x, y, ⟨_, h⟩, hx, hy => by
    simp at hx hy
    subst hx
    cases L with
    | nil => simp at hy
    | cons b L =>
      simp at hy
      subst hy
      exact h.1 _ rfl
  | a :: L, _, i + 1, x, y, ⟨_, h⟩, hx, hy => by
    simp at hx hy
    exact asc_at h hx hy

set_option maxHeartbeats 4000000 in
set_option maxRecDepth 100000 in
theorem pairMap (w : World) {D : Nat → Prop} {p : Option Addr} {c : Nat} {L : List PairT} (h : IsPs w D p c L) (hasc : AscFrom none L) (hln : ∀ x ∈ L, x.1.length ≤ 65536 ∧ x.2.length ≤ 65536) (hn : L.length ≤ 1048576) :
    Calls Tryz.prog 90 #[.slice p L.length c] w fun e w' => e = .returned (.tuple #[.int .i64 (L.length : Int), .int .i64 0]) ∧ Below w.heap.size w w' := by
  have H := Lib.hid h
  have HA := Lib.hid hasc
  have HL := Lib.hid hln
  obtain ⟨N, hN⟩ : ∃ N, L.length = N := ⟨_, rfl⟩
  rw [hN] at hn ⊢
  have HN := Lib.hid hN
  have hcap : N ≤ c := by rw [← hN]; exact h.cap
  clear h hasc hln hN
  go_enter Tryz.func90, Tryz.ntmps90
  go_wp2
  go_loopw [8] (fun v8 wr => ∃ i : Nat, v8 = .int .i64 (i : Int) ∧ i ≤ N ∧ Below w.heap.size w wr) (fun v8 _ => N - (intOf v8).toNat)
  case atStart => exact ⟨0, rfl, by omega, Below.refl _ _⟩
  case round =>
    obtain ⟨i, rfl, hi, hb⟩ := hrel
    by_cases hlt : i < N
    · obtain ⟨⟨k, v⟩, hx⟩ : ∃ x, L[i]? = some x := ⟨_, List.getElem?_eq_getElem (by rw [HN.out]; exact hlt)⟩
      have hkv := HL.out (k, v) (List.mem_of_getElem? hx)
      have hw := H.out.below hb
      obtain ⟨b, o, kp, kc, vp, vc, rfl, hbl, _, c0, c1, hk, hv⟩ := hw.at_ hx
      have g1 : (i : Int) < (N : Int) := by omega
      have gm : decide ((i : Int) ≥ 1048576) = false := by rw [decide_eq_false_iff_not]; omega
      have CP := Lib.hid (fun w' => (show Calls Tryz.prog 164 #[.agg #[.slice kp k.length kc, .slice vp v.length vc]] w' (fun e w'' => e = .returned (.int .i64 0) ∧ Below w'.heap.size w' w'') from (pairCheck w' kp vp kc vc k v).mono fun e w'' ⟨he, hb⟩ => ⟨by rw [he]; unfold checkE; rw [if_neg (by dsimp only at hkv; omega)]; rfl, hb⟩))
      have HK := Lib.hid hk
      have HV := Lib.hid hv
      have HB := Lib.hid hb
      have hz := hb.size
      have hnb : N ≤ 2000000 := by omega
      clear hw hk hv hb hkv hn
      by_cases h0 : i = 0
      · have gi : ((i : Int) == 0) = true := by rw [h0]; rfl
        clear h0
        go_wp2_with first
          | (go_at_call 164; ((with_reducible refine (CP.out _).mono ?_)); rintro e w2 ⟨rfl, hb2⟩)
        have hbb := (HB.out.alloc hz (.cells #[.slice kp k.length kc, .slice vp v.length vc] 61)).trans (hb2.mono (by simp; omega))
        go_roundw
        case rel => exact ⟨i + 1, rfl, by omega, hbb⟩
        case measure => simp [intOf]; omega
      · have gi : ((i : Int) == 0) = false := by rw [beq_eq_false_iff_ne]; omega
        obtain ⟨j, hj⟩ : ∃ j, i = j + 1 := ⟨i - 1, by omega⟩
        have wj : IntKind.i64.wrap ((i : Int) - 1) = (j : Int) := by rw [IntWalk.i64_in _ (by omega)]; omega
        have gj0 : (0 : Int) ≤ (j : Int) := by omega
        have gj1 : (j : Int) < (N : Int) := by omega
        obtain ⟨⟨k', v'⟩, hx'⟩ : ∃ x, L[j]? = some x := ⟨_, List.getElem?_eq_getElem (by rw [HN.out]; omega)⟩
        have hcmp : Lib.compareBytes k' k = -1 := asc_at HA.out hx' (by rw [← hj]; exact hx)
        obtain ⟨b', o', kp', kc', vp', vc', hpp, _, _, e0, _, hk', _⟩ := (H.out.below HB.out).at_ hx'
        injection hpp with hpp
        injection hpp with e1 e2 _
        subst e1; subst e2
        have HE0 := Lib.hid e0
        have HK' := Lib.hid hk'
        clear h0 hx hx' e0 hk' hj
        go_wp2_with first
          | (go_at_call 164; ((with_reducible refine (CP.out _).mono ?_)); rintro e w2 ⟨rfl, hb2⟩; have HB2 := Lib.hid hb2; clear hb2)
        have hz2 := HB2.out.size
        have r5 : w2.heap[wr.heap.size]? = some (.cells #[.slice kp k.length kc, .slice vp v.length vc] 61) := (HB2.out.block _ (by simp)).trans (heap_alloc_new wr _)
        have hbr : Below wr.heap.size wr w2 := ((Below.refl _ wr).alloc (Nat.le_refl _) (.cells #[.slice kp k.length kc, .slice vp v.length vc] 61)).trans (HB2.out.mono (by simp))
        have z0 : w2.cell? ⟨b, o + j * 2, none⟩ = some (.slice kp' k'.length kc') := (hbr.cell (p := ⟨b, o + j * 2, none⟩) hbl).trans HE0.out
        have z1 : w2.cell? ⟨wr.heap.size, 0, none⟩ = some (.slice kp k.length kc) := cell_of_row w2 _ 0 _ _ (0, 0) r5
        have CC := Lib.hid (keysCompare w2.drew ((HK'.out.b.below hbr).drew) ((HK.out.b.below hbr).drew))
        rw [hcmp] at CC
        have HBR := Lib.hid (HB.out.trans (hbr.mono hz))
        clear hbr r5 HE0
        go_region_held3 (fun w' => w'.cell? ⟨b, o + j * 2, none⟩ = some (.slice kp' k'.length kc') ∧ w'.cell? ⟨wr.heap.size, 0, none⟩ = some (.slice kp k.length kc)) (first | exact ⟨z0, z1⟩ | fail) (first | (go_at_call 106; ((with_reducible refine (CC.out).mono ?_)); rintro e w5 ⟨rfl, rfl⟩) | fail)
        go_wp2
        go_roundw
        case rel => exact ⟨i + 1, rfl, by omega, HBR.out.drew⟩
        case measure => simp [intOf]; omega
    · have hiN : i = N := by omega
      subst hiN
      have g1 : ¬ (i : Int) < (i : Int) := by omega
      have HB := Lib.hid hb
      clear hb
      go_wp2
      go_ret2
      exact ⟨rfl, HB.out⟩
end Go.Proofs.YtmbiiemlepfoaaaGreatDoor

/-! A trie of a list of pairs, put one by one; cells set in the midst of a row. -/
namespace Go.Proofs.YtmbiiemlepfoaaaGreatDoor
open Go.RowKit
set_option linter.unusedVariables false

def putsM (s : List UInt8) (n : Option N) (L : List PairT) : Option N := L.foldl (fun n x => some (intoO (hashM s x.1) x.1 x.2 n 0).1) n
def cntO : Option N → Nat
  | none => 0
  | some n => n.count
def okO (n : Option N) : Prop := ∀ m, n = some m → m.fit 0
theorem okO_fit {n : Option N} (h : okO n) (hc : cntO n < 1000000) : fitO n := by
  cases n with
  | none => trivial
  | some m => exact ⟨h m rfl, hc⟩
theorem fitO_ok {n : Option N} (h : fitO n) : okO n ∧ cntO n < 1000000 := by
  cases n with
  | none => exact ⟨fun m e => (by cases e), (by decide)⟩
  | some m => exact ⟨fun m' e => (by cases e; exact h.1), h.2⟩
theorem okO_step {h : Nat} {k v : List UInt8} (hh : h < 18446744073709551616) (hk : k.length ≤ 1000000) (hv : v.length ≤ 1000000) {n : Option N} (ho : okO n) : okO (some (intoO h k v n 0).1) ∧ cntO (some (intoO h k v n 0).1) ≤ cntO n + 1 := by
  cases n with
  | none =>
    refine ⟨fun m e => ?_, ?_⟩
    · cases e
      show (N.leaf h k v).fit 0
      unfold N.fit
      exact ⟨hh, hk, hv⟩
    · show (N.leaf h k v).count ≤ 0 + 1
      unfold N.count
      omega
  | some m =>
    have hf := ho m rfl
    refine ⟨fun m' e => ?_, into_count m 0 hf⟩
    cases e
    exact (into_fit hh hk hv m 0 (by omega) hf (fun g hg j hj => by omega)).fit
theorem putsM_snoc (s : List UInt8) (n : Option N) (L : List PairT) (x : PairT) : putsM s n (L ++ [x]) = some (intoO (hashM s x.1) x.1 x.2 (putsM s n L) 0).1 := by unfold putsM; rw [List.foldl_append]; rfl

def putsA (cs : Array Value) : Nat → List Value → Array Value
  | _, [] => cs
  | o, v :: r => putsA (cs.setIfInBounds o v) (o + 1) r
theorem setCells_row {b : Nat} {t : TypeId} {fr : Nat × Nat} : ∀ (vs : List Value) (o : Nat) (w : World) (cs : Array Value), w.heap[b]? = some (.cells cs t fr) → (w.setCells b o vs).heap[b]? = some (.cells (putsA cs o vs) t fr)
  | [], o, w, cs, h => h
  | v :: r, o, w, cs, h => by
    unfold World.setCells putsA
    refine setCells_row r (o + 1) _ _ ?_
    simp [World.setCell, Array.getElem?_modify, h]
theorem putsA_mid : ∀ (new old pre post : List Value), old.length = new.length → putsA (pre ++ (old ++ post)).toArray pre.length new = (pre ++ (new ++ post)).toArray
  | [], old, pre, post, h => by
    obtain rfl := List.eq_nil_of_length_eq_zero h
    rfl
  | v :: r, [], pre, post, h => by simp at h
  | v :: r, u :: old, pre, post, h => by
    unfold putsA
    have e : (pre ++ (u :: old ++ post)).toArray.setIfInBounds pre.length v = ((pre ++ [v]) ++ (old ++ post)).toArray := by
      rw [List.setIfInBounds_toArray, List.set_append_right _ _ (Nat.le_refl _), Nat.sub_self]
      simp
    rw [e]
    have := putsA_mid r old (pre ++ [v]) post (by simpa using h)
    rw [List.length_append, List.length_singleton] at this
    rw [this]
    simp
theorem setCells_size (b : Nat) : ∀ (vs : List Value) (o : Nat) (w : World), (w.setCells b o vs).heap.size = w.heap.size
  | [], _, _ => rfl
  | v :: r, o, w => by rw [World.setCells, setCells_size b r]; simp [World.setCell]
theorem setCells_tape (b : Nat) : ∀ (vs : List Value) (o : Nat) (w : World), (w.setCells b o vs).tape = w.tape
  | [], _, _ => rfl
  | v :: r, o, w => by rw [World.setCells, setCells_tape b r]; rfl
theorem setCells_other (b : Nat) {k : Nat} (hk : k ≠ b) : ∀ (vs : List Value) (o : Nat) (w : World), (w.setCells b o vs).heap[k]? = w.heap[k]?
  | [], _, _ => rfl
  | v :: r, o, w => by rw [World.setCells, setCells_other b hk r]; exact Below.heap_setCell _ _ _ _ (fun e => hk e)
theorem below_setCells {n b : Nat} {w W : World} (h : Below n w W) (hn : n ≤ b) (vs : List Value) (o : Nat) : Below n w (W.setCells b o vs) :=
  ⟨(World.os_setCells W b o vs).trans h.os, (setCells_tape b vs o W).trans h.tape, (World.output_setCells W b o vs).trans h.output, by rw [setCells_size]; exact h.size, fun k hk => (setCells_other b (by omega) vs o W).trans (h.block k hk)⟩
theorem IsTrie.one {w : World} {D : Nat → Prop} {s : List UInt8} {n : Option N} {cv : List Value} (h : IsTrie w D s n cv) : cv.toArray.all (·.oneCell') = true ∧ cv.length = 17 := by
  obtain ⟨x, rfl, hx⟩ := h.root
  refine ⟨all_oneCell_toArray fun v hv => ?_, by simp [h.len]⟩
  rcases List.mem_append.1 hv with h | h
  · exact bv_one s v h
  · simp at h; subst h; exact hx.one
theorem chart_cell17 {w : World} {b : Nat} {s : List UInt8} {x y : Value} {ty : TypeId} (h : w.heap[b]? = some (.cells (s.map bv ++ ([x] ++ [y])).toArray ty)) (hs : s.length = 16) : w.cell? ⟨b, 17, none⟩ = some y := by
  rw [cell_of_row w b 17 _ _ (0, 0) h, List.getElem?_toArray, List.getElem?_append_right (by simp [hs])]
  simp [hs]
theorem chart_set17 {w : World} {b : Nat} {s : List UInt8} {x y : Value} {ty : TypeId} (h : w.heap[b]? = some (.cells (s.map bv ++ ([x] ++ [y])).toArray ty)) (hs : s.length = 16) (z : Value) : (w.setCell ⟨b, 17, none⟩ z).heap[b]? = some (.cells (s.map bv ++ ([x] ++ [z])).toArray ty) := by
  have e : (s.map bv ++ ([x] ++ [y])).set 17 z = s.map bv ++ ([x] ++ [z]) := by
    rw [List.set_append_right _ _ (by simp [hs])]
    simp [hs]
  simp only [World.setCell, Array.getElem?_modify, h, if_true, Option.map_some]
  simp only [Obj.cells.injEq, Option.some.injEq, and_true]
  rw [← e]
  simp
theorem ch_one {s : List UInt8} (hs : s.length = 16) {x : Value} (hx : x.oneCell' = true) {q : Option Addr} : (s.map bv ++ ([x] ++ [Value.pointer q])).toArray.all (·.oneCell') = true := by
  refine all_oneCell_toArray fun v hv => ?_
  rcases List.mem_append.1 hv with h | h
  · exact bv_one s v h
  · simp at h
    rcases h with rfl | rfl
    · exact hx
    · rfl
theorem NodeAt.keepD {w w' : World} {D : Nat → Prop} {n : Option N} {x : Value} (hk : ∀ k, k < w.heap.size → D k → w'.heap[k]? = w.heap[k]?) (hz : w.heap.size ≤ w'.heap.size) (h : NodeAt w D n x) : NodeAt w' D n x := by
  cases n with
  | none => exact h
  | some n => exact N.At.keep hz hk (show N.At w D n x from h)
theorem World.there_row {w : World} {b n : Nat} {cs : Array Value} {t : TypeId} (h : w.heap[b]? = some (.cells cs t)) (hn : n ≤ cs.size) : w.there b 0 n := fun j hj => by
  rw [Nat.zero_add]
  refine ⟨?_, frozen_of_row w b j _ _ h⟩
  rw [cell_of_row w b j _ _ (0, 0) h, Array.getElem?_eq_getElem (by omega)]
  rfl
end Go.Proofs.YtmbiiemlepfoaaaGreatDoor

/-! The walk of chart.From. -/
namespace Go.Proofs.YtmbiiemlepfoaaaGreatDoor
open Go.RowKit
set_option linter.unusedVariables false

set_option maxHeartbeats 4000000 in
set_option maxRecDepth 100000 in
theorem chartFrom (w : World) (D : Nat → Prop) (hD : ∀ j, w.heap.size ≤ j → D j) {s : List UInt8} (hs : s.length = 16) {D0 : Nat → Prop} {p : Option Addr} {c : Nat} {L : List PairT} (h : IsPs w D0 p c L) (hasc : AscFrom none L) (hln : ∀ x ∈ L, x.1.length ≤ 65536 ∧ x.2.length ≤ 65536) (hn : L.length ≤ 900000)
    (h2 : 2 < w.heap.size) (hT : TabAt 2 Lib.deBruijn32tab w) (hS : StartAt w) :
    Calls Tryz.prog 38 #[.agg (s.map bv).toArray, .slice p L.length c] w fun e w' => ∃ cv, e = .returned (.tuple #[.agg cv.toArray, .int .i64 0]) ∧ IsCh w' D s (putsM s none L) (fromT L) cv ∧ Below w.heap.size w w' := by
  obtain ⟨ZR, hZR⟩ : ∃ Z : Array Value, Z = #[.int .u8 0, .int .u8 0, .int .u8 0, .int .u8 0, .int .u8 0, .int .u8 0, .int .u8 0, .int .u8 0, .int .u8 0, .int .u8 0, .int .u8 0, .int .u8 0, .int .u8 0, .int .u8 0, .int .u8 0, .int .u8 0, .nilIface, .pointer none] := ⟨_, rfl⟩
  have hzs : ZR.size = 18 := by rw [hZR]; rfl
  obtain ⟨W2, hW2⟩ : ∃ W, W = (w.alloc (.cells (s.map bv).toArray 105)).alloc (.cells ZR 112) := ⟨_, rfl⟩
  have hB2 : Below w.heap.size w W2 := by rw [hW2]; exact ((Below.refl _ w).alloc (Nat.le_refl _) _).alloc (by simp) _
  have r0 : W2.heap[w.heap.size]? = some (.cells (s.map bv).toArray 105) := by rw [hW2]; exact heap_alloc2_old _ _ _
  have r1 : W2.heap[w.heap.size + 1]? = some (.cells ZR 112) := by rw [hW2]; exact heap_alloc2_new _ _ _
  have hz2 : W2.heap.size = w.heap.size + 2 := by rw [hW2]; simp
  have hz16 : (s.map bv).toArray.size = 16 := by simp [hs]
  have CM := Lib.hid (pairMap W2 (h.below hB2) hasc hln (by omega))
  have CN := Lib.hid (fun w' (hb : Below w.heap.size w w') => chartNew w' D s hs)
  have H := Lib.hid h
  have HL := Lib.hid hln
  have HT := Lib.hid hT
  have HS := Lib.hid hS
  have HD := Lib.hid hD
  obtain ⟨M, hN⟩ : ∃ M, L.length = M := ⟨_, rfl⟩
  rw [hN] at hn CM ⊢
  have HN := Lib.hid hN
  have HN9 : Hid (M ≤ 900000) := hn
  clear h hasc hln hN hT hS hD hn
  go_enter Tryz.func38, Tryz.ntmps38
  go_wp2_with fail
  rw [← hZR, ← hW2]
  clear hW2 hZR
  go_wp2_with first
    | (go_at_call 90; ((with_reducible refine (CM.out).mono ?_)); rintro e w3 ⟨rfl, hb3⟩; have r03 := (hb3.block w.heap.size (by omega)).trans r0; have r13 := (hb3.block (w.heap.size + 1) (by omega)).trans r1; have hbw3 := hB2.trans (hb3.mono (by omega)); have hz3 := hb3.size; clear hb3)
    | (refine wpList_load105 rfl _ rfl w.heap.size 0 rfl (s.map bv) (range_row r03) (by simp [hs]) ?_)
    | (go_at_call 91; ((with_reducible refine (CN.out _ hbw3).mono ?_)); rintro e w4 ⟨cv0, rfl, hc4, hb4⟩; have hsz4 := hc4.size; have hone4 := hc4.one; have HC4 := Lib.hid hc4; have HB4 := Lib.hid hb4; have hz4 := hb4.size; clear hc4 hb4)
    | (refine wpList_store_row rfl 112 _ _ rfl w4.heap.size rfl cv0.toArray rfl 112 _ (heap_alloc_new w4 _) (by rw [info_112]; simp [hsz4]) (by simp [hsz4]) hone4 ?_; rw [World.setRow_alloc_new])
  obtain ⟨W8, hW8⟩ : ∃ W, W = w4.alloc (.cells cv0.toArray 112) := ⟨_, rfl⟩
  rw [← hW8]
  have hz8 : W8.heap.size = w4.heap.size + 1 := by rw [hW8]; simp
  have hb48 : Below w4.heap.size w4 W8 := by rw [hW8]; exact (Below.refl _ w4).alloc (Nat.le_refl _) _
  have r18 : W8.heap[w.heap.size + 1]? = some (.cells ZR 112) := (hb48.block _ (by omega)).trans ((HB4.out.block _ (by omega)).trans r13)
  have hbw4 : Below w.heap.size w w4 := hbw3.trans (HB4.out.mono hbw3.size)
  have hbw8 : Below w.heap.size w W8 := hbw4.trans (hb48.mono hbw4.size)
  obtain ⟨x0, p0, hcv, hx0, hp0⟩ := HC4.out.parts
  have hx0' : x0 = .nilIface := hx0
  have hp0' : p0 = none := hp0
  subst hx0'; subst hp0'
  have r8 : W8.heap[w4.heap.size]? = some (.cells (s.map bv ++ ([Value.nilIface] ++ [Value.pointer none])).toArray 112) := by rw [hW8, heap_alloc_new, hcv]; rfl
  have HBW8 := Lib.hid hbw8
  have R18 := Lib.hid r18
  clear hW8 hb48 r0 r1 r03 r13 hx0 hp0 hcv hsz4 hone4 HC4 HB4 hbw3 hbw4 hbw8 r18 CM CN
  go_loopw [24] (fun v24 wr => ∃ (i : Nat) (n : Option N) (x : Value), v24 = .int .i64 (i : Int) ∧ i ≤ M ∧ wr.heap[w4.heap.size]? = some (.cells (s.map bv ++ ([x] ++ [Value.pointer none])).toArray 112) ∧ NodeAt wr (fun j => W8.heap.size ≤ j) n x ∧ okO n ∧ cntO n ≤ i ∧ Below w4.heap.size W8 wr ∧ Hid (putsM s none (L.take i) = n)) (fun v24 _ => M - (intOf v24).toNat)
  case atStart => exact ⟨0, none, .nilIface, rfl, by omega, r8, rfl, fun m e => (by cases e), Nat.zero_le _, Below.refl _ _, rfl⟩
  case round =>
    obtain ⟨i, n, x, rfl, hi, hr, hx, hok, hcn, hb, HI⟩ := hrel
    have hzb := hb.size
    clear r8
    by_cases hlt : i < M
    · obtain ⟨⟨k, v⟩, hkv⟩ : ∃ y, L[i]? = some y := ⟨_, List.getElem?_eq_getElem (by rw [HN.out]; exact hlt)⟩
      have hl := HL.out (k, v) (List.mem_of_getElem? hkv)
      dsimp only at hl
      have hbw : Below w.heap.size w wr := HBW8.out.trans (hb.mono (by omega))
      obtain ⟨b, o, kp, kc, vp, vc, rfl, hbl, _, c0, c1, hk, hv⟩ := (H.out.below hbw).at_ hkv
      have hta : L.take (i + 1) = L.take i ++ [(k, v)] := by rw [List.take_add_one, hkv]; rfl
      have hst := putsM_snoc s none (L.take i) (k, v)
      rw [← hta, HI.out] at hst
      have HST := Lib.hid hst
      have hh := hashM_lt s k
      have hok2 := okO_step (h := hashM s k) (k := k) (v := v) hh (by omega) (by omega) hok
      have HOK2 := Lib.hid hok2
      have hx17 : IsTrie wr (fun j => W8.heap.size ≤ j) s n (s.map bv ++ [x]) := ⟨hs, x, rfl, hx⟩
      have g1 : (i : Int) < (M : Int) := by omega
      have wi : IntKind.i64.wrap ((i : Int) + 1) = ((i + 1 : Nat) : Int) := by have := HN9.out; rw [IntWalk.i64_in _ (by omega)]; omega
      have CP := Lib.hid (show ∀ w', Below wr.heap.size wr w' → Calls Tryz.prog 92 #[.agg (s.map bv ++ [x]).toArray, .agg #[.slice kp k.length kc, .slice vp v.length vc], .pointer none] w' _ from fun w' hb' => triePut w' (fun j => W8.heap.size ≤ j) (fun j hj => by have := hb'.size; omega) (mb := none) (Off.none_ _) (by simp) (Met.none_ w' 0 0) (inP_none (hk.b.below hb') (hv.b.below hb') hl.1 hl.2) ⟨hs, x, rfl, hx.below hb'⟩ (okO_fit hok (by have := HN9.out; omega)) (by omega) (by omega) (by have := hb'.size; omega) (tab_keep (HT.out) ((hb'.block 2 (by omega)).trans (hbw.block 2 h2))) (HS.out.keep ((hb'.block 0 (by omega)).trans (hbw.block 0 (by omega)))) (by simp))
      have HR := Lib.hid hr
      have HB := Lib.hid hb
      have hr17 : wr.rangeAt w4.heap.size 0 (s.map bv ++ [x]) := by
        have := range_row (w := wr) (cs := s.map bv ++ ([x] ++ [Value.pointer none])) hr
        intro j u hu
        refine this j u ?_
        rw [← List.append_assoc, List.getElem?_append_left (List.getElem?_eq_some_iff.1 hu).1]
        exact hu
      have hlr : w4.heap.size < wr.heap.size := row_ltT hr
      clear hkv hta hst hok2 hok hx hx17 hk hv hbw hr hb HI hh hl
      go_wp2_with first
        | (refine wpList_load110 rfl _ rfl w4.heap.size 0 rfl (s.map bv ++ [x]) (World.rangeAt_alloc hr17 _) (by simp [hs]) ?_)
        | (go_at_call 92; ((with_reducible refine (CP.out _ ((Below.refl _ wr).alloc (Nat.le_refl _) _)).mono ?_)); rintro e w5 ⟨cv5, rfl, ht5, _, hg5⟩; obtain ⟨x5, hcv5, hx5⟩ := ht5.root; have hone5 := ht5.one.1; have hl5 := ht5.one.2; have hb5 : Below wr.heap.size wr w5 := (((Below.refl _ wr).alloc (Nat.le_refl _) (.cells #[.slice kp k.length kc, .slice vp v.length vc] 61)).trans ((below_of_grown hg5).mono (by simp))); have hr5 := (hb5.block _ hlr).trans HR.out; have HX5 := Lib.hid hx5; have HB5 := Lib.hid hb5; have HCV5 := Lib.hid hcv5; have hty : w5.there w4.heap.size 0 cv5.toArray.size := World.there_row hr5 (by rw [List.size_toArray, hl5, List.size_toArray]; simp [hs]); clear ht5 hg5 hx5 hb5 hcv5)
        | (refine wpList_store_mid rfl 110 _ _ rfl w4.heap.size 0 cv5.toArray rfl rfl hty (by rw [info_110]; simp [hl5]) hone5 ?_)
      have hr6 : (w5.setCells w4.heap.size 0 cv5).heap[w4.heap.size]? = some (.cells (s.map bv ++ ([x5] ++ [Value.pointer none])).toArray 112) := by
        have h1 := setCells_row cv5 0 w5 _ hr5
        have h2 := putsA_mid cv5 (s.map bv ++ [x]) [] [Value.pointer none] (by rw [hl5]; simp [hs])
        rw [List.nil_append, List.append_assoc, List.length_nil] at h2
        rw [h2] at h1
        rw [h1, HCV5.out]
        simp
      have hb6 : Below w4.heap.size W8 (w5.setCells w4.heap.size 0 cv5) := below_setCells (HB.out.trans (HB5.out.mono (by omega))) (Nat.le_refl _) _ _
      have hx6 : NodeAt (w5.setCells w4.heap.size 0 cv5) (fun j => W8.heap.size ≤ j) (some (intoO (hashM s k) k v n 0).1) x5 :=
        N.At.keep (by rw [setCells_size]; exact Nat.le_refl _) (fun j _ hd => setCells_other _ (by omega) _ _ _) (show N.At _ _ _ _ from HX5.out)
      go_roundw
      case rel => exact ⟨i + 1, some (intoO (hashM s k) k v n 0).1, x5, rfl, by omega, hr6, hx6, HOK2.out.1, by have := HOK2.out.2; omega, hb6, HST.out⟩
      case measure => simp [intOf]; omega
    · have hiM : i = M := by omega
      subst hiM
      have g1 : ¬ (i : Int) < (i : Int) := by omega
      have hbw : Below w.heap.size w wr := HBW8.out.trans (hb.mono (by omega))
      have CT := Lib.hid (show Calls Tryz.prog 93 #[.slice p i c] wr (FromR (fun j => W8.heap.size ≤ j) L wr) from by
        have hq := treeFrom (fun j => W8.heap.size ≤ j) D0 L.length L (Nat.le_refl _) (fun y hy => by have := HL.out y hy; omega) (by have := HN9.out; have := HN.out; omega) wr (fun j hj => by omega) p c (H.out.below hbw)
        rw [HN.out] at hq
        exact hq)
      have hpn : putsM s none L = n := by rw [← HI.out, List.take_of_length_le (by rw [HN.out]; exact Nat.le_refl _)]
      have HPN := Lib.hid hpn
      have HR := Lib.hid hr
      have HX := Lib.hid hx
      have HB := Lib.hid hb
      have HBW := Lib.hid hbw
      have hlr : w4.heap.size < wr.heap.size := row_ltT hr
      clear hpn hr hx hb hbw HI hok hcn
      go_wp2_with first
        | (go_at_call 93; ((with_reducible refine (CT.out).mono ?_)); rintro e w6 ⟨q, rfl, ht6, hb6⟩; have hr6 := (hb6.block _ hlr).trans HR.out; have c17 := chart_cell17 hr6 hs; have f17 := frozen_of_row w6 w4.heap.size 17 _ _ hr6; have HT6 := Lib.hid ht6; have HB6 := Lib.hid hb6; have HR6 := Lib.hid hr6; clear ht6 hb6 hr6)
        | (refine wpList_load112 rfl _ rfl w4.heap.size 0 rfl (s.map bv ++ ([x] ++ [Value.pointer q])) (range_row (chart_set17 HR6.out hs (.pointer q))) (by simp [hs]) ?_)
        | (refine wpList_store_row rfl 112 _ _ rfl (w.heap.size + 1) rfl (s.map bv ++ ([x] ++ [Value.pointer q])).toArray rfl 112 ZR (by rw [Below.heap_setCell _ _ _ _ (by show w.heap.size + 1 ≠ w4.heap.size; omega), HB6.out.block _ (by omega), HB.out.block _ (by omega)]; exact R18.out) (by rw [info_112]; simp [hs]) (by rw [hzs]; simp [hs]) (ch_one hs (NodeAt.one HX.out)) ?_)
      have hb9 : Below w.heap.size w (w6.setCell ⟨w4.heap.size, 17, none⟩ (.pointer q)) := (HBW.out.trans (HB6.out.mono HBW.out.size)).setCell (by show w.heap.size ≤ w4.heap.size; omega) _
      have hr9 : (w6.setCell ⟨w4.heap.size, 17, none⟩ (.pointer q)).heap[w.heap.size + 1]? = some (.cells ZR 112) := by
        rw [Below.heap_setCell _ _ _ _ (by show w.heap.size + 1 ≠ w4.heap.size; omega), HB6.out.block _ (by omega), HB.out.block _ (by omega)]; exact R18.out
      have ho9 : ∀ j, W8.heap.size ≤ j → ((w6.setCell ⟨w4.heap.size, 17, none⟩ (.pointer q)).setRow (w.heap.size + 1) (s.map bv ++ ([x] ++ [Value.pointer q])).toArray).heap[j]? = w6.heap[j]? := fun j hj => (setRow_other (by omega)).trans (Below.heap_setCell _ _ _ _ (by show j ≠ w4.heap.size; omega))
      have hz9 : ((w6.setCell ⟨w4.heap.size, 17, none⟩ (.pointer q)).setRow (w.heap.size + 1) (s.map bv ++ ([x] ++ [Value.pointer q])).toArray).heap.size = w6.heap.size := by rw [setRow_size]; simp [World.setCell]
      refine bodyPost_ret (results_row2 rfl _ _ (w.heap.size + 1) 112 (s.map bv ++ ([x] ++ [Value.pointer q])) (0, 0) rfl (setRow_heap _ _ _ _ 112 (0, 0) hr9) row_112 (by rw [info_112]; simp [hs])) rfl ⟨_, rfl, ⟨hs, x, q, by simp, ?_, ?_⟩, below_setRow hb9 (by omega) _⟩
      · rw [HPN.out]
        exact (NodeAt.keepD (fun j hj hd => ho9 j hd) (by rw [hz9]; exact Nat.le_refl _) (HX.out.below HB6.out)).mono fun j _ h => HD.out j (by have : W8.heap.size ≤ j := h; omega)
      · exact (TreeAt.keep (by rw [hz9]; exact Nat.le_refl _) (fun j _ hd => ho9 j hd) HT6.out).mono fun j _ h => HD.out j (by have : W8.heap.size ≤ j := h; omega)
end Go.Proofs.YtmbiiemlepfoaaaGreatDoor
