/- The walks of sip Begin, Hash. The walk of sip Hash. Slices of pairs in memory. The walk of pair.Own of one pair. -/
import Derived.Test.YtmbiiemlepfoaaaGreatDoorFl05
import Derived.Deep.RegionHeld3
import Derived.Laws.Closers25b
import Derived.Test.YtmbiiemlepfoaaaGreatDoorFl04
import Derived.Deep.AppendLies

namespace Go.Proofs.YtmbiiemlepfoaaaGreatDoor
open Go.RowKit
set_option linter.unusedVariables false
def StartAt (w : World) : Prop := w.cell? ⟨0, 0, none⟩ = some (.int .u64 8317987319222330741) ∧ w.cell? ⟨0, 1, none⟩ = some (.int .u64 7237128888997146477) ∧ w.cell? ⟨0, 2, none⟩ = some (.int .u64 7816392313619706465) ∧ w.cell? ⟨0, 3, none⟩ = some (.int .u64 8387220255154660723)
theorem StartAt.keep {w w' : World} (h : StartAt w) (hk : w'.heap[0]? = w.heap[0]?) : StartAt w' := by
  have e : ∀ o, w'.cell? ⟨0, o, none⟩ = w.cell? ⟨0, o, none⟩ := fun o => by unfold World.cell?; rw [hk]
  unfold StartAt
  rw [e, e, e, e]
  exact h
def beginM (s : List UInt8) : Four :=
  ⟨bits .xor .u64 8317987319222330741 (lowM (s.take 8) : Int), bits .xor .u64 7237128888997146477 (lowM (s.drop 8) : Int), bits .xor .u64 7816392313619706465 (lowM (s.take 8) : Int), bits .xor .u64 8387220255154660723 (lowM (s.drop 8) : Int)⟩
theorem seed_isB {w : World} {b : Nat} {s : List UInt8} {cs : Array Value} (hcs : cs = (s.map bv).toArray) (h : w.heap[b]? = some (.cells cs 105)) (hs : s.length = 16) (lo : Nat) (hlo : lo + 8 ≤ 16) : IsB w (some ⟨b, lo, none⟩) (16 - lo) ((s.drop lo).take 8) := by
  subst hcs
  refine ⟨by simp; omega, fun h => by simp at h, by simp [maxLen]; omega, fun _ => ⟨b, lo, rfl, row_ltT h, fun i x hx => ?_⟩⟩
  rw [cell_of_row w b (lo + i) _ _ (0, 0) h]
  rw [List.getElem?_take] at hx
  split at hx
  · rw [List.getElem?_drop] at hx
    simp [hx]
  · cases hx
theorem four_set {W : World} {b0 : Nat} {a b c d x : Int} (h : W.heap[b0]? = some (fourRow a b c d)) :
    (W.setCell ⟨b0, 0, none⟩ (.int .u64 x)).heap[b0]? = some (fourRow x b c d) ∧ (W.setCell ⟨b0, 1, none⟩ (.int .u64 x)).heap[b0]? = some (fourRow a x c d) ∧ (W.setCell ⟨b0, 2, none⟩ (.int .u64 x)).heap[b0]? = some (fourRow a b x d) ∧ (W.setCell ⟨b0, 3, none⟩ (.int .u64 x)).heap[b0]? = some (fourRow a b c x) := by
  simp [World.setCell, Array.getElem?_modify, h]
theorem grown_set {W w' : World} {b o : Nat} {v : Value} (h : W.grownBy w' (some b)) : W.grownBy (w'.setCell ⟨b, o, none⟩ v) (some b) :=
  grown_trans h ⟨rfl, rfl, rfl, by simp [World.setCell], fun k _ hk => Below.heap_setCell w' _ _ k (fun e => hk (by rw [e]))⟩
set_option maxHeartbeats 4000000 in
set_option maxRecDepth 100000 in
theorem sipBegin (w : World) (s : List UInt8) (hs : s.length = 16) (hS : StartAt w) (h0 : 0 < w.heap.size) : Calls Tryz.prog 238 #[.agg (s.map bv).toArray] w fun e w' => e = .returned (beginM s).v ∧ Below w.heap.size w w' := by
  obtain ⟨cs, hcs⟩ : ∃ cs, cs = (s.map bv).toArray := ⟨_, rfl⟩
  have hz : cs.size = 16 := by rw [hcs]; simp [hs]
  rw [← hcs]
  obtain ⟨W2, hW2⟩ : ∃ x, x = ((w.alloc (.cells cs 105)).alloc (fourRow 0 0 0 0)).alloc (fourRow 0 0 0 0) := ⟨_, rfl⟩
  have hB : Below w.heap.size w W2 := by rw [hW2]; exact (((Below.refl _ w).alloc (Nat.le_refl _) _).alloc (by simp) _).alloc (by simp; omega) _
  have r0 : W2.heap[w.heap.size]? = some (.cells cs 105) := by rw [hW2, Below.heap_alloc _ _ _ (by simp; omega)]; exact heap_alloc2_old _ _ _
  have r1 : W2.heap[w.heap.size + 1]? = some (fourRow 0 0 0 0) := by rw [hW2, Below.heap_alloc _ _ _ (by simp)]; exact heap_alloc2_new _ _ _
  have r2 : W2.heap[w.heap.size + 1 + 1]? = some (fourRow 0 0 0 0) := by
    have := heap_alloc_new ((w.alloc (.cells cs 105)).alloc (fourRow 0 0 0 0)) (fourRow 0 0 0 0)
    rw [hW2]
    simpa using this
  have HC := Lib.hid (show ∀ w', W2.grownBy w' (some (w.heap.size + 1 + 1)) → w'.heap[w.heap.size]? = some (.cells cs 105) ∧ w'.heap[w.heap.size + 1]? = some (fourRow 0 0 0 0) ∧ StartAt w' from fun w' hg =>
    ⟨grown_row hg r0 (fun e => by injection e; omega), grown_row hg r1 (fun e => by injection e; omega), hS.keep ((hg.block 0 (Nat.lt_of_lt_of_le h0 hB.size) (by simp)).trans (hB.block 0 h0))⟩)
  have CL0 := Lib.hid (show ∀ w', W2.grownBy w' (some (w.heap.size + 1 + 1)) → Calls Tryz.prog 240 #[.slice (some ⟨w.heap.size, 0, none⟩) 8 16] w' (fun e w'' => e = .returned (.int .u64 (lowM (s.take 8) : Int)) ∧ w' = w'') from fun w' hg => by
    have := wordLow w' (seed_isB hcs (HC.out w' hg).1 hs 0 (by omega))
    rw [show ((s.drop 0).take 8).length = 8 from by simp [hs], show ((s.drop 0).take 8).take 8 = s.take 8 from by rw [List.drop_zero, List.take_take]; rfl] at this
    exact this)
  have CL8 := Lib.hid (show ∀ w', W2.grownBy w' (some (w.heap.size + 1 + 1)) → Calls Tryz.prog 240 #[.slice (some ⟨w.heap.size, 8, none⟩) 8 8] w' (fun e w'' => e = .returned (.int .u64 (lowM (s.drop 8) : Int)) ∧ w' = w'') from fun w' hg => by
    have := wordLow w' (seed_isB hcs (HC.out w' hg).1 hs 8 (by omega))
    rw [show ((s.drop 8).take 8).length = 8 from by simp [hs], show ((s.drop 8).take 8).take 8 = s.drop 8 from by rw [List.take_take]; exact List.take_of_length_le (by simp [hs])] at this
    exact this)
  have HB := Lib.hid hB
  have HR2 := Lib.hid r2
  have HM := Lib.hid (show beginM s = ⟨bits .xor .u64 8317987319222330741 (lowM (s.take 8) : Int), bits .xor .u64 7237128888997146477 (lowM (s.drop 8) : Int), bits .xor .u64 7816392313619706465 (lowM (s.take 8) : Int), bits .xor .u64 8387220255154660723 (lowM (s.drop 8) : Int)⟩ from rfl)
  generalize beginM s = bm at *
  generalize (lowM (s.take 8) : Int) = lo0 at *
  generalize (lowM (s.drop 8) : Int) = lo8 at *
  clear hB r0 r1 r2 hS hcs hs
  go_enter Tryz.func238, Tryz.ntmps238
  go_wp2
  rw [← hW2]
  go_loopw [6] (fun v6 wr => ∃ (i : Nat) (p q r t : Int), v6 = .int .i64 (i : Int) ∧ i ≤ 4 ∧ Hid (wr.heap[w.heap.size + 1 + 1]? = some (fourRow p q r t)) ∧ Hid ((0 < i → p = bm.a) ∧ (1 < i → q = bm.b) ∧ (2 < i → r = bm.c) ∧ (3 < i → t = bm.d)) ∧ Hid (W2.grownBy wr (some (w.heap.size + 1 + 1))))
    (fun v6 _ => 4 - (intOf v6).toNat)
  case atStart => exact ⟨0, _, _, _, _, rfl, by omega, HR2, ⟨fun h => by omega, fun h => by omega, fun h => by omega, fun h => by omega⟩, grown_rfl _ _⟩
  case round =>
    obtain ⟨i, p, q, r, t, rfl, hi, HR, HV, HG⟩ := hrel
    obtain ⟨⟨t0, t1, t2, t3⟩, t4, t5, t6, t7⟩ := four_cells HR.out
    obtain ⟨z0, z1, z2, z3⟩ := (HC.out _ HG.out).2.2
    have k8 : IntKind.i64.wrap 8 = 8 := by decide
    have k16 : IntKind.i64.wrap 16 = 16 := by decide
    have hi4 : i = 0 ∨ i = 1 ∨ i = 2 ∨ i = 3 ∨ i = 4 := by omega
    rcases hi4 with rfl | rfl | rfl | rfl | rfl
    · have GS := fun v => grown_set (o := 0) (v := v) (grown_step HG.out (grown_dr _ _))
      go_wp2
      go_region_with (go_at_call 240; (((with_reducible refine (CL0.out _ (grown_step HG.out (grown_dr _ _))).mono ?_)); rintro e w1 ⟨rfl, rfl⟩))
      all_goals
        go_wp2
        go_roundw
        case rel => exact ⟨1, _, _, _, _, rfl, by omega, (four_set (W := wr.drew) HR.out).1, ⟨fun _ => by rw [HM.out], fun h => by omega, fun h => by omega, fun h => by omega⟩, GS _⟩
        case measure => simp [intOf]
    · have GS := fun v => grown_set (o := 1) (v := v) (grown_step HG.out (grown_dr _ _))
      go_wp2
      go_region_with (go_at_call 240; (((with_reducible refine (CL8.out _ (grown_step HG.out (grown_dr _ _))).mono ?_)); rintro e w1 ⟨rfl, rfl⟩))
      all_goals
        go_wp2
        go_roundw
        case rel => exact ⟨2, _, _, _, _, rfl, by omega, (four_set (W := wr.drew) HR.out).2.1, ⟨fun _ => HV.out.1 (by omega), fun h => by rw [HM.out], fun h => by omega, fun h => by omega⟩, GS _⟩
        case measure => simp [intOf]
    · have GS := fun v => grown_set (o := 2) (v := v) (grown_step HG.out (grown_dr _ _))
      go_wp2
      go_region_with (go_at_call 240; (((with_reducible refine (CL0.out _ (grown_step HG.out (grown_dr _ _))).mono ?_)); rintro e w1 ⟨rfl, rfl⟩))
      all_goals
        go_wp2
        go_roundw
        case rel => exact ⟨3, _, _, _, _, rfl, by omega, (four_set (W := wr.drew) HR.out).2.2.1, ⟨fun _ => HV.out.1 (by omega), fun h => HV.out.2.1 (by omega), fun h => by rw [HM.out], fun h => by omega⟩, GS _⟩
        case measure => simp [intOf]
    · have GS := fun v => grown_set (o := 3) (v := v) (grown_step HG.out (grown_dr _ _))
      go_wp2
      go_region_with (go_at_call 240; (((with_reducible refine (CL8.out _ (grown_step HG.out (grown_dr _ _))).mono ?_)); rintro e w1 ⟨rfl, rfl⟩))
      all_goals
        go_wp2
        go_roundw
        case rel => exact ⟨4, _, _, _, _, rfl, by omega, (four_set (W := wr.drew) HR.out).2.2.2, ⟨fun _ => HV.out.1 (by omega), fun h => HV.out.2.1 (by omega), fun h => HV.out.2.2.1 (by omega), fun h => by rw [HM.out]⟩, GS _⟩
        case measure => simp [intOf]
    · obtain ⟨⟨u0, u1, u2, u3⟩, u4, u5, u6, u7⟩ := four_cells (HC.out _ HG.out).2.1
      have hb6 := HB.out.grown HG.out HB.out.size (fun k e => by injection e; omega)
      go_wp2
      refine bodyPost_ret (v := .agg #[.int .u64 p, .int .u64 q, .int .u64 r, .int .u64 t]) ?_ rfl ?_
      · rw [results_cell1 rfl]
        simp [go_sem, asAddr, Result.andThen, u0, u1, u2, u3]
      · refine ⟨?_, ?_⟩
        · have hv := HV.out
          rw [hv.1 (by omega), hv.2.1 (by omega), hv.2.2.1 (by omega), hv.2.2.2 (by omega)]
          rfl
        · iterate 4 refine below_set ?_ (by omega)
          exact hb6
def hashFrom : Nat → Four → List UInt8 → Nat → Int
  | 0, x, k, n => sipEndM (takeM x (bits .or .u64 ((n : Int) % 256 * 72057594037927936) (lowM (k.take 8) : Int)))
  | f + 1, x, k, n => if 8 ≤ k.length then hashFrom f (takeM x (lowM (k.take 8) : Int)) (k.drop 8) n else sipEndM (takeM x (bits .or .u64 ((n : Int) % 256 * 72057594037927936) (lowM (k.take 8) : Int)))
def hashI (s k : List UInt8) : Int := hashFrom k.length (beginM s) k k.length
theorem sipEndM_range (x : Four) : 0 ≤ sipEndM x ∧ sipEndM x < 18446744073709551616 := by
  have h := bits_within .xor .u64 (bits .xor .u64 (bits .xor .u64 (rN 4 ⟨x.a, x.b, bits .xor .u64 x.c 255, x.d⟩).a (rN 4 ⟨x.a, x.b, bits .xor .u64 x.c 255, x.d⟩).b) (rN 4 ⟨x.a, x.b, bits .xor .u64 x.c 255, x.d⟩).c) (rN 4 ⟨x.a, x.b, bits .xor .u64 x.c 255, x.d⟩).d
  have h1 : IntKind.u64.min = 0 := rfl
  have h2 : IntKind.u64.max = 18446744073709551615 := rfl
  rw [h1, h2] at h
  unfold sipEndM
  exact ⟨h.1, by have := h.2; simp only; omega⟩
theorem hash_range : ∀ (f : Nat) (x : Four) (k : List UInt8) (n : Nat), 0 ≤ hashFrom f x k n ∧ hashFrom f x k n < 18446744073709551616
  | 0, x, k, n => sipEndM_range _
  | f + 1, x, k, n => by
    unfold hashFrom
    split
    · exact hash_range f _ _ n
    · exact sipEndM_range _
def hashM (s k : List UInt8) : Nat := (hashI s k).toNat
theorem hashM_eq (s k : List UInt8) : hashI s k = (hashM s k : Int) := by
  have := (hash_range k.length (beginM s) k k.length).1
  unfold hashM hashI at *
  omega
theorem hashM_lt (s k : List UInt8) : hashM s k < 18446744073709551616 := by
  have := (hash_range k.length (beginM s) k k.length).2
  unfold hashM hashI
  omega
def sliceLen : Value → Nat
  | .slice _ n _ => n
  | _ => 0
theorem IsB.drop8 {w : World} {b o c : Nat} {l : List UInt8} (h : IsB w (some ⟨b, o, none⟩) c l) (hl : 8 ≤ l.length) : IsB w (if c = 8 then some ⟨b, o, none⟩ else some ⟨b, o + 8, none⟩) (c - 8) (l.drop 8) := by
  have hc := h.cap
  have hbg := h.big
  refine ⟨(by rw [List.length_drop]; omega), (fun hn => by split at hn <;> cases hn), by omega, fun hp => ?_⟩
  rw [List.length_drop] at hp
  obtain ⟨b', o', hx, hb, hcell⟩ := h.cells (by omega)
  cases hx
  rw [if_neg (by omega)]
  refine ⟨b, o + 8, rfl, hb, fun i x hi => ?_⟩
  rw [List.getElem?_drop] at hi
  have := hcell _ _ hi
  rw [show o + 8 + i = o + (8 + i) from by omega]
  exact this
theorem arr16 (cs : Array Value) (h : cs.size = 16) : #[cs[0], cs[1], cs[2], cs[3], cs[4], cs[5], cs[6], cs[7], cs[8], cs[9], cs[10], cs[11], cs[12], cs[13], cs[14], cs[15]] = cs := by
  obtain ⟨l⟩ := cs
  match l, h with
  | [a0, a1, a2, a3, a4, a5, a6, a7, a8, a9, a10, a11, a12, a13, a14, a15], _ => rfl
set_option maxHeartbeats 4000000 in
set_option maxRecDepth 100000 in
theorem sipHash (w : World) (s k : List UInt8) (hs : s.length = 16) (hS : StartAt w) (h0 : 0 < w.heap.size) {p : Option Addr} {c : Nat} (hk : IsB w p c k) (hkl : k.length ≤ 140737488355328) : Calls Tryz.prog 166 #[.agg (s.map bv).toArray, .slice p k.length c] w fun e w' => e = .returned (.int .u64 (hashM s k : Int)) ∧ Below w.heap.size w w' := by
  rw [← hashM_eq]
  obtain ⟨cs, hcs⟩ : ∃ cs, cs = (s.map bv).toArray := ⟨_, rfl⟩
  have hz : cs.size = 16 := by rw [hcs]; simp [hs]
  obtain ⟨W2, hW2⟩ : ∃ x, x = w.alloc (.cells cs 105) := ⟨_, rfl⟩
  have hB : Below w.heap.size w W2 := by rw [hW2]; exact (Below.refl _ w).alloc (Nat.le_refl _) _
  have hS2 : StartAt W2 := hS.keep (hB.block 0 h0)
  have CB := Lib.hid (show Calls Tryz.prog 238 #[.agg #[cs[0], cs[1], cs[2], cs[3], cs[4], cs[5], cs[6], cs[7], cs[8], cs[9], cs[10], cs[11], cs[12], cs[13], cs[14], cs[15]]] W2 (fun e w' => e = .returned (.agg #[.int .u64 (beginM s).a, .int .u64 (beginM s).b, .int .u64 (beginM s).c, .int .u64 (beginM s).d]) ∧ Below W2.heap.size W2 w') from by rw [arr16 cs hz, hcs]; exact sipBegin W2 s hs hS2 (Nat.lt_of_lt_of_le h0 hB.size))
  have HK := Lib.hid hk
  have HB := Lib.hid hB
  have HI := Lib.hid (show hashI s k = hashFrom k.length (beginM s) k k.length from rfl)
  have w1 : IntKind.u8.wrap (k.length : Int) = ((k.length % 256 : Nat) : Int) := by rw [IntKind.wrap_u8]; omega
  have w2 : IntKind.u64.wrap ((k.length % 256 : Nat) : Int) = ((k.length % 256 : Nat) : Int) := IntWalk.u64_in _ (by omega)
  rw [← hcs]
  generalize beginM s = bm at *
  generalize hashI s k = hI at *
  clear hB hS2 hS hk hcs
  go_enter Tryz.func166, Tryz.ntmps166
  go_wp2_with fail
  rw [← hW2]
  clear hW2
  go_wp2_with (go_at_call 238; ((with_reducible refine (CB.out).mono ?_)); rintro e w3 ⟨rfl, hb3⟩; have HB3 := Lib.hid (HB.out.trans (hb3.mono HB.out.size)); clear hb3)
  obtain ⟨xb, hxb⟩ : ∃ xb, xb = w3.heap.size := ⟨_, rfl⟩
  obtain ⟨W4, hW4⟩ : ∃ x, x = w3.alloc (fourRow bm.a bm.b bm.c bm.d) := ⟨_, rfl⟩
  rw [← hxb, ← hW4]
  have HB4 := Lib.hid (show Below w.heap.size w W4 from by rw [hW4]; exact HB3.out.alloc HB3.out.size _)
  have HR4 := Lib.hid (show W4.heap[xb]? = some (fourRow bm.a bm.b bm.c bm.d) from by rw [hW4, hxb]; exact heap_alloc_new _ _)
  have hxw : w.heap.size ≤ xb := by rw [hxb]; exact HB3.out.size
  have CLo := Lib.hid (fun (w : World) (p : Option Addr) (c : Nat) (l : List UInt8) (h : IsB w p c l) => wordLow w h)
  have CT := Lib.hid (fun (w : World) (a b c d m : Int) => show Calls Tryz.prog 239 #[.agg #[.int .u64 a, .int .u64 b, .int .u64 c, .int .u64 d], .int .u64 m] w (fun e w' => ∃ p q r s, takeM ⟨a, b, c, d⟩ m = ⟨p, q, r, s⟩ ∧ e = .returned (.agg #[.int .u64 p, .int .u64 q, .int .u64 r, .int .u64 s]) ∧ Below w.heap.size w w') from
    (sipTake w ⟨a, b, c, d⟩ m).mono fun e w' ⟨he, hb⟩ => ⟨_, _, _, _, rfl, he, hb⟩)
  have CE := Lib.hid (fun (w : World) (a b c d : Int) => show Calls Tryz.prog 241 #[.agg #[.int .u64 a, .int .u64 b, .int .u64 c, .int .u64 d]] w _ from sipEnd w ⟨a, b, c, d⟩)
  clear hxb hW4 CB HB3
  obtain ⟨x0, x1, x2, x3⟩ := bm
  go_loopw [1] (fun v1 wr => ∃ (q : Option Addr) (d : Nat) (l : List UInt8) (f : Nat) (a b c' e : Int), v1 = .slice q l.length d ∧ l.length ≤ f ∧ l.length ≤ k.length ∧ Hid (hI = hashFrom f ⟨a, b, c', e⟩ l k.length) ∧ Hid (IsB wr q d l) ∧ Hid (wr.heap[xb]? = some (fourRow a b c' e)) ∧ Hid (Below w.heap.size w wr) ∧ Hid (IsB w q d l))
    (fun v1 _ => sliceLen v1)
  case atStart => exact ⟨p, c, k, k.length, x0, x1, x2, x3, rfl, Nat.le_refl _, Nat.le_refl _, HI, HK.out.below HB4.out, HR4, HB4, HK⟩
  case round =>
    obtain ⟨q, d, l, f, a, b, c', e, rfl, hf, hlk, HH, HQ, HR, HBr, HQ0⟩ := hrel
    obtain ⟨⟨t0, t1, t2, t3⟩, t4, t5, t6, t7⟩ := four_cells HR.out
    by_cases h8 : 8 ≤ l.length
    · have g1 : (8 : Int) ≤ (l.length : Int) := by omega
      obtain ⟨qb, qo, rfl, _, _⟩ := HQ.out.cells (by omega)
      obtain ⟨f', rfl⟩ : ∃ f', f = f' + 1 := ⟨f - 1, by omega⟩
      have HN := Lib.hid (show hI = hashFrom f' (takeM ⟨a, b, c', e⟩ (lowM (l.take 8) : Int)) (l.drop 8) k.length from by have := HH.out; unfold hashFrom at this; rw [if_pos h8] at this; exact this)
      have HD := Lib.hid (show ∀ w', IsB w' (some ⟨qb, qo, none⟩) d l → IsB w' (if d = 8 then some ⟨qb, qo, none⟩ else some ⟨qb, qo + 8, none⟩) (d - 8) (l.drop 8) from fun w' h => h.drop8 h8)
      have hdl : (l.drop 8).length = l.length - 8 := List.length_drop
      have gd : ¬ ((d : Int) < 8) := by have := HQ.out.cap; omega
      go_wp2
      go_region_with (first
        | (go_at_call 240; ((with_reducible refine (CLo.out _ _ _ _ HQ.out.drew).mono ?_)); rintro e w5 ⟨rfl, rfl⟩)
        | (go_at_call 239; ((with_reducible refine (CT.out _ a b c' e _).mono ?_)); rintro e w5 ⟨p', q', r', s', e5, rfl, hb5⟩; have hr5 := Lib.hid ((hb5.block xb (row_ltT HR.out)).trans HR.out); have HB5 := Lib.hid ((HBr.out.trans ((Below.refl _ wr).drew.mono HBr.out.size)).trans (hb5.mono HBr.out.size)); have HE5 := Lib.hid e5; obtain ⟨⟨u0, u1, u2, u3⟩, u4, u5, u6, u7⟩ := four_cells hr5.out; clear hb5 e5) | fail)
      all_goals
        go_wp2
        go_roundw
        case rel =>
          have hb6 := below_set (v := .int .u64 s') (o := 3) (below_set (v := .int .u64 r') (o := 2) (below_set (v := .int .u64 q') (o := 1) (below_set (v := .int .u64 p') (o := 0) HB5.out hxw) hxw) hxw) hxw
          refine ⟨_, _, l.drop 8, f', p', q', r', s', by rw [hdl], by omega, by omega, by rw [← HE5.out]; exact HN.out, (HD.out _ HQ0.out).below hb6, four_set4 hr5.out, hb6, HD.out _ HQ0.out⟩
        case measure => simp [sliceLen]; omega
    · have g1 : ¬ ((8 : Int) ≤ (l.length : Int)) := by omega
      have HN := Lib.hid (show hI = sipEndM (takeM ⟨a, b, c', e⟩ (bits .or .u64 ((k.length : Int) % 256 * 72057594037927936) (lowM (l.take 8) : Int))) from by
        have := HH.out
        rcases f with _ | f
        · exact this
        · unfold hashFrom at this; rw [if_neg h8] at this; exact this)
      go_wp2
      go_region_held3 (fun w' => w'.cell? ⟨xb, 0, none⟩ = some (.int .u64 a) ∧ w'.cell? ⟨xb, 1, none⟩ = some (.int .u64 b) ∧ w'.cell? ⟨xb, 2, none⟩ = some (.int .u64 c') ∧ w'.cell? ⟨xb, 3, none⟩ = some (.int .u64 e))
        (first | exact (four_cells (W := wr.drew) HR.out).1 | exact (four_cells hr5.out).1 | exact (four_cells hr6.out).1 | fail)
        (first
          | (go_at_call 240; ((with_reducible refine (CLo.out _ _ _ _ HQ.out.drew).mono ?_)); rintro e w5 ⟨rfl, rfl⟩)
          | (go_at_call 239; ((with_reducible refine (CT.out _ a b c' e _).mono ?_)); rintro e w5 ⟨p', q', r', s', e5, rfl, hb5⟩; have hr5 := Lib.hid ((hb5.block xb (row_ltT HR.out)).trans HR.out); have HB5 := Lib.hid ((HBr.out.trans ((Below.refl _ wr).drew.mono HBr.out.size)).trans (hb5.mono HBr.out.size)); have HE5 := Lib.hid e5; clear hb5 e5)
          | (go_at_call 241; ((with_reducible refine (CE.out _ p' q' r' s').mono ?_)); rintro e w6 ⟨rfl, hb6⟩; have hr6 := Lib.hid ((hb6.block xb (row_ltT hr5.out)).trans hr5.out); have HB6 := Lib.hid (HB5.out.trans (hb6.mono HB5.out.size)); clear hb6) | fail)
      go_wp2
      go_ret
      exact ⟨by rw [HN.out, HE5.out]; rfl, HB6.out⟩
structure IsPs (w : World) (D : Nat → Prop) (p : Option Addr) (c : Nat) (L : List PairT) : Prop where
  cap : L.length ≤ c
  nil : p = none → c = 0
  big : c ≤ maxLen
  cells : 0 < L.length → ∃ b o, p = some ⟨b, o, none⟩ ∧ b < w.heap.size ∧ D b ∧ ∀ i x, L[i]? = some x → ∃ kp kc vp vc, w.cell? ⟨b, o + i * 2, none⟩ = some (.slice kp x.1.length kc) ∧ w.cell? ⟨b, o + i * 2 + 1, none⟩ = some (.slice vp x.2.length vc) ∧ IsD w D kp kc x.1 ∧ IsD w D vp vc x.2
theorem IsPs.none_ (w : World) (D : Nat → Prop) : IsPs w D none 0 [] := ⟨Nat.le_refl _, fun _ => rfl, Nat.zero_le _, fun h => absurd h (by simp)⟩
theorem cell_keep {w w' : World} {D : Nat → Prop} (hk : ∀ k, k < w.heap.size → D k → w'.heap[k]? = w.heap[k]?) {a : Addr} (ha : a.block < w.heap.size) (hd : D a.block) : w'.cell? a = w.cell? a := by
  unfold World.cell?
  rw [hk _ ha hd]
theorem IsPs.keep {w w' : World} {D : Nat → Prop} {p : Option Addr} {c : Nat} {L : List PairT} (h : IsPs w D p c L) (hz : w.heap.size ≤ w'.heap.size) (hk : ∀ k, k < w.heap.size → D k → w'.heap[k]? = w.heap[k]?) : IsPs w' D p c L :=
  ⟨h.cap, h.nil, h.big, fun hl => by
    obtain ⟨b, o, hp, hb, hd, hc⟩ := h.cells hl
    refine ⟨b, o, hp, Nat.lt_of_lt_of_le hb hz, hd, fun i x hx => ?_⟩
    obtain ⟨kp, kc, vp, vc, h1, h2, h3, h4⟩ := hc i x hx
    exact ⟨kp, kc, vp, vc, (cell_keep hk (a := ⟨b, o + i * 2, none⟩) hb hd).trans h1, (cell_keep hk (a := ⟨b, o + i * 2 + 1, none⟩) hb hd).trans h2, h3.keep hz hk, h4.keep hz hk⟩⟩
theorem IsPs.below {w w' : World} {D : Nat → Prop} {p : Option Addr} {c : Nat} {L : List PairT} (h : IsPs w D p c L) (hb : Below w.heap.size w w') : IsPs w' D p c L := h.keep hb.size (below_heap hb D)
theorem IsPs.front {w : World} {D : Nat → Prop} {p : Option Addr} {c : Nat} {A B : List PairT} (h : IsPs w D p c (A ++ B)) : IsPs w D p c A :=
  ⟨by have := h.cap; rw [List.length_append] at this; omega, h.nil, h.big, fun hl => by
    obtain ⟨b, o, hp, hb, hd, hc⟩ := h.cells (by rw [List.length_append]; omega)
    refine ⟨b, o, hp, hb, hd, fun i x hx => hc i x ?_⟩
    rw [List.getElem?_append_left (List.getElem?_eq_some_iff.1 hx).1]
    exact hx⟩
def cutP (p : Option Addr) (c k : Nat) : Option Addr := if c = k then p else p.map (·.add (k * 2))
theorem IsPs.back {w : World} {D : Nat → Prop} {p : Option Addr} {c : Nat} {A B : List PairT} (h : IsPs w D p c (A ++ B)) (k : Nat) (hk : A.length = k) : IsPs w D (cutP p c k) (c - k) B := by
  have hc := h.cap
  have hb := h.big
  rw [List.length_append] at hc
  refine ⟨by omega, fun hn => ?_, by omega, fun hl => ?_⟩
  · unfold cutP at hn
    split at hn
    · omega
    · have : p = none := by cases p <;> simp_all
      have := h.nil this
      omega
  · obtain ⟨b, o, hp, hbl, hd, hcell⟩ := h.cells (by rw [List.length_append]; omega)
    refine ⟨b, o + k * 2, ?_, hbl, hd, fun i x hx => ?_⟩
    · unfold cutP
      rw [if_neg (by omega), hp]
      simp [Addr.add_lit]
    · have := hcell (k + i) x (by rw [List.getElem?_append_right (by omega), hk, Nat.add_sub_cancel_left]; exact hx)
      rw [show o + k * 2 + i * 2 = o + (k + i) * 2 from by omega]
      exact this
theorem IsPs.at_ {w : World} {D : Nat → Prop} {p : Option Addr} {c : Nat} {L : List PairT} (h : IsPs w D p c L) {i : Nat} {x : PairT} (hx : L[i]? = some x) : ∃ b o kp kc vp vc, p = some ⟨b, o, none⟩ ∧ b < w.heap.size ∧ D b ∧ w.cell? ⟨b, o + i * 2, none⟩ = some (.slice kp x.1.length kc) ∧ w.cell? ⟨b, o + i * 2 + 1, none⟩ = some (.slice vp x.2.length vc) ∧ IsD w D kp kc x.1 ∧ IsD w D vp vc x.2 := by
  have hl := (List.getElem?_eq_some_iff.1 hx).1
  obtain ⟨b, o, hp, hb, hd, hc⟩ := h.cells (by omega)
  obtain ⟨kp, kc, vp, vc, h⟩ := hc i x hx
  exact ⟨b, o, kp, kc, vp, vc, hp, hb, hd, h⟩
theorem IsPs.one {w : World} {D : Nat → Prop} {b : Nat} {kp vp : Option Addr} {kc vc : Nat} {x : PairT} {e : TypeId} {fr : Nat × Nat} (hr : w.heap[b]? = some (.cells #[.slice kp x.1.length kc, .slice vp x.2.length vc] e fr)) (hd : D b) (hk : IsD w D kp kc x.1) (hv : IsD w D vp vc x.2) : IsPs w D (some ⟨b, 0, none⟩) 1 [x] :=
  ⟨Nat.le_refl _, fun h => by simp at h, by unfold maxLen; decide, fun _ => ⟨b, 0, rfl, row_ltT hr, hd, fun i y hy => by
    match i, hy with
    | 0, hy =>
      simp at hy
      subst hy
      exact ⟨kp, kc, vp, vc, cell_of_row w b 0 _ _ fr hr, cell_of_row w b 1 _ _ fr hr, hk, hv⟩⟩⟩
theorem info61 : (Tryz.prog.info? 61).map (fun i => (i.zero, i.size, i.bytes)) = some (some (.agg #[.slice none 0 0, .slice none 0 0]), 2, 48) := by kernel_rfl
def Own1R (D : Nat → Prop) (k v : List UInt8) (w : World) (e : Ending) (w' : World) : Prop := ∃ g kp kc vp vc cap, e = .returned (.slice (some ⟨g, 0, none⟩) 1 cap) ∧ 1 ≤ cap ∧ w'.cell? ⟨g, 0, none⟩ = some (.slice kp k.length kc) ∧ w'.cell? ⟨g, 1, none⟩ = some (.slice vp v.length vc) ∧
  IsD w' D kp kc k ∧ IsD w' D vp vc v ∧ Below w.heap.size w w' ∧ w.heap.size ≤ g
theorem own1_owns {W w4 : World} {B : Nat} (h : W.heap[B]? = some (.cells #[.slice none 0 0, .slice none 0 0] 61)) (hb : Below W.heap.size W w4) (o : Obj) : (w4.alloc o).ownsRow B 61 2 (.slice (some ⟨B, 0, none⟩) 0 1) 0 [] := by
  have hr := (hb.block B (row_ltT h)).trans h
  refine World.ownsRow.alloc ?_ o
  exact ⟨rfl, .inr ⟨B, 1, #[.slice none 0 0, .slice none 0 0], rfl, Nat.le_refl _, hr, by omega, by unfold maxLen; decide, rfl, rfl⟩⟩
theorem own1_fin {w W2 w3 w4 w5 : World} {D : Nat → Prop} (hD : ∀ j, w.heap.size ≤ j → D j) (hs : W2.heap.size = w.heap.size + 2) (hB0 : Below w.heap.size w W2) {k v : List UInt8} {q q' : Option Addr} {d d' g cap : Nat} (hk : IsD w3 (fun j => W2.heap.size ≤ j) q d k) (hb3 : Below W2.heap.size W2 w3)
    (hv : IsD w4 (fun j => W2.heap.size ≤ j) q' d' v) (hb4 : Below w3.heap.size w3 w4) (o : Obj) (hown : w5.ownsRow w.heap.size 61 2 (.slice (some ⟨g, 0, none⟩) 1 cap) 1 [.slice q k.length d, .slice q' v.length d']) (hg : (w4.alloc o).grownBy w5 (some w.heap.size)) :
    Own1R D k v w (.returned (.slice (some ⟨g, 0, none⟩) 1 cap)) w5 := by
  have ho : Off (fun j => W2.heap.size ≤ j) (some w.heap.size) := fun b e h => by cases e; have h' : W2.heap.size ≤ w.heap.size := h; omega
  have hn := (Below.refl w4.heap.size w4).alloc (Nat.le_refl _) o
  have hl := hown.lt g rfl
  have hcap : 1 ≤ cap := by
    rcases hown.2 with ⟨h, _⟩ | ⟨g', cap', cur, h, _, _, h1, _⟩
    · cases h
    · cases h; exact h1
  refine ⟨g, q, d, q', d', cap, rfl, hcap, ?_, ?_, ?_, ?_, ?_, hl.1⟩
  · have := hown.cells (g := g) rfl 0 (.slice q k.length d) rfl; simpa [Addr.add_lit] using this
  · have := hown.cells (g := g) rfl 1 (.slice q' v.length d') rfl; simpa [Addr.add_lit] using this
  · exact (((hk.below hb4).below hn).grown ho hg).mono fun j _ hj => hD j (by omega)
  · exact ((hv.below hn).grown ho hg).mono fun j _ hj => hD j (by omega)
  · have h1 := (hB0.trans (hb3.mono hB0.size)).trans (hb4.mono (Nat.le_trans hB0.size hb3.size))
    have h2 := h1.alloc h1.size o
    exact h2.grown hg h2.size (fun k e => by cases e; exact Nat.le_refl _)
set_option maxHeartbeats 2000000 in
set_option maxRecDepth 100000 in
theorem pairOwn1 (w : World) (D : Nat → Prop) (hD : ∀ j, w.heap.size ≤ j → D j) {b c : Nat} {kp vp : Option Addr} {kc vc : Nat} {k v : List UInt8} (c0 : w.cell? ⟨b, 0, none⟩ = some (.slice kp k.length kc)) (c1 : w.cell? ⟨b, 1, none⟩ = some (.slice vp v.length vc)) (hb : b < w.heap.size)
    (hk : IsB w kp kc k) (hv : IsB w vp vc v) (hkl : k.length ≤ 140737488355328) (hvl : v.length ≤ 140737488355328) :
    Calls Tryz.prog 105 #[.slice (some ⟨b, 0, none⟩) 1 c] w (Own1R D k v w) := by
  obtain ⟨i0, hi, hz0, hz1, hz2⟩ := info_parts info61
  obtain ⟨W2, hW2⟩ : ∃ x, x = (w.alloc (.cells #[.slice none 0 0, .slice none 0 0] 61)).alloc (.cells #[.slice kp k.length kc, .slice vp v.length vc] 61) := ⟨_, rfl⟩
  have hs : W2.heap.size = w.heap.size + 2 := by rw [hW2]; simp
  have hB0 : Below w.heap.size w W2 := by rw [hW2]; exact ((Below.refl _ w).alloc (Nat.le_refl _) _).alloc (by simp) _
  have r0 : W2.heap[w.heap.size]? = some (.cells #[.slice none 0 0, .slice none 0 0] 61) := by rw [hW2]; exact heap_alloc2_old _ _ _
  have r1 : W2.heap[w.heap.size + 1]? = some (.cells #[.slice kp k.length kc, .slice vp v.length vc] 61) := by rw [hW2]; exact heap_alloc2_new _ _ _
  have HC := Lib.hid (show ∀ w', W2.grownBy w' (some w.heap.size) → (w'.cell? ⟨w.heap.size + 1, 0, none⟩ = some (.slice kp k.length kc) ∧ w'.cell? ⟨w.heap.size + 1, 1, none⟩ = some (.slice vp v.length vc)) from fun w' hg => by
    have r1' := grown_row hg r1 (fun e => by injection e; omega)
    exact ⟨cell_of_row w' _ 0 _ _ (0, 0) r1', cell_of_row w' _ 1 _ _ (0, 0) r1'⟩)
  have CK := Lib.hid (show ∀ w', Below W2.heap.size W2 w' → Calls Tryz.prog 80 #[.slice kp k.length kc] w' _ from fun w' hb0 => clone_new w' W2 (fun j => W2.heap.size ≤ j) (fun _ h => h) hb0.size (hk.below (hB0.trans (hb0.mono (by omega)))) hkl)
  have CV := Lib.hid (show ∀ w', Below W2.heap.size W2 w' → Calls Tryz.prog 80 #[.slice vp v.length vc] w' _ from fun w' hb0 => clone_new w' W2 (fun j => W2.heap.size ≤ j) (fun _ h => h) hb0.size (hv.below (hB0.trans (hb0.mono (by omega)))) hvl)
  have HO := Lib.hid (fun (w4 : World) (hb : Below W2.heap.size W2 w4) (o : Obj) => own1_owns r0 hb o)
  have HF := Lib.hid (fun (w3 w4 w5 : World) (q q' : Option Addr) (d d' g cap : Nat) h1 h2 h3 h4 (o : Obj) => own1_fin (w := w) (W2 := W2) (w3 := w3) (w4 := w4) (w5 := w5) (D := D) (k := k) (v := v) (q := q) (q' := q') (d := d) (d' := d') (g := g) (cap := cap) hD hs hB0 h1 h2 h3 h4 o)
  have hBs := hB0.size
  have hs' : Hid (W2.heap.size = w.heap.size + 2) := hs
  clear hk hv hkl hvl hD r0 r1 hs hB0
  have hmk : ∀ w : World, (Instr.makeSlice 63 (.int .i64 0) (.int .i64 1)).run Tryz.prog w = .ok (.slice (some ⟨w.heap.size, 0, none⟩) 0 1) (w.alloc (.cells #[.slice none 0 0, .slice none 0 0] 61)) := fun _ => by kernel_rfl
  go_enter Tryz.func105, Tryz.ntmps105
  go_wp2_with fail
  refine wp_loop_rounds 2 ?_
  rw [rounds_succ]
  go_wp2_with fail
  rw [← hW2]
  clear hW2
  have hB1 := (Below.refl W2.heap.size W2).drew
  have hG1 := grown_of_below hB1 (some w.heap.size)
  go_region_held3 (fun w' => w'.cell? ⟨w.heap.size + 1, 0, none⟩ = some (.slice kp k.length kc) ∧ w'.cell? ⟨w.heap.size + 1, 1, none⟩ = some (.slice vp v.length vc))
    (first | exact HC.out _ (by assumption) | exact HC.out _ (grown_trans hG4 (World.grownBy_alloc _ _ _)) | fail)
    (first | (refine step_append_lies _ (by rfl) _ _ _ (by rfl) w.heap.size 61 i0 _ 2 48 Tryz.underlying63 hi hz0 hz1 hz2 rfl (by omega) _ 0 [] (by rfl) (HO.out _ hB4 _) ⟨w4.heap.size, 0, none⟩ 1 1 [.slice q3 k.length d3, .slice q4 v.length d4] (by rfl) (by rfl) (World.news_of_block (cs := #[.slice q3 k.length d3, .slice q4 v.length d4]) (t := 61) (fr := (0, 0)) (heap_alloc_new w4 _)) (by simp [Value.oneCell']) (by omega) (by unfold maxLen; decide) (by decide) (by have := hB4.size; simp; omega) _ rfl ?_; intro gg cap w5 hown5 hgrow5 hat hlt; have hG5 := grown_trans (grown_trans hG4 (World.grownBy_alloc _ _ _)) hgrow5; have HO5 := Lib.hid hown5; have HG5 := Lib.hid hgrow5; clear hown5 hgrow5 hat) | (go_at_call 80; first | (((with_reducible refine (CK.out _ hB1).mono ?_)); rintro e w3 ⟨q3, d3, rfl, hI3, hb3⟩; have hB3 := below_step hB1 hb3; have hG3 := grown_of_below hB3 (some w.heap.size); have HI3 := Lib.hid hI3; clear hI3 hb3) | (((with_reducible refine (CV.out _ hB3).mono ?_)); rintro e w4 ⟨q4, d4, rfl, hI4, hb4⟩; have hB4 := below_step hB3 hb4; have hG4 := grown_of_below hB4 (some w.heap.size); have HI4 := Lib.hid hI4; clear hI4) | fail) | fail)
  go_wp2
  rw [rounds_succ]
  go_wp2
  go_ret
  exact HF.out _ _ _ _ _ _ _ _ _ HI3.out hB3 HI4.out hb4 _ HO5.out HG5.out
end Go.Proofs.YtmbiiemlepfoaaaGreatDoor
