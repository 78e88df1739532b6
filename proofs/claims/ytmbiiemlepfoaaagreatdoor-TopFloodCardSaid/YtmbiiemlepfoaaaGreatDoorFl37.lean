/- The walk of the reference's Lay. -/
import Derived.Test.YtmbiiemlepfoaaaGreatDoorFl35
import Derived.Test.YtmbiiemlepfoaaaGreatDoorFl36

namespace Go.Proofs.YtmbiiemlepfoaaaGreatDoor
open Go.RowKit
set_option linter.unusedVariables false
theorem info_138 : (Tryz.prog.info? 138).map (·.size) = some 5 := by kernel_rfl
theorem row_138 : (Tryz.prog.underlying 138).map (·.isRow) = some true := by kernel_rfl
theorem putL_last {p : PairT} : ∀ {A : List PairT}, (∀ q ∈ A, Lib.compareBytes q.1 p.1 = -1) → putL p A = A ++ [p]
  | [], _ => rfl
  | q :: A, h => by
    unfold putL
    rw [if_pos (h q (by simp)), putL_last fun r hr => h r (by simp [hr])]
    rfl
theorem same_app (H : List UInt8 → Nat) (h : Nat) (A : List PairT) (a v : List UInt8) : sameR H h (A ++ [(a, v)]) = (sameR H h A && decide (H a = h)) := by simp [sameR]
abbrev set5 (w : World) (g : Nat) (v0 v1 v2 v3 v4 : Value) : World := ((((w.setCell ⟨g, 0, none⟩ v0).setCell ⟨g, 1, none⟩ v1).setCell ⟨g, 2, none⟩ v2).setCell ⟨g, 3, none⟩ v3).setCell ⟨g, 4, none⟩ v4
theorem set5_row {w : World} {g : Nat} {a0 a1 a2 a3 a4 : Value} (h : w.heap[g]? = some (.cells #[a0, a1, a2, a3, a4] 138)) (v0 v1 v2 v3 v4 : Value) : (set5 w g v0 v1 v2 v3 v4).heap[g]? = some (.cells #[v0, v1, v2, v3, v4] 138) := by
  have h1 := set_rowA (i := 0) (x := v0) h
  have h2 := set_rowA (i := 1) (x := v1) h1
  have h3 := set_rowA (i := 2) (x := v2) h2
  have h4 := set_rowA (i := 3) (x := v3) h3
  exact (set_rowA (i := 4) (x := v4) h4).trans rfl
theorem set5_other (w : World) {g k : Nat} (v0 v1 v2 v3 v4 : Value) (h : k ≠ g) : (set5 w g v0 v1 v2 v3 v4).heap[k]? = w.heap[k]? := by
  unfold set5
  rw [set_otherA (a := ⟨g, 4, none⟩) h, set_otherA (a := ⟨g, 3, none⟩) h, set_otherA (a := ⟨g, 2, none⟩) h, set_otherA (a := ⟨g, 1, none⟩) h, set_otherA (a := ⟨g, 0, none⟩) h]
theorem set5_size (w : World) (g : Nat) (v0 v1 v2 v3 v4 : Value) : (set5 w g v0 v1 v2 v3 v4).heap.size = w.heap.size := by
  unfold set5
  rw [set_sizeA, set_sizeA, set_sizeA, set_sizeA, set_sizeA]
theorem set5_below {n g : Nat} {w W : World} (h : Below n w W) (hn : n ≤ g) (v0 v1 v2 v3 v4 : Value) : Below n w (set5 W g v0 v1 v2 v3 v4) :=
  below_setA (below_setA (below_setA (below_setA (below_setA h (a := ⟨g, 0, none⟩) hn v0) (a := ⟨g, 1, none⟩) hn v1) (a := ⟨g, 2, none⟩) hn v2) (a := ⟨g, 3, none⟩) hn v3) (a := ⟨g, 4, none⟩) hn v4
theorem part_snoc (H : List UInt8 → Nat) (A : List PairT) (L c : Nat) (a v : List UInt8) : partL H (A ++ [(a, v)]) L c = partL H A L c ++ if chunkM (H a) L = c then [(a, v)] else [] := by
  unfold partL
  rw [List.filter_append]
  by_cases h : chunkM (H a) L = c <;> simp [h]
theorem range_snoc (P : Nat → Bool) (c : Nat) : (List.range (c + 1)).filter P = (List.range c).filter P ++ if P c then [c] else [] := by
  rw [List.range_succ, List.filter_append]
  cases h : P c <;> simp [h]
theorem part_any (H : List UInt8 → Nat) (X : List PairT) (L c : Nat) : (X.any fun p => decide (chunkM (H p.1) L = c)) = !(partL H X L c).isEmpty := by
  rw [Bool.eq_iff_iff]
  simp [partL]
theorem cell3_of {W : World} {b : Nat} {h : Nat} {a v : List UInt8} (r : W.heap[b]? = some (.cells #[.int .u64 (h : Int), .string (str a), .string (str v)] 238)) : W.cell? ⟨b, 0, none⟩ = some (.int .u64 (h : Int)) ∧ W.cell? ⟨b, 1, none⟩ = some (.string (str a)) ∧ W.cell? ⟨b, 2, none⟩ = some (.string (str v)) :=
  ⟨cell_of_row W _ 0 _ _ (0, 0) r, cell_of_row W _ 1 _ _ (0, 0) r, cell_of_row W _ 2 _ _ (0, 0) r⟩
def LayOk (H : List UInt8 → Nat) (f : Nat) : Prop := ∀ (x : List PairT) (L : Nat) (hL : L + f = 13) (w : World) {D D1 : Nat → Prop} (hD : ∀ j, w.heap.size ≤ j → D j) {p : Option Addr} {c : Nat} (hx : IsEs w D1 H p c x) (hn : x.length ≤ 1000000) (hs : ∀ y ∈ x, y.1.length ≤ 1000000) (ha : Asc x)
    (hag : ∀ y ∈ x, ∀ z ∈ x, ∀ j, j < L → chunkM (H y.1) j = chunkM (H z.1) j), Calls Tryz.prog 58 #[.slice p x.length c, .int .i64 (L : Int)] w (LayR D (layR H f x L) w)
set_option maxHeartbeats 8000000 in
set_option maxRecDepth 100000 in
theorem layStep {H : List UInt8 → Nat} (hh : ∀ k, H k < 18446744073709551616) (f : Nat) {y0 : PairT} {x0 X : List PairT} (hX : X = y0 :: x0) (L : Nat) (hL13 : L ≤ 13) (hbr : sameR H (H y0.1) X = false → L + (f + 1) = 13 ∧ LayOk H f) (w : World) {D D1 : Nat → Prop} (hD : ∀ j, w.heap.size ≤ j → D j) {p : Option Addr} {c : Nat} (hx : IsEs w D1 H p c X) (hn : X.length ≤ 1000000) (hs : ∀ y ∈ X, y.1.length ≤ 1000000) (ha : Asc X)
    (hag : ∀ y ∈ X, ∀ z ∈ X, ∀ j, j < L → chunkM (H y.1) j = chunkM (H z.1) j) : Calls Tryz.prog 58 #[.slice p X.length c, .int .i64 (L : Int)] w (LayR D (layR H (f + 1) X L) w) := by
  have hy0 : X[0]? = some y0 := by rw [hX]; rfl
  have HBR := Lib.hid hbr
  clear hbr
  obtain ⟨W1, hW1⟩ : ∃ z, z = w.alloc rn0 := ⟨_, rfl⟩
  have hz1 : W1.heap.size = w.heap.size + 1 := by rw [hW1]; simp
  have hB1 : Below w.heap.size w W1 := by rw [hW1]; exact (Below.refl _ w).alloc (Nat.le_refl _) _
  have r4 : W1.heap[w.heap.size]? = some rn0 := by rw [hW1]; exact heap_alloc_new _ _
  have hx1 := hx.below hB1
  obtain ⟨pb, po, rfl, hpl, hpd, hcell⟩ := hx1.cells (by have := (List.getElem?_eq_some_iff.1 hy0).1; omega)
  obtain ⟨N, hN⟩ : ∃ N, X.length = N := ⟨_, rfl⟩
  have hN0 : 0 < N := by have := (List.getElem?_eq_some_iff.1 hy0).1; omega
  obtain ⟨h0, hh0⟩ : ∃ z, z = H y0.1 := ⟨_, rfl⟩
  have c00 := (hcell 0 y0 hy0).1
  rw [← hh0] at c00
  simp only [Nat.zero_mul, Nat.add_zero] at c00
  rw [hN] at hn ⊢
  have HN := Lib.hid hN
  have HX := Lib.hid hX
  have HH0 := Lib.hid hh0
  have HE := Lib.hid hx1
  have HCELL := Lib.hid hcell
  have HD := Lib.hid hD
  have HS := Lib.hid hs
  have HA := Lib.hid ha
  have HAG := Lib.hid hag
  have HB1 := Lib.hid hB1
  have HZ1 := Lib.hid hz1
  have HR4 := Lib.hid r4
  have HPD := Lib.hid (And.intro hpl hpd)
  have C00 := Lib.hid (show ∀ w', Below W1.heap.size W1 w' → w'.cell? ⟨pb, po, none⟩ = some (.int .u64 (h0 : Int)) from fun w' hb => (hb.cell (p := ⟨pb, po, none⟩) hpl).trans c00)
  clear hx hx1 hcell hD hs ha hag hB1 hz1 r4 hpl hpd hN hX hh0 hy0 c00
  go_enter Tryz.func58, Tryz.ntmps58
  go_wp2_with fail
  rw [← hW1]
  clear hW1
  have gN : ((N : Int) == 0) = false := by simp; omega
  go_wp2
  simp only [gN]
  go_loopw [5, 6, 21] (fun v5 v6 v21 wr => ∃ (i : Nat) (A : List PairT) (b : Bool) (q : Option Addr) (d : Nat), v5 = .bool b ∧ v6 = .slice q A.length d ∧ v21 = .int .i64 (i : Int) ∧ i ≤ N ∧ IsRs wr (fun j => W1.heap.size ≤ j) q d A ∧ Below W1.heap.size W1 wr ∧ Hid (X.take i = A ∧ b = sameR H h0 A)) (fun _ _ v21 _ => N - (intOf v21).toNat)
  case atStart => exact ⟨0, [], true, none, 0, rfl, rfl, rfl, by omega, IsRs.none_ _ _, Below.refl _ _, Lib.hid ⟨rfl, rfl⟩⟩
  case round =>
    obtain ⟨i, A, b, q, d, rfl, rfl, rfl, hi, hr, hb, HI⟩ := hrel
    have HB := Lib.hid hb
    by_cases hlt : i < N
    · obtain ⟨⟨a, v⟩, hy⟩ : ∃ y, X[i]? = some y := ⟨_, List.getElem?_eq_getElem (by rw [HN.out]; exact hlt)⟩
      obtain ⟨e0, e1, e2⟩ := HCELL.out i (a, v) hy
      have cup : ∀ o u, W1.cell? ⟨pb, o, none⟩ = some u → wr.cell? ⟨pb, o, none⟩ = some u := fun o u h => (hb.cell (p := ⟨pb, o, none⟩) HPD.out.1).trans h
      have c0 := cup _ _ e0
      have c1 := cup _ _ e1
      have c2 := cup _ _ e2
      have htk : X.take (i + 1) = A ++ [(a, v)] := by rw [← HI.out.1, List.take_add_one, hy]; rfl
      have hput : putL (a, v) A = A ++ [(a, v)] := putL_last fun q hq => by
        have h1 : X = X.take (i + 1) ++ X.drop (i + 1) := (List.take_append_drop _ _).symm
        have h2 := HA.out
        rw [h1, htk, List.append_assoc] at h2
        exact (asc_app h2).1 q hq
      have hal : a.length ≤ 1000000 := HS.out _ (List.mem_of_getElem? hy)
      have hAl : A.length ≤ 1000000 := by rw [← HI.out.1, List.length_take]; omega
      have hAs : ∀ y ∈ A, y.1.length ≤ 1000000 := fun y hy' => HS.out y (by rw [← HI.out.1] at hy'; exact List.mem_of_mem_take hy')
      have hsm := same_app H h0 A a v
      rw [← HI.out.2] at hsm
      obtain ⟨W7, hW7⟩ : ∃ z, z = wr.alloc (.cells #[.int .u64 (H a : Int), .string (str a), .string (str v)] 238) := ⟨_, rfl⟩
      have hB7 : Below wr.heap.size wr W7 := by rw [hW7]; exact (Below.refl _ wr).alloc (Nat.le_refl _) _
      have r7 : W7.heap[wr.heap.size]? = some (.cells #[.int .u64 (H a : Int), .string (str a), .string (str v)] 238) := by rw [hW7]; exact heap_alloc_new _ _
      have f0 : W7.cell? ⟨wr.heap.size, 0, none⟩ = some (.int .u64 (H a : Int)) := cell_of_row W7 _ 0 _ _ (0, 0) r7
      have f1 : W7.cell? ⟨wr.heap.size, 1, none⟩ = some (.string (str a)) := cell_of_row W7 _ 1 _ _ (0, 0) r7
      have f2 : W7.cell? ⟨wr.heap.size, 2, none⟩ = some (.string (str v)) := cell_of_row W7 _ 2 _ _ (0, 0) r7
      have hb7 : Below W1.heap.size W1 W7 := hb.trans (hB7.mono hb.size)
      have HB7 := Lib.hid hb7
      have f3 := C00.out W7 hb7
      have CP := Lib.hid (show ∀ n, Calls Tryz.prog 56 #[.slice q A.length d, .agg #[.string (str a), .string (str v)]] (W7.drewN n) _ from fun n => ref04Put (W7.drewN n) (D := fun j => W1.heap.size ≤ j) (fun j hj => Nat.le_trans hb7.size hj) ((hr.below hB7).below (below_drewNA (Below.refl _ W7) n)) (by omega) hAs a v hal)
      rw [hput] at CP
      have HTK := Lib.hid htk
      have hlen : (A ++ [(a, v)]).length = A.length + 1 := by simp
      have g1 : (i : Int) < (N : Int) := by omega
      have HHa : Hid (H a = H a) := rfl
      generalize H a = g at *
      have HSM := Lib.hid hsm
      clear hy e0 e1 e2 cup htk hput hal hAl hAs hsm hr hb hB7 r7 hb7 HI
      cases b with
      | true =>
        by_cases hg : g = h0
        · have gd : ((g : Int) == (h0 : Int)) = true := by rw [hg]; simp
          have HG := Lib.hid hg
          clear hg
          go_wp2_with fail
          rw [← hW7]
          clear hW7
          go_quiet (fail)
          go_wp2_with first
            | (go_at_call 56; ((with_reducible refine (CP.out _).mono ?_)); rintro e w8 ⟨q8, c8, rfl, hr8, hb8⟩; have HR8 := Lib.hid hr8; have HB8 := Lib.hid hb8; clear hr8 hb8)
            | fail
          go_roundw
          case rel =>
            refine ⟨i + 1, A ++ [(a, v)], true, q8, c8, rfl, congrArg (fun z => Value.slice q8 z c8) hlen.symm, congrArg (Value.int .i64) (by omega), by omega, HR8.out, ?_, Lib.hid ⟨HTK.out, by rw [HSM.out, HG.out]; simp⟩⟩
            exact HB7.out.trans (((below_drewNA (Below.refl _ W7) _).trans HB8.out).mono HB7.out.size)
          case measure => simp [intOf]; omega
        · have gd : ((g : Int) == (h0 : Int)) = false := by simp; omega
          have HG := Lib.hid hg
          clear hg
          go_wp2_with fail
          rw [← hW7]
          clear hW7
          go_quiet (fail)
          go_wp2_with first
            | (go_at_call 56; ((with_reducible refine (CP.out _).mono ?_)); rintro e w8 ⟨q8, c8, rfl, hr8, hb8⟩; have HR8 := Lib.hid hr8; have HB8 := Lib.hid hb8; clear hr8 hb8)
            | fail
          go_roundw
          case rel =>
            refine ⟨i + 1, A ++ [(a, v)], false, q8, c8, rfl, congrArg (fun z => Value.slice q8 z c8) hlen.symm, congrArg (Value.int .i64) (by omega), by omega, HR8.out, ?_, Lib.hid ⟨HTK.out, by rw [HSM.out, decide_eq_false HG.out]; simp⟩⟩
            exact HB7.out.trans (((below_drewNA (Below.refl _ W7) _).trans HB8.out).mono HB7.out.size)
          case measure => simp [intOf]; omega
      | false =>
        go_wp2_with fail
        rw [← hW7]
        clear hW7
        go_quiet (fail)
        go_wp2_with first
          | (go_at_call 56; ((with_reducible refine (CP.out _).mono ?_)); rintro e w8 ⟨q8, c8, rfl, hr8, hb8⟩; have HR8 := Lib.hid hr8; have HB8 := Lib.hid hb8; clear hr8 hb8)
          | fail
        go_roundw
        case rel =>
          refine ⟨i + 1, A ++ [(a, v)], false, q8, c8, rfl, congrArg (fun z => Value.slice q8 z c8) hlen.symm, congrArg (Value.int .i64) (by omega), by omega, HR8.out, ?_, Lib.hid ⟨HTK.out, by rw [HSM.out]; simp⟩⟩
          exact HB7.out.trans (((below_drewNA (Below.refl _ W7) _).trans HB8.out).mono HB7.out.size)
        case measure => simp [intOf]; omega
    · have hiN : i = N := by omega
      subst hiN
      obtain ⟨hA, hbS⟩ := HI.out
      rw [List.take_of_length_le (Nat.le_of_eq HN.out)] at hA
      subst hA
      have g1 : ¬ (i : Int) < (i : Int) := by omega
      have f3 := C00.out wr hb
      have hR4 : wr.heap[w.heap.size]? = some rn0 := (hb.block w.heap.size (by rw [HZ1.out]; omega)).trans HR4.out
      have HR4' := Lib.hid hR4
      have HR := Lib.hid hr
      have HBS := Lib.hid hbS
      have HWB : Hid (Below w.heap.size w wr) := HB1.out.trans (hb.mono HB1.out.size)
      clear hr hb hbS hR4 HI
      cases b with
      | true =>
        have key : ∀ (kind : Nat), kind = (if i = 1 then 1 else 2) → ∀ W', (∀ k, k ≠ w.heap.size → W'.heap[k]? = wr.heap[k]?) → wr.heap.size ≤ W'.heap.size → RN.At W' D (layR H (f + 1) X L) [.int .i64 (kind : Int), .int .u64 (h0 : Int), .slice q X.length d, .slice none 0 0, .slice none 0 0] := by
          intro kind hk W' hkeep hsz
          subst hk
          have hlen := HN.out
          have hsame := HBS.out
          have hx := HX.out
          subst hx
          rw [layR_same _ _ (by rw [← HH0.out]; exact hsame.symm), ← HH0.out, hlen]
          unfold RN.At
          refine ⟨q, d, none, 0, none, 0, [], by rw [hlen]; rfl, ?_, IsVs.none_ _ _, IsKs.none_ _ _, by unfold RN.Ats; rfl⟩
          exact (HR.out.keep hsz fun k hk hd => hkeep k (by have := HZ1.out; omega)).mono fun k hk hd => HD.out k (by have := HZ1.out; omega)
        have KEY := Lib.hid key
        clear key
        have k0 := cell_of_row wr _ 0 _ _ (0, 0) HR4'.out
        have k1 := cell_of_row wr _ 1 _ _ (0, 0) HR4'.out
        have k2 := cell_of_row wr _ 2 _ _ (0, 0) HR4'.out
        have k3 := cell_of_row wr _ 3 _ _ (0, 0) HR4'.out
        have k4 := cell_of_row wr _ 4 _ _ (0, 0) HR4'.out
        have z0 := frozen_of_row wr w.heap.size 0 _ _ HR4'.out
        have z1 := frozen_of_row wr w.heap.size 1 _ _ HR4'.out
        have z2 := frozen_of_row wr w.heap.size 2 _ _ HR4'.out
        have z3 := frozen_of_row wr w.heap.size 3 _ _ HR4'.out
        have z4 := frozen_of_row wr w.heap.size 4 _ _ HR4'.out
        by_cases h1 : i = 1
        · subst h1
          go_wp2
          refine bodyPost_ret (results_row1 rfl _ _ w.heap.size 138 [.int .i64 1, .int .u64 (h0 : Int), .slice q X.length d, .slice none 0 0, .slice none 0 0] (0, 0) rfl (set5_row HR4'.out _ _ _ _ _) row_138 (by rw [info_138]; rfl)) rfl ⟨_, rfl, ?_, set5_below HWB.out (Nat.le_refl _) _ _ _ _ _⟩
          exact KEY.out 1 (by simp) _ (fun k hk => set5_other _ _ _ _ _ _ hk) (by rw [set5_size]; exact Nat.le_refl _)
        · have g2 : ((i : Int) == 1) = false := by simp; omega
          go_wp2
          refine bodyPost_ret (results_row1 rfl _ _ w.heap.size 138 [.int .i64 2, .int .u64 (h0 : Int), .slice q X.length d, .slice none 0 0, .slice none 0 0] (0, 0) rfl (set5_row HR4'.out _ _ _ _ _) row_138 (by rw [info_138]; rfl)) rfl ⟨_, rfl, ?_, set5_below HWB.out (Nat.le_refl _) _ _ _ _ _⟩
          exact KEY.out 2 (by simp [h1]) _ (fun k hk => set5_other _ _ _ _ _ _ hk) (by rw [set5_size]; exact Nat.le_refl _)
      | false =>
        obtain ⟨hL, IH⟩ := HBR.out (by rw [← HH0.out]; exact HBS.out.symm)
        obtain ⟨W9, hW9⟩ : ∃ z, z = wr.alloc (rn3 none 0 0 none 0 0) := ⟨_, rfl⟩
        have hz9 : W9.heap.size = wr.heap.size + 1 := by rw [hW9]; simp
        have hB9 : Below wr.heap.size wr W9 := by rw [hW9]; exact (Below.refl _ wr).alloc (Nat.le_refl _) _
        have r9 : W9.heap[wr.heap.size]? = some (rn3 none 0 0 none 0 0) := by rw [hW9]; exact heap_alloc_new _ _
        obtain ⟨b9, hb9⟩ : ∃ z, z = wr.heap.size := ⟨_, rfl⟩
        have L0 : Hid (LayS W9 b9 [] [] none 0 none 0 [] W9) := ⟨by rw [hb9]; exact r9, World.ownsRow_nil _ _ _ _, World.ownsRow_nil _ _ _ _, by unfold RN.Ats; rfl, ⟨rfl, rfl, rfl, Nat.le_refl _, fun _ _ _ => rfl⟩, by omega⟩
        have HW9 : Hid (Below w.heap.size w W9) := HWB.out.trans (hB9.mono HWB.out.size)
        have HB9 : Hid (Below W1.heap.size W1 W9) := HB.out.trans (hB9.mono HB.out.size)
        have HE9 := Lib.hid (show ∀ w', W9.grownBy w' (some b9) → ∀ o u, W1.cell? ⟨pb, o, none⟩ = some u → w'.cell? ⟨pb, o, none⟩ = some u from fun w' hg o u hu => by
          have h1 := HPD.out.1
          have h2 := HB9.out.size
          have h3 := HB.out.size
          refine Eq.trans ?_ ((HB9.out.cell (p := ⟨pb, o, none⟩) h1).trans hu)
          exact World.cell?_of_block (hg.block pb (by omega) (fun e => by injection e with e; omega)))
        have HR9 : Hid (W9.heap[w.heap.size]? = some rn0) := (hB9.block w.heap.size (by have := row_ltT HR4'.out; exact this)).trans HR4'.out
        have HBW := Lib.hid (show w.heap.size < b9 from by have := row_ltT HR4'.out; omega)
        have hL13 : L < 13 := by omega
        have q9 := fun (h : Nat) (w : World) => show (Instr.index 239 (.agg (wayA h 13).toArray) (.int .i64 (L : Int))).run Tryz.prog w = .ok (.int .i64 (chunkM h L : Int)) w from index239 hL13 w
        go_wp2_with fail
        rw [← hW9, ← hb9]
        clear hW9 hz9 hB9 r9 hb9
        go_wp2
        have gn : Hid (X.length = i) := HN
        clear hi hlt g1 f3
        generalize i = n at *
        obtain ⟨P, hP⟩ : ∃ P : Nat → Bool, P = fun c => X.any fun p => decide (chunkM (H p.1) L = c) := ⟨_, rfl⟩
        obtain ⟨R, hR⟩ : ∃ R : Nat → RN, R = fun c => layR H f (partL H X L c) (L + 1) := ⟨_, rfl⟩
        have HP := Lib.hid hP
        have HRR := Lib.hid hR
        clear hP hR
        go_loopw [11] (fun v11 wr => ∃ (k : Nat) (S : List Nat) (K : List RN) (sp : Option Addr) (sc : Nat) (kp : Option Addr) (kc : Nat) (cs : List Value), v11 = .int .i64 (k : Int) ∧ k ≤ 32 ∧ Hid (LayS W9 b9 S K sp sc kp kc cs wr) ∧ Hid (S = (List.range k).filter P ∧ K = S.map R)) (fun v11 _ => 32 - (intOf v11).toNat)
        case atStart => exact ⟨0, [], [], none, 0, none, 0, [], rfl, by omega, L0, Lib.hid ⟨rfl, rfl⟩⟩
        case round =>
          obtain ⟨k, S, K, sp, sc, kp, kc, cs, rfl, hk, HL, HS2⟩ := hrel
          by_cases hk32 : k < 32
          · have g1 : (k : Int) < 32 := by omega
            go_wp2_with fail
            generalize wr = wA at *
            go_loopw [12, 58] (fun v12 v58 wr => ∃ (i : Nat) (A : List PairT) (q : Option Addr) (d : Nat), v12 = .slice q A.length d ∧ v58 = .int .i64 (i : Int) ∧ i ≤ n ∧ A.length ≤ i ∧ wr.ownsRow wA.heap.size 238 3 (.slice q A.length d) A.length (cellsE H A) ∧ Below wA.heap.size wA wr ∧ Hid (partL H (X.take i) L k = A)) (fun _ v58 _ => n - (intOf v58).toNat)
            case atStart => exact ⟨0, [], none, 0, rfl, rfl, by omega, Nat.le_refl _, World.ownsRow_nil _ _ _ _, Below.refl _ _, rfl⟩
            case round =>
              obtain ⟨i, A, q, d, rfl, rfl, hi, hAi, how, hb, HI⟩ := hrel
              by_cases hlt : i < n
              · obtain ⟨⟨a, v⟩, hy⟩ : ∃ y, X[i]? = some y := ⟨_, List.getElem?_eq_getElem (by rw [HN.out]; exact hlt)⟩
                obtain ⟨e0, e1, e2⟩ := HCELL.out i (a, v) hy
                have hgr : W9.grownBy wr (some b9) := grown_trans HL.out.grown ⟨hb.os, hb.tape, hb.output, hb.size, fun k hk _ => hb.block k hk⟩
                have c0 := HE9.out wr hgr _ _ e0
                have c1 := HE9.out wr hgr _ _ e1
                have c2 := HE9.out wr hgr _ _ e2
                have htk : X.take (i + 1) = X.take i ++ [(a, v)] := by rw [List.take_add_one, hy]; rfl
                have hpt := part_snoc H (X.take i) L k a v
                rw [← htk, HI.out] at hpt
                have hgl := hh a
                obtain ⟨W7, hW7⟩ : ∃ z, z = wr.alloc (.cells #[.int .u64 (H a : Int), .string (str a), .string (str v)] 238) := ⟨_, rfl⟩
                have hz7 : W7.heap.size = wr.heap.size + 1 := by rw [hW7]; simp
                have hB7 : Below wr.heap.size wr W7 := by rw [hW7]; exact (Below.refl _ wr).alloc (Nat.le_refl _) _
                have r7 : W7.heap[wr.heap.size]? = some (.cells #[.int .u64 (H a : Int), .string (str a), .string (str v)] 238) := by rw [hW7]; exact heap_alloc_new _ _
                have f0 : W7.cell? ⟨wr.heap.size, 0, none⟩ = some (.int .u64 (H a : Int)) := cell_of_row W7 _ 0 _ _ (0, 0) r7
                have CWy := Lib.hid (fun w => ref06Way w (H a) hgl)
                have HOW7 : Hid (W7.ownsRow wA.heap.size 238 3 (.slice q A.length d) A.length (cellsE H A)) := own_belowA how hB7
                have HB7 : Hid (Below wA.heap.size wA W7) := hb.trans (hB7.mono hb.size)
                have g1' : (i : Int) < (n : Int) := by omega
                have HR7 := Lib.hid r7
                have hew : entV H (a, v) = [.int .u64 (H a : Int), .string (str a), .string (str v)] := rfl
                have HEW := Lib.hid hew
                have hAl : A.length ≤ 100000000 := by omega
                generalize H a = g at *
                have HPT := Lib.hid hpt
                clear hy e0 e1 e2 hgr htk hpt hgl hB7 r7 how hb HI hew
                by_cases hc : chunkM g L = k
                · have gd : ((chunkM g L : Int) == (k : Int)) = true := by rw [hc]; simp
                  have HC := Lib.hid hc
                  clear hc
                  go_wp2_with fail
                  rw [← hW7]
                  clear hW7
                  go_wp2_with first
                    | (go_at_call 111; ((with_reducible refine (CWy.out _).mono ?_)); rintro e w8 ⟨rfl, hb8⟩; have HOW8 : Hid (w8.ownsRow wA.heap.size 238 3 (.slice q A.length d) A.length (cellsE H A)) := own_belowA HOW7.out hb8; have HB8 : Hid (Below wA.heap.size wA w8) := HB7.out.trans (hb8.mono HB7.out.size); obtain ⟨k0, k1, k2⟩ := cell3_of ((hb8.block wr.heap.size (by omega)).trans HR7.out); clear hb8)
                    | (at_builtin; refine wpList_appNew st140 [.int .u64 (g : Int), .string (str a), .string (str v)] rfl _ _ rfl rfl _ rfl (by simp) HOW8 HB8 (Nat.le_refl _) rfl (ent_one g a v) (by omega) (by decide) ?_; intro qa ca wb HOb HBb HKb)
                    | fail
                  go_roundw
                  case rel =>
                    have hlen : (A ++ [(a, v)]).length = A.length + 1 := by simp
                    refine ⟨i + 1, A ++ [(a, v)], qa, ca, congrArg (fun z => Value.slice qa z ca) hlen.symm, congrArg (Value.int .i64) (by omega), by omega, by omega, ?_, HBb.out, Lib.hid (by rw [HPT.out, if_pos HC.out])⟩
                    have := HOb.out
                    rw [hlen, cellsE_append, show cellsE H [(a, v)] = [.int .u64 (g : Int), .string (str a), .string (str v)] from by unfold cellsE; simp [HEW.out]]
                    exact this
                  case measure => simp [intOf]; omega
                · have gd : ((chunkM g L : Int) == (k : Int)) = false := by simp; omega
                  have HC := Lib.hid hc
                  clear hc
                  go_wp2_with fail
                  rw [← hW7]
                  clear hW7
                  go_wp2_with first
                    | (go_at_call 111; ((with_reducible refine (CWy.out _).mono ?_)); rintro e w8 ⟨rfl, hb8⟩; have HOW8 : Hid (w8.ownsRow wA.heap.size 238 3 (.slice q A.length d) A.length (cellsE H A)) := own_belowA HOW7.out hb8; have HB8 : Hid (Below wA.heap.size wA w8) := HB7.out.trans (hb8.mono HB7.out.size); obtain ⟨k0, k1, k2⟩ := cell3_of ((hb8.block wr.heap.size (by omega)).trans HR7.out); clear hb8)
                    | fail
                  go_roundw
                  case rel => exact ⟨i + 1, A, q, d, rfl, congrArg (Value.int .i64) (by omega), by omega, by omega, HOW8.out, HB8.out, Lib.hid (by rw [HPT.out, if_neg HC.out, List.append_nil])⟩
                  case measure => simp [intOf]; omega
              · have hin : i = n := by omega
                subst hin
                have hA : partL H X L k = A := by rw [← HI.out, List.take_of_length_le (Nat.le_of_eq HN.out)]
                have g1 : ¬ (i : Int) < (i : Int) := by omega
                have HLr : Hid (LayS W9 b9 S K sp sc kp kc cs wr) := HL.out.below hb
                have hpk : P k = !A.isEmpty := by rw [HP.out, ← hA]; exact part_any H X L k
                have hsn := range_snoc P k
                rw [← HS2.out.1, hpk] at hsn
                have HSN := Lib.hid hsn
                have HAA := Lib.hid hA
                have HOW := Lib.hid how
                clear hA hpk hsn how HI
                rcases Nat.eq_zero_or_pos A.length with hA0 | hA0
                · obtain rfl : A = [] := List.eq_nil_of_length_eq_zero hA0
                  clear hA0
                  go_wp2
                  go_roundw
                  case rel => exact ⟨k + 1, S, K, sp, sc, kp, kc, cs, congrArg (Value.int .i64) (by omega), by omega, HLr, Lib.hid ⟨by rw [HSN.out]; simp, HS2.out.2⟩⟩
                  case measure => simp [intOf]; omega
                · have hne : A.isEmpty = false := by cases A with | nil => cases hA0 | cons => rfl
                  rw [hne] at HSN
                  clear hne
                  have gA : (0 : Int) < (A.length : Int) := by omega
                  have d3 : wr.cell? ⟨b9, 3, none⟩ = some (.slice sp S.length sc) := cell_of_row wr _ 3 _ _ (0, 0) HLr.out.row
                  have hSl : S.length ≤ 100000000 := by
                    have h1 := HS2.out.1
                    have h2 : S.length ≤ (List.range k).length := by rw [h1]; exact List.length_filter_le _ _
                    rw [List.length_range] at h2
                    omega
                  have hKl : K.length ≤ 100000000 := by rw [HS2.out.2, List.length_map]; exact hSl
                  obtain ⟨WB, hWB⟩ : ∃ z, z = wr.alloc (.cells #[.int .i64 (k : Int)] 3) := ⟨_, rfl⟩
                  have hBB : Below wr.heap.size wr WB := by rw [hWB]; exact (Below.refl _ wr).alloc (Nat.le_refl _) _
                  have rB : WB.heap[wr.heap.size]? = some (.cells #[.int .i64 (k : Int)] 3) := by rw [hWB]; exact heap_alloc_new _ _
                  have HLB : Hid (LayS W9 b9 S K sp sc kp kc cs WB) := HLr.out.below hBB
                  have HSB : Hid (WB.ownsRow W9.heap.size 3 1 (.slice sp S.length sc) S.length (S.map ivR)) := HLB.out.set
                  have hzB : W9.heap.size ≤ WB.heap.size := HLB.out.grown.size
                  have RB := Lib.hid rB
                  have HZB := Lib.hid hzB
                  have HBBx := Lib.hid hBB
                  clear rB hzB hBB
                  go_wp2_with first
                    | (at_builtin; rw [← hWB]; refine wpList_appX st32 [.int .i64 (k : Int)] rfl _ _ rfl rfl _ rfl RB.out HSB HZB.out rfl (by simp [Value.oneCell']) hSl (by decide) ?_; intro s7 x7 w7 HA7; have rw7 := HLB.out.rowSet HA7.out; have d7 : w7.cell? ⟨b9, 3, none⟩ = some (.slice sp S.length sc) := cell_of_row w7 _ 3 _ _ (0, 0) rw7; have f7 : w7.frozen? ⟨b9, 3, none⟩ = false := frozen_of_row w7 b9 3 _ _ rw7; clear rw7)
                    | fail
                  obtain ⟨W10, hW10⟩ : ∃ z, z = w7.setCell ⟨b9, 3, none⟩ (.slice s7 (S.length + 1) x7) := ⟨_, rfl⟩
                  have HL10 : Hid (LayS W9 b9 (S ++ [k]) K s7 x7 kp kc cs W10) := by
                    rw [hW10]
                    refine LayS.setApp HLB.out ?_
                    exact HA7.out
                  have how10 : W10.ownsRow wA.heap.size 238 3 (.slice q A.length d) A.length (cellsE H A) := by
                    have h1 := own_belowA HOW.out HBBx.out
                    have hgr := HA7.out.grow
                    have hlo : ∀ b, blk q = some b → wA.heap.size ≤ b := fun b e => (own_row HOW.out e).1
                    have h2 := h1.kept hgr (by
                      rw [own_blk, own_blk]
                      refine (Classical.em (blk q = none)).imp id fun hq e => ?_
                      obtain ⟨b, hb⟩ := Option.ne_none_iff_exists'.1 hq
                      have := hlo b hb
                      have := (own_row HL.out.set (e ▸ hb)).2.1
                      omega)
                    rw [hW10]
                    refine h2.kept (row := some b9) ⟨rfl, rfl, rfl, by rw [set_sizeA]; exact Nat.le_refl _, fun j _ hj => set_otherA (a := ⟨b9, 3, none⟩) fun e => hj (by rw [e])⟩ ?_
                    rw [own_blk]
                    refine (Classical.em (blk q = none)).imp id fun hq e => ?_
                    have := hlo b9 e
                    have := HL.out.grown.size
                    have := HL.out.lt
                    omega
                  have HOW10 := Lib.hid how10
                  have CK := Lib.hid (show ∀ w', Below W10.heap.size W10 w' → Calls Tryz.prog 58 #[.slice q A.length d, .int .i64 ((L : Int) + 1)] w' (fun e w'' => ∃ kd hs pp pn pc sp' sn sc' kp' kn kc', e = .returned (.agg #[.int .i64 kd, .int .u64 hs, .slice pp pn pc, .slice sp' sn sc', .slice kp' kn kc']) ∧ RN.At w'' (fun j => w'.heap.size ≤ j) (R k) [.int .i64 kd, .int .u64 hs, .slice pp pn pc, .slice sp' sn sc', .slice kp' kn kc'] ∧ Below w'.heap.size w' w'') from fun w' hb' => by
                    have r := IH A (L + 1) (by omega) w' (D := fun j => w'.heap.size ≤ j) (D1 := fun _ => True) (fun _ h => h) (IsEs.own (H := H) (fun _ _ => trivial) (own_belowA HOW10.out hb')) (by omega) (fun y hy => HS.out y (by rw [← HAA.out] at hy; exact (mem_part.1 hy).1)) (by rw [← HAA.out]; exact part_asc HA.out L k) (fun y hy z hz j hj => by
                      rw [← HAA.out] at hy hz
                      rcases Nat.lt_or_ge j L with h | h
                      · exact HAG.out y (mem_part.1 hy).1 z (mem_part.1 hz).1 j h
                      · obtain rfl : j = L := by omega
                        exact (mem_part.1 hy).2.trans (mem_part.1 hz).2.symm)
                    rw [show ((L + 1 : Nat) : Int) = (L : Int) + 1 from by omega] at r
                    refine r.mono ?_
                    rintro e w'' ⟨vs, rfl, hr, hb''⟩
                    rw [show layR H f A (L + 1) = R k from by rw [HRR.out]; show _ = layR H f (partL H X L k) (L + 1); rw [HAA.out]] at hr
                    have hr' := hr
                    match hRk : R k, hr with
                    | .mk kd hs ps st kd', hr =>
                      unfold RN.At at hr
                      obtain ⟨pp, pc, sp', sc', kp', kc', cs', rfl, _⟩ := hr
                      rw [hRk] at hr'
                      exact ⟨_, _, _, _, _, _, _, _, _, _, _, rfl, hr', hb''⟩)
                  have e4 : W10.cell? ⟨b9, 4, none⟩ = some (.slice kp K.length kc) := cell_of_row W10 _ 4 _ _ (0, 0) HL10.out.row
                  have g5 : IntKind.i64.wrap ((L : Int) + 1) = (L : Int) + 1 := IntWalk.i64_in _ (by omega)
                  rw [← hW10]
                  clear hW10 how10 d3 d7 f7
                  have hHeld : W10.drew.cell? ⟨b9, 4, none⟩ = some (.slice kp K.length kc) := e4
                  refine wp_region_heldL (S := fun w' : World => w'.cell? ⟨b9, 4, none⟩ = some (.slice kp K.length kc)) (by kernel_rfl) ?_
                  (refine wpAnyL_take (i := 0) (oi := ⟨some 83, _, _, _, _, _⟩) (v := .pointer (some ⟨b9, 4, none⟩)) rfl (by kernel_rfl) (by kernel_rfl) (by kernel_rfl) (fun _ _ _ h => h) (Or.inl ⟨by rfl, by intro w' hSw; obtain z0 := hSw; go_simp⟩) hHeld ?_; try simp only [Act.put, List.setIfInBounds_toArray, List.set_cons_zero, List.set_cons_succ])
                  (refine wpAnyL_take (i := 1) (oi := ⟨some 84, _, _, _, _, _⟩) (v := .slice kp K.length kc) rfl (by kernel_rfl) (by kernel_rfl) (by kernel_rfl) (fun _ _ _ h => h) (Or.inl ⟨by rfl, by intro w' hSw; obtain z0 := hSw; go_simp⟩) hHeld ?_; try simp only [Act.put, List.setIfInBounds_toArray, List.set_cons_zero, List.set_cons_succ])
                  (refine wpAnyL_take (i := 2) (oi := ⟨some 85, _, _, _, _, _⟩) (v := .slice q A.length d) rfl (by kernel_rfl) (by kernel_rfl) (by kernel_rfl) (fun _ _ _ h => h) (Or.inl ⟨by rfl, by intro w' hSw; obtain z0 := hSw; go_simp⟩) hHeld ?_; try simp only [Act.put, List.setIfInBounds_toArray, List.set_cons_zero, List.set_cons_succ])
                  (refine wpAnyL_take (i := 3) (oi := ⟨some 86, _, _, _, _, _⟩) (v := .int .i64 (L : Int)) rfl (by kernel_rfl) (by kernel_rfl) (by kernel_rfl) (fun _ _ _ h => h) (Or.inl ⟨by rfl, by intro w' hSw; obtain z0 := hSw; go_simp⟩) hHeld ?_; try simp only [Act.put, List.setIfInBounds_toArray, List.set_cons_zero, List.set_cons_succ])
                  (refine wpAnyL_take (i := 4) (oi := ⟨some 87, _, _, _, _, _⟩) (v := .int .i64 ((L : Int) + 1)) rfl (by kernel_rfl) (by kernel_rfl) (by kernel_rfl) (fun _ _ _ h => h) (Or.inl ⟨by rfl, by intro w' hSw; obtain z0 := hSw; go_simp⟩) hHeld ?_; try simp only [Act.put, List.setIfInBounds_toArray, List.set_cons_zero, List.set_cons_succ])
                  (refine wpAnyL_one (i := 5) (o := ⟨some 88, _, _, _, _, _⟩) rfl (by kernel_rfl) (fun K' hK => ?_); rw [if_pos (by rfl)])
                  go_simp
                  (go_at_call 58; ((with_reducible refine (CK.out _ (Below.refl _ W10).drew).mono ?_)); rintro e w11 ⟨kd, hs, pp, pn, pc, sp', sn, sc', kp', kn, kc', rfl, hr11, hb11⟩; have HR11 := Lib.hid hr11; have HB11 := Lib.hid ((below_drewA (Below.refl W10.heap.size W10)).trans hb11); clear hr11 hb11)
                  go_wp2_with fail
                  have HL11 : Hid (LayS W9 b9 (S ++ [k]) K s7 x7 kp kc cs w11) := HL10.out.below HB11.out
                  (have hHeld := (cell_of_row w11 _ 4 _ _ (0, 0) HL11.out.row); refine hK.out _ _ (.inl hHeld) ?_; clear hK K'; try simp only [Act.put, List.setIfInBounds_toArray, List.set_cons_zero, List.set_cons_succ])
                  (refine wpAnyL_one (i := 6) (o := ⟨some 89, _, _, _, _, _⟩) rfl (by kernel_rfl) (fun K' hK => ?_); rw [if_pos (by rfl)])
                  go_simp
                  obtain ⟨W12, hW12⟩ : ∃ z, z = w11.alloc (.cells #[.int .i64 kd, .int .u64 hs, .slice pp pn pc, .slice sp' sn sc', .slice kp' kn kc'] 138) := ⟨_, rfl⟩
                  have hB12 : Below w11.heap.size w11 W12 := by rw [hW12]; exact (Below.refl _ w11).alloc (Nat.le_refl _) _
                  have r12 : W12.heap[w11.heap.size]? = some (.cells #[.int .i64 kd, .int .u64 hs, .slice pp pn pc, .slice sp' sn sc', .slice kp' kn kc'] 138) := by rw [hW12]; exact heap_alloc_new _ _
                  have HL12 : Hid (LayS W9 b9 (S ++ [k]) K s7 x7 kp kc cs W12) := HL11.out.below hB12
                  have HB12 := Lib.hid hB12
                  have R12 := Lib.hid r12
                  rw [← hW12]
                  clear hW12 hB12 r12
                  (have hHeld := (cell_of_row W12 _ 4 _ _ (0, 0) HL12.out.row); refine hK.out _ _ (.inl hHeld) ?_; clear hK K'; try simp only [Act.put, List.setIfInBounds_toArray, List.set_cons_zero, List.set_cons_succ])
                  (refine wpAnyL_one (i := 7) (o := ⟨some 90, _, _, _, _, _⟩) rfl (by kernel_rfl) (fun K' hK => ?_); rw [if_pos (by rfl)])
                  refine oper_of_list (ops := #[]) rfl ?_
                  refine wpList_appX st136 [.int .i64 kd, .int .u64 hs, .slice pp pn pc, .slice sp' sn sc', .slice kp' kn kc'] rfl _ _ rfl rfl _ rfl R12.out (Lib.hid HL12.out.kid) HL12.out.grown.size rfl (by simp [Value.oneCell']) hKl (by decide) ?_
                  intro p14 c14 w14 HA14
                  show K' _ _
                  have r14 := HL12.out.rowKid HA14.out
                  have e14 : w14.cell? ⟨b9, 4, none⟩ = some (.slice kp K.length kc) := cell_of_row w14 _ 4 _ _ (0, 0) r14
                  have f14 : w14.frozen? ⟨b9, 4, none⟩ = false := frozen_of_row w14 b9 4 _ _ r14
                  clear r14
                  (have hHeld := e14; refine hK.out _ _ (.inl hHeld) ?_; clear hK K'; try simp only [Act.put, List.setIfInBounds_toArray, List.set_cons_zero, List.set_cons_succ])
                  (refine wpAnyL_take (i := 8) (oi := ⟨some 91, _, _, _, _, _⟩) (v := .pointer (some ⟨b9, 4, none⟩)) rfl (by kernel_rfl) (by kernel_rfl) (by kernel_rfl) (fun _ _ _ h => h) (Or.inl ⟨by rfl, by intro w' hSw; obtain z0 := hSw; go_simp⟩) hHeld ?_; try simp only [Act.put, List.setIfInBounds_toArray, List.set_cons_zero, List.set_cons_succ])
                  (refine wpAnyL_one (i := 9) (o := ⟨none, _, _, _, _, _⟩) rfl (by kernel_rfl) (fun K' hK => ?_); rw [if_pos (by rfl)])
                  go_simp
                  (refine hK.out _ _ (.inr (by kernel_rfl)) ?_; clear hK K'; refine wpAnyL_done (by kernel_rfl) ?_ _)
                  have HLF : Hid (LayS W9 b9 (S ++ [k]) (K ++ [R k]) s7 x7 p14 c14 (cs ++ [.int .i64 kd, .int .u64 hs, .slice pp pn pc, .slice sp' sn sc', .slice kp' kn kc']) (w14.setCell ⟨b9, 4, none⟩ (.slice p14 (K.length + 1) c14))) := by
                    refine LayS.kidApp HL12.out ((HR11.out.below HB12.out).mono fun j hj hd => ?_) HA14.out
                    have h1 : W10.heap.size ≤ j := hd
                    refine ⟨Nat.le_trans HL10.out.grown.size h1, fun e => ?_, fun e => ?_⟩
                    · have := (own_row HL10.out.set e).2.1; omega
                    · have := (own_row HL10.out.kid e).2.1; omega
                  clear e14 f14
                  go_wp2
                  go_roundw
                  case rel =>
                    have hS : S ++ [k] = (List.range (k + 1)).filter P := by rw [HSN.out]; rfl
                    exact ⟨k + 1, S ++ [k], K ++ [R k], s7, x7, p14, c14, _, congrArg (Value.int .i64) (by omega), by omega, HLF, Lib.hid ⟨hS, by rw [HS2.out.2, List.map_append]; rfl⟩⟩
                  case measure => simp [intOf]; omega
          · obtain rfl : k = 32 := by omega
            have hL := HL.out
            have hr4 : wr.heap[w.heap.size]? = some rn0 := (hL.grown.block w.heap.size (by have := HBW.out; have := hL.lt; omega) (fun e => by injection e with e; have := HBW.out; omega)).trans HR9.out
            have HR4F := Lib.hid hr4
            have k0 := cell_of_row wr _ 0 _ _ (0, 0) hr4
            have k1 := cell_of_row wr _ 1 _ _ (0, 0) hr4
            have k2 := cell_of_row wr _ 2 _ _ (0, 0) hr4
            have k3 := cell_of_row wr _ 3 _ _ (0, 0) hr4
            have k4 := cell_of_row wr _ 4 _ _ (0, 0) hr4
            have z0 := frozen_of_row wr w.heap.size 0 _ _ hr4
            have z1 := frozen_of_row wr w.heap.size 1 _ _ hr4
            have z2 := frozen_of_row wr w.heap.size 2 _ _ hr4
            have z3 := frozen_of_row wr w.heap.size 3 _ _ hr4
            have z4 := frozen_of_row wr w.heap.size 4 _ _ hr4
            have m0 := cell_of_row wr b9 0 _ _ (0, 0) hL.row
            have m1 := cell_of_row wr b9 1 _ _ (0, 0) hL.row
            have m2 := cell_of_row wr b9 2 _ _ (0, 0) hL.row
            have m3 := cell_of_row wr b9 3 _ _ (0, 0) hL.row
            have m4 := cell_of_row wr b9 4 _ _ (0, 0) hL.row
            have HWF : Hid (Below w.heap.size w wr) := HW9.out.trans ⟨hL.grown.os, hL.grown.tape, hL.grown.output, hL.grown.size, fun j hj => hL.grown.block j (by have := HW9.out.size; omega) fun e => by injection e with e; have := HBW.out; omega⟩
            have FIN := Lib.hid (show ∀ W', (∀ j, j ≠ w.heap.size → W'.heap[j]? = wr.heap[j]?) → wr.heap.size ≤ W'.heap.size → RN.At W' D (layR H (f + 1) X L) [.int .i64 3, .int .u64 0, .slice none 0 0, .slice sp S.length sc, .slice kp K.length kc] from by
              intro W' hkeep hsz
              have hlt9 := hL.lt
              have hbw := HBW.out
              have hwz := HW9.out.size
              have hS : S = setR H X L := by rw [HS2.out.1, HP.out]; rfl
              have hK : K = (setR H X L).map fun c => layR H f (partL H X L c) (L + 1) := by rw [HS2.out.2, hS, HRR.out]
              have hlay : layR H (f + 1) X L = .mk 3 0 [] S K := by
                have hx := HX.out
                have hns : sameR H (H y0.1) X = false := by rw [← HH0.out]; exact HBS.out.symm
                rw [hS, hK]
                subst hx
                simp only [layR, hns, Bool.false_eq_true, if_false]
              rw [hlay]
              unfold RN.At
              have dk : ∀ j, j < wr.heap.size → W9.heap.size ≤ j → W'.heap[j]? = wr.heap[j]? := fun j _ hj => hkeep j (by omega)
              refine ⟨none, 0, sp, sc, kp, kc, cs, rfl, IsRs.none_ _ _, ?_, ?_, ?_⟩
              · have h1 := IsVs.own (base := W9.heap.size) (D := fun j => W9.heap.size ≤ j) (fun _ h => h) (vs := S.map ivR) (by rw [List.length_map]; exact hL.set)
                have h2 := (h1.keep hsz dk).mono (D' := D) fun j _ hj => HD.out j (by omega)
                exact h2
              · exact ((IsKs.own (base := W9.heap.size) (D := fun j => W9.heap.size ≤ j) (fun _ h => h) hL.kid).keep hsz dk).mono fun j _ hj => HD.out j (by omega)
              · exact ((hL.ats.mono (D' := fun j => W9.heap.size ≤ j) fun _ _ h => h.1).keep hsz dk).mono fun j _ hj => HD.out j (by omega))
            clear hL hr4
            go_wp2
            (try simp only [Exit.inBlock, Exit.then])
            refine bodyPost_ret (results_row1 rfl _ _ w.heap.size 138 [.int .i64 3, .int .u64 0, .slice none 0 0, .slice sp S.length sc, .slice kp K.length kc] (0, 0) rfl (set5_row HR4F.out _ _ _ _ _) row_138 (by rw [info_138]; rfl)) rfl ⟨_, rfl, ?_, set5_below HWF.out (Nat.le_refl _) _ _ _ _ _⟩
            exact FIN.out _ (fun j hj => set5_other _ _ _ _ _ _ hj) (by rw [set5_size]; exact Nat.le_refl _)
theorem layWalk {H : List UInt8 → Nat} (hh : ∀ k, H k < 18446744073709551616) : ∀ f, LayOk H f := by
  intro f
  induction f with
  | zero =>
    intro x L hL w D D1 hD p c hx hn hs ha hag
    cases x with
    | nil => rw [layR_nil]; exact layNil w D _
    | cons y0 x0 =>
      have hsame : sameR H (H y0.1) (y0 :: x0) = true := by
        unfold sameR
        rw [List.all_eq_true]
        intro q hq
        simp only [decide_eq_true_eq]
        exact chunk_ext (hh _) (hh _) fun j hj => hag q hq y0 (by simp) j (by omega)
      have r := layStep hh 0 (X := y0 :: x0) rfl L (by omega) (fun h => by rw [hsame] at h; cases h) w hD hx hn hs ha hag
      rw [layR_same _ _ hsame] at r ⊢
      exact r
  | succ f IH =>
    intro x L hL w D D1 hD p c hx hn hs ha hag
    cases x with
    | nil => rw [layR_nil]; exact layNil w D _
    | cons y0 x0 => exact layStep hh f (X := y0 :: x0) rfl L (by omega) (fun _ => ⟨hL, IH⟩) w hD hx hn hs ha hag
end Go.Proofs.YtmbiiemlepfoaaaGreatDoor
