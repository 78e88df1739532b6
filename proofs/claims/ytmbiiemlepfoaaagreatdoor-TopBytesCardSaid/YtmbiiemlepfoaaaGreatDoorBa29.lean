/- The walk of codec.Read. The walk of pmap fresh, a dry source. -/
import Derived.Test.YtmbiiemlepfoaaaGreatDoorBa01
import Derived.Test.YtmbiiemlepfoaaaGreatDoorBa24
import Derived.Test.YtmbiiemlepfoaaaGreatDoorBa27

/-! The walk of codec.Read. -/
namespace Go.Proofs.YtmbiiemlepfoaaaGreatDoor
open Go.RowKit
set_option linter.unusedVariables false

def ReadR (w : World) (r : List PairT × Nat) (e : Ending) (w' : World) : Prop := ∃ q cap, e = .returned (.tuple #[.slice q r.1.length cap, .int .i64 (r.2 : Int)]) ∧ IsPs w' (FreshOr w) q cap r.1 ∧ Below w.heap.size w w'

set_option maxHeartbeats 4000000 in
set_option maxRecDepth 100000 in
theorem codecRead (w : World) {p : Option Addr} {c : Nat} {b : List UInt8} (h : IsB w p c b) (hl : b.length ≤ 1000000) :
    Calls Tryz.prog 35 #[.slice p b.length c] w (ReadR w (readM b)) := by
  obtain ⟨i0, hi, hz0, hz1', hz2⟩ := info_parts info61
  obtain ⟨R, hR⟩ : ∃ R, readM b = R := ⟨_, rfl⟩
  rw [hR]
  have HR := Lib.hid hR
  have CB := Lib.hid (codecBegins w h)
  have g0 : decide ((b.length : Int) > 16777216) = false := by rw [decide_eq_false_iff_not]; omega
  have H := Lib.hid h
  clear hR h
  by_cases hb : beginsM b = 0
  · have hform := begins_zero _ _ hb
    have h4 : 4 ≤ b.length := by rw [hform]; simp [markL]
    obtain ⟨bb, bo, rfl, _, _⟩ := H.out.cells (by omega)
    have h4d := H.out.drop4 h4
    have hld : (b.drop 4).length = b.length - 4 := List.length_drop
    obtain ⟨B, hB⟩ : ∃ B, b.drop 4 = B := ⟨_, rfl⟩
    rw [hB] at h4d hld
    have hBl : ((b.length - 4 : Nat) : Int) = (B.length : Int) := by omega
    have hre : R = if (dec B).2.2 ≠ 0 then ([], (dec B).2.2) else if 1048576 < (dec B).1 then ([], 4) else pairsM (dec B).1 (B.drop (dec B).2.1) none [] := by
      rw [← HR.out]; unfold readM; rw [if_neg (by rw [hb]; simp), hB]
    obtain ⟨n, u, e, hd⟩ : ∃ n u e, dec B = (n, u, e) := ⟨_, _, _, rfl⟩
    rw [hd] at hre
    dsimp only at hre
    have hnum : numOp B 0 = (n, B.drop u, e) := by unfold numOp; rw [if_pos rfl, hd]
    rw [hb] at CB
    have HRE := Lib.hid hre
    have HNUM := Lib.hid hnum
    clear hform hB hre hb hnum
    have s1 : (4 : Int) ≤ (b.length : Int) := by omega
    have s2 : (b.length : Int) ≤ (c : Int) := by have := H.out.cap; omega
    obtain ⟨q, d, hqd⟩ : ∃ q d, (if c = 4 then some (⟨bb, bo, none⟩ : Addr) else some ⟨bb, bo + 4, none⟩) = q ∧ c - 4 = d := ⟨_, _, rfl, rfl⟩
    rw [hqd.1, hqd.2] at h4d
    have CN := Lib.hid (show ∀ k, Calls Tryz.prog 82 #[.slice q (b.length - 4) d] (w.drewN k) (fun e w' => ∃ g, e = .returned (.pointer (some ⟨g, 0, none⟩)) ∧ NewR (w.drewN k) w' g B) from fun k => by rw [← hld]; exact newReader (w.drewN k) (h4d.drewN k) (by omega))
    clear h4d
    have hdw : ∀ k, Below w.heap.size w (w.drewN k) := fun k => below_drewN _ w k
    by_cases he : e = 0
    · have hBp : 0 < B.length := by
        rcases Nat.eq_zero_or_pos B.length with h0 | h0
        · obtain rfl := List.eq_nil_of_length_eq_zero h0
          have := HNUM.out
          simp [numOp, dec] at this
          omega
        · exact h0
      have hc4 : ¬ c = 4 := by have := H.out.cap; omega
      rw [if_neg hc4] at hqd
      obtain ⟨rfl, rfl⟩ := hqd
      have hc4' : ¬ ((c : Int) = 4) := by omega
      subst he
      by_cases hn : 1048576 < n
      · have hR : R = ([], 4) := by rw [HRE.out, if_neg (by simp), if_pos hn]
        have HRR := Lib.hid hR
        have gn : decide ((1048576 : Int) < (n : Int)) = true := by rw [decide_eq_true_iff]; omega
        clear hR hn
        go_enter Tryz.func35, Tryz.ntmps35
        go_wp2_with first
          | (go_at_call 81; ((with_reducible refine (CB.out).mono ?_)); rintro e w1 ⟨rfl, k1, rfl⟩)
          | (go_at_call 82; ((with_reducible refine (CN.out _).mono ?_)); rintro e w1 ⟨g, rfl, hn1⟩; have hrd := rdNumber w1 hn1.rd; rw [HNUM.out] at hrd; dsimp only at hrd; have hz1 := hn1.rd.lt; have HN1 := Lib.hid hn1; have HRD := Lib.hid hrd; clear hn1 hrd)
          | (go_at_call 83; ((with_reducible refine (HRD.out).mono ?_)); rintro e w2 ⟨rfl, hr2, hg2⟩; have he2 := rdErr w2 hr2; have HE2 := Lib.hid he2; have HR2 := Lib.hid hr2; have HG2 := Lib.hid hg2; clear he2 hr2 hg2)
          | (go_at_call 84; ((with_reducible refine (HE2.out).mono ?_)); rintro e w3 ⟨rfl, rfl⟩)
        go_ret2
        rw [HRR.out]
        exact ⟨none, 0, rfl, IsPs.none_ _ _, (hdw k1).trans ((HN1.out.below.mono (Nat.le_refl _)).trans (below_grown HG2.out (HN1.out.ge) HN1.out.below.size))⟩
      · have gn : decide ((1048576 : Int) < (n : Int)) = false := by rw [decide_eq_false_iff_not]; omega
        have hn64 : n ≤ 1048576 := by omega
        have hRL : R = pairsM n (B.drop u) none [] := by rw [HRE.out, if_neg (by simp), if_neg hn]
        have HRL := Lib.hid hRL
        clear hRL hn
        go_enter Tryz.func35, Tryz.ntmps35
        go_wp2_with first
          | (go_at_call 81; ((with_reducible refine (CB.out).mono ?_)); rintro e w1 ⟨rfl, k1, rfl⟩)
          | (go_at_call 82; ((with_reducible refine (CN.out _).mono ?_)); rintro e w1 ⟨g, rfl, hn1⟩; have hrd := rdNumber w1 hn1.rd; rw [HNUM.out] at hrd; dsimp only at hrd; have hz1 := hn1.rd.lt; have HN1 := Lib.hid hn1; have HRD := Lib.hid hrd; clear hn1 hrd)
          | (go_at_call 83; ((with_reducible refine (HRD.out).mono ?_)); rintro e w2 ⟨rfl, hr2, hg2⟩; have he2 := rdErr w2 hr2; have HE2 := Lib.hid he2; have HR2 := Lib.hid hr2; have HG2 := Lib.hid hg2; clear he2 hr2 hg2)
          | (go_at_call 84; ((with_reducible refine (HE2.out).mono ?_)); rintro e w3 ⟨rfl, rfl⟩)
        have hR2 := HR2.out
        have hG2 := HG2.out
        have hw2 : Below w.heap.size w w2 := (hdw k1).trans ((HN1.out.below.mono (Nat.le_refl _)).trans (below_grown HG2.out (HN1.out.ge) HN1.out.below.size))
        have hrest : (B.drop u).length ≤ 1000000 := by rw [List.length_drop]; omega
        go_loopw [7, 8, 36] (fun v7 v8 v36 wr => ∃ (L : List PairT) (vs : List Value) (q7 : Option Addr) (c7 : Nat) (lp : Option Addr) (lc : Nat) (last rest : List UInt8), v36 = .int .u64 (L.length : Int) ∧ v7 = .slice q7 L.length c7 ∧ v8 = .slice lp last.length lc ∧ L.length ≤ n ∧ OB wr lp lc last ∧ wr.ownsRow w1.heap.size 61 2 (.slice q7 L.length c7) L.length vs ∧ Prs wr L vs ∧ Rd wr g rest 0 ∧ rest.length ≤ 1000000 ∧ Below w.heap.size w wr ∧ w1.heap.size ≤ wr.heap.size ∧ Hid (R = pairsM (n - L.length) rest (if L.length = 0 then none else some last) L)) (fun _ _ v36 _ => n - (intOf v36).toNat)
        case atStart => exact ⟨[], [], none, 0, none, 0, [], B.drop u, rfl, rfl, rfl, Nat.zero_le _, OB.nil_ _, World.ownsRow_nil _ _ _ _, rfl, hR2, hrest, hw2, hG2.size, HRL.out⟩
        case round =>
          obtain ⟨L, vs, q7, c7, lp, lc, last, rest, rfl, rfl, rfl, hLn, hla, how, hps, hrd, hrl, hbw, hzw, HI⟩ := hrel
          clear hR2 hG2 hw2 hrest
          by_cases hlt : L.length < n
          · obtain ⟨fb, hfb⟩ : ∃ fb, ((L.length : Int) == 0) = fb := ⟨_, rfl⟩
            have hop : (if L.length = 0 then none else some last) = if fb = true then none else some last := by
              rw [← hfb]
              by_cases h0 : L.length = 0
              · rw [if_pos h0, if_pos (by rw [h0]; rfl)]
              · rw [if_neg h0, if_neg (by simp; intro h; exact h0 (by rw [h]; rfl))]
            have hii := HI.out
            rw [hop, show n - L.length = (n - (L.length + 1)) + 1 from by omega, pairsM] at hii
            have CO := codecOne wr hrd hla hrl fb
            have hrl' := oneM_rest rest (if fb = true then none else some last)
            obtain ⟨⟨⟨k, v⟩, r', e'⟩, ho⟩ : ∃ o, oneM rest (if fb = true then none else some last) = o := ⟨_, rfl⟩
            rw [ho] at CO hii hrl'
            dsimp only at CO hii hrl'
            have CO' := Lib.hid CO
            have g1 : (L.length : Int) < (n : Int) := by omega
            have HOW := Lib.hid how
            have HPS := Lib.hid hps
            have HRD := Lib.hid hrd
            have HBW := Lib.hid hbw
            clear CO HI hop ho how hps hrd hla hbw
            by_cases he' : e' = 0
            · subst he'
              rw [if_neg (by simp)] at hii
              have HII := Lib.hid hii
              clear hii
              go_wp2_with first
                | (go_at_call 85; ((with_reducible refine (CO'.out).mono ?_)); rintro e w3 ⟨q1, d1, q2, d2, rfl, ho3⟩; have HO3 := Lib.hid ho3; have hz3 := ho3.grown.size; clear ho3)
              obtain ⟨W5, hW5⟩ : ∃ W, W = w3.alloc (.cells #[.slice q1 k.length d1, .slice q2 v.length d2] 61) := ⟨_, rfl⟩
              have r5 : W5.heap[w3.heap.size]? = some (.cells #[.slice q1 k.length d1, .slice q2 v.length d2] 61) := by rw [hW5]; exact heap_alloc_new w3 _
              have b5 : Below w3.heap.size w3 W5 := by rw [hW5]; exact (Below.refl _ w3).alloc (Nat.le_refl _) _
              obtain ⟨ow3, mo3⟩ := more_at hz1 HOW.out HPS.out HRD.out HO3.out
              have ow5 : W5.ownsRow w1.heap.size 61 2 (.slice q7 L.length c7) L.length vs := by rw [hW5]; exact ow3.alloc _
              have b6 := (Below.refl W5.heap.size W5).alloc (Nat.le_refl _) (.cells #[.slice q1 k.length d1, .slice q2 v.length d2] 61)
              have MO6 := Lib.hid ((mo3.below b5).below b6.drew)
              have ow6 : ((W5.alloc (.cells #[.slice q1 k.length d1, .slice q2 v.length d2] 61)).drew).ownsRow w1.heap.size 61 2 (.slice q7 L.length c7) L.length vs := ow5.alloc _
              have OW6 := Lib.hid ow6
              have r6 : ((W5.alloc (.cells #[.slice q1 k.length d1, .slice q2 v.length d2] 61)).drew).heap[W5.heap.size]? = some (.cells #[.slice q1 k.length d1, .slice q2 v.length d2] 61) := heap_alloc_new W5 _
              have r56 : ((W5.alloc (.cells #[.slice q1 k.length d1, .slice q2 v.length d2] 61)).drew).heap[w3.heap.size]? = some (.cells #[.slice q1 k.length d1, .slice q2 v.length d2] 61) := (haOld W5 _ (row_ltT r5)).trans r5
              have hbl : ∀ r, (Value.slice q7 L.length c7).ownBlock = some r → w1.heap.size ≤ r ∧ r < w3.heap.size := fun r hr => ow3.lt r hr
              have HBL := Lib.hid hbl
              have hw1s : w.heap.size ≤ w1.heap.size := HN1.out.below.size
              have hb3 : Below w.heap.size w w3 := HBW.out.trans (below_grown HO3.out.grown HN1.out.ge HBW.out.size)
              have hbW5 : Below w.heap.size w W5 := hb3.trans (b5.mono hb3.size)
              have HB6 := Lib.hid (hbW5.trans (b6.drew.mono hbW5.size))
              have hz5 := b5.size
              rw [← hW5]
              clear hW5 ow3 mo3 ow5 ow6 b5 b6 hbl hb3 hbW5
              have z0 : W5.cell? ⟨w3.heap.size, 0, none⟩ = some (.slice q1 k.length d1) := cell_of_row W5 _ 0 _ _ (0, 0) r5
              have z1 : W5.cell? ⟨w3.heap.size, 1, none⟩ = some (.slice q2 v.length d2) := cell_of_row W5 _ 1 _ _ (0, 0) r5
              have hl5 : w3.heap.size < W5.heap.size := row_ltT r5
              refine wp_region_heldL (S := fun w' : World => w'.cell? ⟨w3.heap.size, 0, none⟩ = some (.slice q1 k.length d1) ∧ w'.cell? ⟨w3.heap.size, 1, none⟩ = some (.slice q2 v.length d2)) (by kernel_rfl) ?_
              have hHeld : (fun w' : World => w'.cell? ⟨w3.heap.size, 0, none⟩ = some (.slice q1 k.length d1) ∧ w'.cell? ⟨w3.heap.size, 1, none⟩ = some (.slice q2 v.length d2)) W5.drew := ⟨z0, z1⟩
              (refine wpAnyL_take (i := 0) (oi := ⟨some 50, _, _, _, _, _⟩) (v := .slice q7 L.length c7) rfl (by kernel_rfl) (by kernel_rfl) (by kernel_rfl) (fun _ _ _ h => h) (Or.inl ⟨by rfl, by intro w' hSw; obtain ⟨y1, y2⟩ := hSw; go_simp⟩) hHeld ?_; try simp only [Act.put, List.setIfInBounds_toArray, List.set_cons_zero, List.set_cons_succ])
              (refine wpAnyL_take (i := 1) (oi := ⟨some 51, _, _, _, _, _⟩) (v := .agg #[.slice q1 k.length d1, .slice q2 v.length d2]) rfl (by kernel_rfl) (by kernel_rfl) (by kernel_rfl) (fun _ _ _ h => h) (Or.inl ⟨by rfl, by intro w' hSw; obtain ⟨y1, y2⟩ := hSw; go_simp⟩) hHeld ?_; try simp only [Act.put, List.setIfInBounds_toArray, List.set_cons_zero, List.set_cons_succ])
              (refine wpAnyL_take (i := 4) (oi := ⟨some 54, _, _, _, _, _⟩) (v := .pointer (some ⟨w3.heap.size, 0, none⟩)) rfl (by kernel_rfl) (by kernel_rfl) (by kernel_rfl) (fun _ _ _ h => h) (Or.inl ⟨by rfl, by intro w' hSw; obtain ⟨y1, y2⟩ := hSw; go_simp⟩) hHeld ?_; try simp only [Act.put, List.setIfInBounds_toArray, List.set_cons_zero, List.set_cons_succ])
              (refine wpAnyL_take (i := 5) (oi := ⟨some 55, _, _, _, _, _⟩) (v := .slice q1 k.length d1) rfl (by kernel_rfl) (by kernel_rfl) (by kernel_rfl) (fun _ _ _ h => h) (Or.inl ⟨by rfl, by intro w' hSw; obtain ⟨y1, y2⟩ := hSw; go_simp⟩) hHeld ?_; try simp only [Act.put, List.setIfInBounds_toArray, List.set_cons_zero, List.set_cons_succ])
              (refine wpAnyL_one (i := 2) (o := ⟨some 52, _, _, _, _, _⟩) rfl (by kernel_rfl) (fun K' hK => ?_); rw [if_pos (by rfl)])
              go_simp
              obtain ⟨W6, hW6⟩ : ∃ W, W = (W5.alloc (.cells #[.slice q1 k.length d1, .slice q2 v.length d2] 61)).drew := ⟨_, rfl⟩
              have hs6 : W6.heap.size = W5.heap.size + 1 := by rw [hW6]; simp
              rw [← hW6] at MO6 OW6 r6 r56 HB6 ⊢
              clear hW6
              (have hHeld := (show _ ∧ _ from ⟨cell_of_row W6 _ 0 _ _ (0, 0) r56, cell_of_row W6 _ 1 _ _ (0, 0) r56⟩); refine hK.out _ _ (.inl hHeld) ?_; clear hK K'; try simp only [Act.put, List.setIfInBounds_toArray, List.set_cons_zero, List.set_cons_succ])
              (refine wpAnyL_one (i := 3) (o := ⟨some 53, _, _, _, _, _⟩) rfl (by kernel_rfl) (fun K' hK => ?_); rw [if_pos (by rfl)])
              refine oper_of_list (ops := #[]) rfl ?_
              refine wpList_append_own _ rfl _ _ 63 rfl w1.heap.size 61 i0 (.agg #[.slice none 0 0, .slice none 0 0]) 2 48 Tryz.underlying63 hi hz0 hz1' hz2 rfl (by omega) _ L.length vs rfl OW6.out ⟨W5.heap.size, 0, none⟩ 1 1 [.slice q1 k.length d1, .slice q2 v.length d2] rfl rfl (World.news_of_block (cs := #[.slice q1 k.length d1, .slice q2 v.length d2]) (t := 61) (fr := (0, 0)) r6) (by simp [Value.oneCell']) (by unfold maxLen; omega) (by omega) (by omega) ?_
              intro v7 w7 ho7 hg7 _
              show K' _ _
              obtain ⟨q8, c8, rfl⟩ := own_slice61 ho7
              have MO7 := Lib.hid (MO6.out.appended hz1 OW6.out hg7)
              have r57 : w7.heap[w3.heap.size]? = some (.cells #[.slice q1 k.length d1, .slice q2 v.length d2] 61) := (hg7.block _ (row_ltT r56) (fun e => by have := (HBL.out _ e.symm).2; omega)).trans r56
              have HB7 := Lib.hid (HB6.out.grown hg7 HB6.out.size (fun r e => Nat.le_trans hw1s (HBL.out r e).1))
              have hz7 := hg7.size
              have HO7 := Lib.hid ho7
              clear ho7 hg7
              (have hHeld := (show _ ∧ _ from ⟨cell_of_row w7 _ 0 _ _ (0, 0) r57, cell_of_row w7 _ 1 _ _ (0, 0) r57⟩); refine hK.out _ _ (.inl hHeld) ?_; clear hK K'; try simp only [Act.put, List.setIfInBounds_toArray, List.set_cons_zero, List.set_cons_succ])
              (refine wpAnyL_take (i := 6) (oi := ⟨some 7, _, _, _, _, _⟩) (v := .slice q8 (L.length + 1) c8) rfl (by kernel_rfl) (by kernel_rfl) (by kernel_rfl) (fun _ _ _ h => h) (Or.inl ⟨by rfl, by intro w' hSw; obtain ⟨y1, y2⟩ := hSw; go_simp⟩) hHeld ?_; try simp only [Act.put, List.setIfInBounds_toArray, List.set_cons_zero, List.set_cons_succ])
              (refine wpAnyL_take (i := 7) (oi := ⟨some 8, _, _, _, _, _⟩) (v := .slice q1 k.length d1) rfl (by kernel_rfl) (by kernel_rfl) (by kernel_rfl) (fun _ _ _ h => h) (Or.inl ⟨by rfl, by intro w' hSw; obtain ⟨y1, y2⟩ := hSw; go_simp⟩) hHeld ?_; try simp only [Act.put, List.setIfInBounds_toArray, List.set_cons_zero, List.set_cons_succ])
              refine wpAnyL_done (by kernel_rfl) ?_ _
              go_wp2
              go_roundw
              case rel =>
                have hLl : (L ++ [(k, v)]).length = L.length + 1 := by simp
                refine ⟨L ++ [(k, v)], vs ++ [.slice q1 k.length d1, .slice q2 v.length d2], q8, c8, q1, d1, k, r', by rw [hLl]; rfl, by rw [hLl], rfl, by omega, MO7.out.key, by rw [hLl]; exact HO7.out, MO7.out.prs, MO7.out.rd, Nat.le_trans hrl' hrl, HB7.out, by omega, ?_⟩
                have := HII.out
                rw [hLl, if_neg (by omega)]
                exact this
              case measure => simp [intOf]; omega
            · rw [if_pos he'] at hii
              have HII := Lib.hid hii
              have gE : ((e' : Int) != 0) = true := by simp; omega
              clear hii
              go_wp2_with first
                | (go_at_call 85; ((with_reducible refine (CO'.out).mono ?_)); rintro e w3 ⟨q1, d1, q2, d2, rfl, ho3⟩; have HO3 := Lib.hid ho3; have hz3 := ho3.grown.size; clear ho3)
              go_ret2
              rw [HII.out]
              have hb3 : Below w.heap.size w w3 := HBW.out.trans (below_grown HO3.out.grown HN1.out.ge HBW.out.size)
              exact ⟨none, 0, rfl, IsPs.none_ _ _, hb3.alloc hb3.size _⟩
          · have hLe : L.length = n := by omega
            have g1 : ¬ (L.length : Int) < (n : Int) := by omega
            have hii := HI.out
            rw [show n - L.length = 0 from by omega, pairsM] at hii
            have HII := Lib.hid hii
            have CE := Lib.hid (rdEnd wr hrd)
            obtain ⟨q9, c9, hq9, hI9⟩ := own_isPs (D := FreshOr w) (fun j hj => .inl (Nat.le_trans HN1.out.below.size hj)) (fun j cs h => FreshOr.of hbw h) how hps
            injection hq9 with e1 e2 e3
            subst e1; subst e3
            have HI9 := Lib.hid hI9
            have HBW := Lib.hid hbw
            clear hii HI how hps hrd hbw hI9 e2
            by_cases hr0 : rest = []
            · subst hr0
              have he0 : endE [] 0 = 0 := rfl
              rw [he0] at CE
              go_wp2_with first
                | (go_at_call 86; ((with_reducible refine (CE.out).mono ?_)); rintro e w3 ⟨rfl, rfl⟩)
              go_ret2
              rw [HII.out]
              simp only [if_true]
              refine ⟨q7, c7, ?_, HI9.out, HBW.out⟩
              show Ending.returned (.tuple #[.slice q7 n c7, .int .i64 0]) = .returned (.tuple #[.slice q7 L.length c7, .int .i64 0])
              rw [hLe]
            · have he7 : endE rest 0 = 7 := by
                unfold endE
                rw [if_pos ⟨rfl, List.length_pos_iff.2 hr0⟩]
              rw [he7] at CE
              go_wp2_with first
                | (go_at_call 86; ((with_reducible refine (CE.out).mono ?_)); rintro e w3 ⟨rfl, rfl⟩)
              go_ret2
              rw [HII.out, if_neg hr0]
              exact ⟨none, 0, rfl, IsPs.none_ _ _, HBW.out⟩
    · have hR : R = ([], e) := by rw [HRE.out, if_pos he]
      have HRR := Lib.hid hR
      have gE : ((e : Int) != 0) = true := by simp; omega
      clear hR
      by_cases hc4 : c = 4
      · subst hc4
        rw [if_pos rfl] at hqd
        obtain ⟨rfl, rfl⟩ := hqd
        go_enter Tryz.func35, Tryz.ntmps35
        go_wp2_with first
          | (go_at_call 81; ((with_reducible refine (CB.out).mono ?_)); rintro e w1 ⟨rfl, k1, rfl⟩)
          | (go_at_call 82; ((with_reducible refine (CN.out _).mono ?_)); rintro e w1 ⟨g, rfl, hn1⟩; have hrd := rdNumber w1 hn1.rd; rw [HNUM.out] at hrd; dsimp only at hrd; have hz1 := hn1.rd.lt; have HN1 := Lib.hid hn1; have HRD := Lib.hid hrd; clear hn1 hrd)
          | (go_at_call 83; ((with_reducible refine (HRD.out).mono ?_)); rintro e w2 ⟨rfl, hr2, hg2⟩; have he2 := rdErr w2 hr2; have HE2 := Lib.hid he2; have HR2 := Lib.hid hr2; have HG2 := Lib.hid hg2; clear he2 hr2 hg2)
          | (go_at_call 84; ((with_reducible refine (HE2.out).mono ?_)); rintro e w3 ⟨rfl, rfl⟩)
        go_ret2
        rw [HRR.out]
        exact ⟨none, 0, rfl, IsPs.none_ _ _, (hdw k1).trans ((HN1.out.below.mono (Nat.le_refl _)).trans (below_grown HG2.out (HN1.out.ge) HN1.out.below.size))⟩
      · rw [if_neg hc4] at hqd
        obtain ⟨rfl, rfl⟩ := hqd
        have hc4' : ¬ ((c : Int) = 4) := by omega
        go_enter Tryz.func35, Tryz.ntmps35
        go_wp2_with first
          | (go_at_call 81; ((with_reducible refine (CB.out).mono ?_)); rintro e w1 ⟨rfl, k1, rfl⟩)
          | (go_at_call 82; ((with_reducible refine (CN.out _).mono ?_)); rintro e w1 ⟨g, rfl, hn1⟩; have hrd := rdNumber w1 hn1.rd; rw [HNUM.out] at hrd; dsimp only at hrd; have hz1 := hn1.rd.lt; have HN1 := Lib.hid hn1; have HRD := Lib.hid hrd; clear hn1 hrd)
          | (go_at_call 83; ((with_reducible refine (HRD.out).mono ?_)); rintro e w2 ⟨rfl, hr2, hg2⟩; have he2 := rdErr w2 hr2; have HE2 := Lib.hid he2; have HR2 := Lib.hid hr2; have HG2 := Lib.hid hg2; clear he2 hr2 hg2)
          | (go_at_call 84; ((with_reducible refine (HE2.out).mono ?_)); rintro e w3 ⟨rfl, rfl⟩)
        go_ret2
        rw [HRR.out]
        exact ⟨none, 0, rfl, IsPs.none_ _ _, (hdw k1).trans ((HN1.out.below.mono (Nat.le_refl _)).trans (below_grown HG2.out (HN1.out.ge) HN1.out.below.size))⟩
  · have hR : R = ([], beginsM b) := by rw [← HR.out]; unfold readM; rw [if_pos hb]
    have HRR := Lib.hid hR
    obtain ⟨m, hm⟩ : ∃ m, beginsM b = m := ⟨_, rfl⟩
    rw [hm] at CB hb HRR
    have gE : ((m : Int) != 0) = true := by simp; omega
    clear hR hm
    go_enter Tryz.func35, Tryz.ntmps35
    go_wp2_with first
      | (go_at_call 81; ((with_reducible refine (CB.out).mono ?_)); rintro e w1 ⟨rfl, k1, rfl⟩)
    go_ret2
    rw [HRR.out]
    exact ⟨none, 0, rfl, IsPs.none_ _ _, below_drewN _ w k1⟩
end Go.Proofs.YtmbiiemlepfoaaaGreatDoor

/-! The walk of pmap fresh, a dry source. -/
namespace Go.Proofs.YtmbiiemlepfoaaaGreatDoor
open Go.RowKit
set_option linter.unusedVariables false

set_option maxHeartbeats 1000000 in
set_option maxRecDepth 100000 in
theorem mapsFreshDry (w : World) {S D : Nat → Prop} {mp g sb r tk next : Nat} {l : List UInt8} {L : List (Nat × Ch)} (h : MapsAt w S D mp g sb r l tk L next) (hL : L.length < 64) (hl : l.length < 16) :
    Calls Tryz.prog 36 #[.pointer (some ⟨mp, 0, none⟩)] w fun e w' => e = .returned (.tuple #[.agg zeroB, .int .i64 11]) ∧ Below w.heap.size w w' := by
  obtain ⟨W2, hW2⟩ : ∃ W, W = w.alloc zRow105 := ⟨_, rfl⟩
  have hB : Below w.heap.size w W2 := by rw [hW2]; exact (Below.refl _ w).alloc (Nat.le_refl _) _
  have r0 : W2.heap[w.heap.size]? = some zRow105 := by rw [hW2]; exact heap_alloc_new _ _
  have hz2 : W2.heap.size = w.heap.size + 1 := by rw [hW2]; simp
  have h2 := h.below hB
  have hgl := h.src.lt
  have CR := Lib.hid (shelfRoom W2 h2.shelf hL)
  have CS := Lib.hid (srcDry W2 h2.src hl)
  have d0 : w.cell? ⟨mp, 0, none⟩ = some (.pointer (some ⟨g, 0, none⟩)) := cell_of_row w mp 0 _ _ (0, 0) h.row
  have d1 : w.cell? ⟨mp, 1, none⟩ = some (.pointer (some ⟨sb, 0, none⟩)) := cell_of_row w mp 1 _ _ (0, 0) h.row
  have c0 : W2.cell? ⟨mp, 0, none⟩ = some (.pointer (some ⟨g, 0, none⟩)) := cell_of_row W2 mp 0 _ _ (0, 0) h2.row
  have hml := row_ltT h.row
  have H0 := Lib.hid h
  have HB := Lib.hid hB
  clear h h2 hB hl hL
  go_enter Tryz.func36, Tryz.ntmps36
  go_wp2_with fail
  rw [← hW2]
  clear hW2
  (go_at_call 87; ((with_reducible refine (CR.out).mono ?_)); rintro e w1 ⟨rfl, rfl⟩)
  go_wp2_with fail
  (go_at_call 88; ((with_reducible refine (CS.out).mono ?_)); rintro e w3 ⟨rfl, hb3⟩; have hr3 := Lib.hid ((hb3.block w.heap.size (by omega)).trans r0))
  have hz1 : zeroB.size = 16 := by rfl
  have hone : zeroB.all (·.oneCell') = true := by simp [zeroB, Value.oneCell']
  go_wp2_with (first | (refine wpList_store_row rfl 105 _ _ rfl w.heap.size rfl zeroB rfl 105 _ hr3.out (by rw [info_105]; rfl) (by rfl) hone ?_) | fail)
  refine bodyPost_ret (results_row2 rfl _ _ w.heap.size 105 zeroB.toList (0, 0) rfl (setRow_heap _ _ _ _ 105 (0, 0) hr3.out) row_105 (by rw [info_105]; rfl)) rfl ⟨rfl, ?_⟩
  exact below_setRow (below_step HB.out hb3) (Nat.le_refl _) _
end Go.Proofs.YtmbiiemlepfoaaaGreatDoor
