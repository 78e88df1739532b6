/- The walk of codec.Encode. The walks of pmap's Encode, Decode. The walks of script.do: new, put, encode. The walks of script.do: new, put, encode. The walk of script.do: put. -/
import Derived.Test.YtmbiiemlepfoaaaGreatDoorFl01
import Derived.Test.YtmbiiemlepfoaaaGreatDoorFl31
import Derived.Test.YtmbiiemlepfoaaaGreatDoorFl30

namespace Go.Proofs.YtmbiiemlepfoaaaGreatDoor
open Go.RowKit Go.Shelf
set_option linter.unusedVariables false
attribute [local go_sem] Oper.semAt_some
theorem IsD.loop {A : World} {D : Nat → Prop} {p : Option Addr} {c : Nat} {l : List UInt8} (h : IsD A D p c l) {k : Nat} {x : Loop} (o' : Obj) (hk : A.heap[k]? = some (.loop x)) : IsD (A.putObj k o') D p c l := by
  refine ⟨⟨h.b.cap, h.b.nil, h.b.big, fun hl => ?_⟩, h.d⟩
  obtain ⟨b, f, hp, hb, hc⟩ := h.b.cells hl
  have hne : b ≠ k := by
    intro e; subst e
    have h0 := hc 0 _ (List.getElem?_eq_getElem hl)
    simp [World.cell?, hk] at h0
  refine ⟨b, f, hp, by simpa using hb, fun i x hx => ?_⟩
  rw [← hc i x hx]
  unfold World.cell?
  rw [World.putObj_heap_other hne]
theorem own_base {w : World} {b b' e s n : Nat} {v : Value} {xs : List Value} (h : w.ownsRow b e s v n xs) (hb : b' ≤ b) : w.ownsRow b' e s v n xs :=
  ⟨h.1, h.2.imp id fun ⟨g, cap, cur, h1, h2, h3⟩ => ⟨g, cap, cur, h1, Nat.le_trans hb h2, h3⟩⟩
def outL (t : T) (pre : List (PairT × Nat)) : List UInt8 := markL ++ (enc t.size ++ (pre.map Prod.fst).flatMap pairB)
theorem outL_nil (t : T) : outL t [] = markL ++ enc t.size := by simp [outL]
theorem outL_snoc (t : T) (pre : List (PairT × Nat)) (x : PairT × Nat) : outL t (pre ++ [x]) = (outL t pre ++ textB x.1.1) ++ textB x.1.2 := by simp [outL, pairB]
theorem outL_all (t : T) : outL t t.list.zipIdx = mapB t.list := by unfold outL mapB; rw [zip_fst, T.list_length]
theorem outL_le {t : T} {pre post : List (PairT × Nat)} {x : PairT × Nat} (h : t.list.zipIdx = pre ++ x :: post) : (outL t (pre ++ [x])).length ≤ (mapB t.list).length := by
  rw [← outL_all, h]
  unfold outL
  simp only [List.map_append, List.map_cons, List.map_nil, List.flatMap_append, List.length_append, List.flatMap_cons, List.flatMap_nil, List.append_nil]
  omega
set_option maxHeartbeats 8000000 in
set_option maxRecDepth 100000 in
theorem codecEncode (w : World) {D : Nat → Prop} {s : List UInt8} {n : Option N} {t : T} {cv : List Value} (h : IsCh w D s n t cv) (hne : t.Neat) (hsz : t.size ≤ 1000000) (hfit : sizeM t ≤ 16777216) :
    Calls Tryz.prog 42 #[.agg cv.toArray] w fun e w' => ∃ q d, e = .returned (.tuple #[.slice q (mapB t.list).length d, .int .i64 0]) ∧ w'.ownsRow w.heap.size 5 1 (.slice q (mapB t.list).length d) (mapB t.list).length ((mapB t.list).map bv) ∧ Below w.heap.size w w' := by
  obtain ⟨i0, hi, hz0, hz1, hz2⟩ := info_parts info5
  have hl := h.size
  have hlen := sizeM_enc t
  obtain ⟨p, hch, htr⟩ := h.chart
  obtain ⟨cap, hcap⟩ : ∃ cap, sizeM t = cap := ⟨_, rfl⟩
  have CZ := Lib.hid (show ∀ w', Below w.heap.size w w' → Calls Tryz.prog 96 #[.agg cv.toArray] w' (fun e w'' => e = .returned (.int .i64 (cap : Int)) ∧ Below w'.heap.size w' w'') from fun w' hb => by rw [← hcap]; exact codecSize w' (h.below hb) hne hsz)
  have CL := Lib.hid (show ∀ w', Below w.heap.size w w' → Calls Tryz.prog 98 #[.agg cv.toArray] w' (fun e w'' => e = .returned (.int .i64 (t.size : Int)) ∧ w'' = w'.alloc (.cells cv.toArray 112)) from fun w' hb => chartLenO w' hch (htr.below hb))
  have CI := Lib.hid (show ∀ w', Calls Tryz.prog 100 #[.agg cv.toArray] w' (fun e w'' => e = .returned (.pointer p) ∧ w'' = w'.alloc (.cells cv.toArray 112)) from fun w' => chartIndexO w' hch)
  have CA := Lib.hid (show ∀ w', Calls Tryz.prog 99 #[.pointer p, .agg #[.slice none 0 0, .slice none 0 0, .bool false]] w' (fun e w'' => e = .returned (.func (.func 172) #[] #[.pointer (some ⟨w'.heap.size, 0, none⟩), .pointer (some ⟨w'.heap.size + 1, 0, none⟩)]) ∧ w'' = (w'.alloc (.cells #[.pointer p] 43)).alloc (.cells #[.slice none 0 0, .slice none 0 0, .bool false] 151)) from fun w' => walkAll w' p none none 0 0 [] [] false)
  have CN := Lib.hid (show ∀ w', Calls Tryz.prog 97 #[.int .u64 (t.size : Int)] w' _ from fun w' => frNumber w' t.size (by omega))
  have hb0 := (Below.refl _ w).alloc (Nat.le_refl _) (.cells cv.toArray 112)
  have hz : cv.toArray.size = 18 := by simpa using hl
  have HT := Lib.hid htr
  have hg0 : decide ((cap : Int) > 16777216) = false := by rw [decide_eq_false_iff_not]; omega
  have hcap5 : 5 ≤ cap := by rw [← hcap]; unfold sizeM; have := size_pos t.size; omega
  have hcl : cap ≤ 16777216 := by omega
  rw [hcap] at hlen
  clear hfit hcap
  have HLEN := Lib.hid hlen
  clear hlen h hch htr
  refine (callsIn_wide (n := 0)).1 ?_
  refine callsIn_of_wp_marks Tryz.func42 rfl trivial ?_ rfl
  simp only [Tryz.ntmps42, List.size_toArray, List.length_cons, List.length_nil, Nat.reduceAdd, Nat.reduceSub, Array.replicate_succ, Array.replicate_zero, List.push_toArray, List.append_toArray, List.nil_append, List.cons_append]
  refine (wpIn_wide (n := 0)).2 ?_
  go_wp2_with first
    | (refine wpList_load112 rfl _ rfl w.heap.size 0 rfl cv (range_row (heap_alloc_new w _)) hl ?_)
    | (go_at_call 96; ((with_reducible refine (CZ.out _ hb0).mono ?_)); rintro e w1 ⟨rfl, hb1⟩; have HB1 := Lib.hid hb1; have hr1 := (hb1.block w.heap.size (by simp)).trans (heap_alloc_new w _); have hs1 := hb1.size; clear hb1)
    | (at_make; refine wpList_make_own _ rfl _ _ 22 rfl w1.heap.size 5 i0 (.int .u8 0) 1 Tryz.underlying22 hi hz0 hz1 _ _ _ cap rfl rfl rfl (by rw [hz2]; omega) (by unfold maxLen; omega) (Nat.le_refl _) ?_; intro w2 ho2 hg2; have hlt2 := ho2.lt _ rfl; have HO2 := Lib.hid ho2; have HG2 := Lib.hid hg2; clear ho2 hg2)
    | (at_builtin; refine wp_fits_str _ rfl _ _ rfl w1.heap.size w1.heap.size cap [] rfl (HO2.out.alloc _) _ markL rfl rfl markL rfl (by omega) (by show 4 ≤ cap; omega) ?_; intro w3 ho3 hg3; have x3 := (Boxed.new w2 22 (.slice (some ⟨w1.heap.size, 0, none⟩) 0 cap)).kept hg3 (fun e => by injection e; omega); have c3 := x3.cell; have f3 := x3.frozen; have HO3 := Lib.hid ho3; have HG3 := Lib.hid hg3; have X3 := Lib.hid x3; clear ho3 hg3 x3)
  obtain ⟨W5, hW5⟩ : ∃ x, x = w3.setCell ⟨w2.heap.size, 0, none⟩ (.slice (some ⟨w1.heap.size, 0, none⟩) markL.length cap) := ⟨_, rfl⟩
  rw [← hW5]
  have o2 : OutAt (w2.alloc (.cells #[.slice (some ⟨w1.heap.size, 0, none⟩) 0 cap] 22)) w1.heap.size w2.heap.size cap [] := ⟨Boxed.new w2 22 _, HO2.out.alloc _⟩
  have u2 : Outs w1.heap.size w2.heap.size w1 (w2.alloc (.cells #[.slice (some ⟨w1.heap.size, 0, none⟩) 0 cap] 22)) := by
    have hg := HG2.out
    have hb : Below w1.heap.size w1 w2 := ⟨hg.os, hg.tape, hg.output, hg.size, fun k hk => hg.block k hk (by simp)⟩
    exact Outs.of_below (hb.alloc hb.size _) (Nat.le_refl _)
  obtain ⟨_, o5, u5⟩ := o2.put (Below.refl _ _) HG3.out HO3.out hlt2.2
  rw [← hW5] at o5 u5
  replace u5 := u2.trans u5
  have hz5 : w2.heap.size < W5.heap.size := o5.box.lt
  have hn5 : w1.heap.size < W5.heap.size := by omega
  have hs1' : w.heap.size < w1.heap.size := by have := hs1; rw [World.size_alloc] at this; omega
  have r5 : W5.heap[w.heap.size]? = some (.cells cv.toArray 112) := u5.row hr1 (by omega) (by omega)
  have hbw1 : Below w.heap.size w w1 := hb0.trans (HB1.out.mono (by simp))
  have hb5 : Below w.heap.size w W5 := hbw1.trans (u5.below.mono (by omega))
  have hS : (fun w' : World => w'.cell? ⟨w2.heap.size, 0, none⟩ = some (.slice (some ⟨w1.heap.size, 0, none⟩) markL.length cap) ∧ w'.rangeAt w.heap.size 0 cv) W5.drew := ⟨o5.box.cell, range_row (w := W5.drew) r5⟩
  have O5 := Lib.hid o5
  have U5 := Lib.hid u5
  have HB5 := Lib.hid hb5
  have HBW1 := Lib.hid hbw1
  obtain ⟨dd, hdd, hrw⟩ := und_of row_112
  clear hW5 o2 u2 o5 u5 hb5 hbw1 HO2 HG2 HO3 HG3 X3 c3 f3 HB1 hr1
  refine wp_region_noPanic ?_
  refine wp_region_heldL (S := fun w' : World => w'.cell? ⟨w2.heap.size, 0, none⟩ = some (.slice (some ⟨w1.heap.size, 0, none⟩) markL.length cap) ∧ w'.rangeAt w.heap.size 0 cv) (by kernel_rfl) ?_
  have hHeld := hS
  (refine wpAnyL_take (i := 0) (oi := ⟨some 16, _, _, _, _, _⟩) (v := .slice (some ⟨w1.heap.size, 0, none⟩) markL.length cap) rfl (by kernel_rfl) (by kernel_rfl) (by kernel_rfl) (fun _ _ _ h => h) (Or.inl ⟨by rfl, by intro w' hSw; obtain ⟨z1, z2⟩ := hSw; go_simp⟩) hHeld ?_; try simp only [Act.put, List.setIfInBounds_toArray, List.set_cons_zero, List.set_cons_succ])
  refine wpAnyL_take (i := 1) (oi := ⟨some 17, _, _, _, _, _⟩) (v := .agg cv.toArray) rfl (by kernel_rfl) (by kernel_rfl) (by kernel_rfl) (fun _ _ _ h => h) (yieldsIf_load_mid (by rfl) _ _ rfl w.heap.size 0 rfl cv dd (fun w h => h.2) hdd hrw (by rw [info_112, hl])) hHeld ?_
  try simp only [Act.put, List.setIfInBounds_toArray, List.set_cons_zero, List.set_cons_succ]
  (refine wpAnyL_one (i := 2) (o := ⟨some 18, _, _, _, _, _⟩) rfl (by kernel_rfl) (fun K' hK => ?_); rw [if_pos (by rfl)])
  go_simp
  (go_at_call 98; ((with_reducible refine (CL.out _ HB5.out.drew).mono ?_)); rintro e w4 ⟨rfl, rfl⟩)
  go_wp2_with fail
  (have hHeld := (show _ ∧ _ from ⟨(O5.out.box.alloc (.cells cv.toArray 112)).cell, range_row (w := (W5.drew).alloc (.cells cv.toArray 112)) (haOld W5.drew _ (show w.heap.size < W5.heap.size by omega) |>.trans r5)⟩); refine hK.out _ _ (.inl hHeld) ?_; clear hK K'; try simp only [Act.put, List.setIfInBounds_toArray, List.set_cons_zero, List.set_cons_succ])
  (refine wpAnyL_take (i := 3) (oi := ⟨some 19, _, _, _, _, _⟩) (v := .int .u64 (t.size : Int)) rfl (by kernel_rfl) (by kernel_rfl) (by kernel_rfl) (fun _ _ _ h => h) (Or.inl ⟨by rfl, by intro w' hSw; obtain ⟨z1, z2⟩ := hSw; go_simp; exact IntWalk.u64_in _ (by omega)⟩) hHeld ?_; try simp only [Act.put, List.setIfInBounds_toArray, List.set_cons_zero, List.set_cons_succ])
  (refine wpAnyL_one (i := 4) (o := ⟨some 20, _, _, _, _, _⟩) rfl (by kernel_rfl) (fun K' hK => ?_); rw [if_pos (by rfl)])
  go_simp
  (go_at_call 97; ((with_reducible refine (CN.out _).mono ?_)); rintro e w6 ⟨q6, d6, rfl, hn6⟩; skip)
  go_wp2_with fail
  have hi6 : IsB w6 q6 d6 (enc t.size) := (OB.of_own hn6.own).isB
  have hb6 : Below W5.heap.size W5 w6 := ((Below.refl _ W5).drew.alloc (by simp) (.cells cv.toArray 112)).trans (hn6.below.mono (by simp))
  (have hHeld := (show _ ∧ _ from ⟨(O5.out.below hb6).box.cell, range_row (w := w6) ((hb6.block w.heap.size (by omega)).trans r5)⟩); refine hK.out _ _ (.inl hHeld) ?_; clear hK K'; try simp only [Act.put, List.setIfInBounds_toArray, List.set_cons_zero, List.set_cons_succ])
  have hfit6 : (markL ++ enc t.size).length ≤ cap := by
    rw [HLEN.out]; unfold mapB; simp only [List.length_append, T.list_length]; omega
  obtain ⟨O6, hO6⟩ : ∃ O, markL ++ enc t.size = O := ⟨_, rfl⟩
  rw [hO6] at hfit6
  (refine wpAnyL_one (i := 5) (o := ⟨some 21, _, _, _, _, _⟩) rfl (by kernel_rfl) (fun K' hK => ?_); rw [if_pos (by rfl)])
  refine oper_of_list (ops := #[]) rfl ?_
  refine wp_fits_bytes _ rfl _ _ rfl w1.heap.size w1.heap.size cap markL rfl (O5.out.below hb6).own hi6 rfl O6 hO6 hfit6 ?_
  intro w7 ho7 hg7
  show K' _ _
  obtain ⟨hx7, o8, u8⟩ := O5.out.put hb6 hg7 ho7 hlt2.2
  have c7 := hx7.cell
  have f7 := hx7.frozen
  obtain ⟨W8, hW8⟩ : ∃ x, x = w7.setCell ⟨w2.heap.size, 0, none⟩ (.slice (some ⟨w1.heap.size, 0, none⟩) O6.length cap) := ⟨_, rfl⟩
  rw [← hW8] at o8 u8
  have hm7 : w7.rangeAt w.heap.size 0 cv := by
    have r7 : w7.heap[w.heap.size]? = some (.cells cv.toArray 112) := by
      rw [hg7.block _ (by have := hb6.size; omega) (by simp; omega)]
      exact (hb6.block w.heap.size (by omega)).trans r5
    exact range_row (w := w7) r7
  (have hHeld := (show _ ∧ _ from ⟨c7, hm7⟩); refine hK.out _ _ (.inl hHeld) ?_; clear hK K'; try simp only [Act.put, List.setIfInBounds_toArray, List.set_cons_zero, List.set_cons_succ])
  (refine wpAnyL_one (i := 6) (o := ⟨none, _, _, _, _, _⟩) rfl (by kernel_rfl) (fun K' hK => ?_); rw [if_pos (by rfl)])
  go_simp
  (refine hK.out _ _ (.inr (by kernel_rfl)) ?_; clear hK K'; refine wpAnyL_done (by kernel_rfl) ?_ _)
  refine NoPanic.normal ?_
  rw [← hW8]
  replace u8 := U5.out.trans u8
  have r8 : W8.heap[w.heap.size]? = some (.cells cv.toArray 112) := by
    rw [hW8, Below.heap_setCell _ _ _ _ (show w.heap.size ≠ w2.heap.size by omega), hg7.block _ (by have := hb6.size; omega) (by simp; omega)]
    exact (hb6.block w.heap.size (by omega)).trans r5
  have hz8 : w2.heap.size < W8.heap.size := o8.box.lt
  have O8 := Lib.hid o8
  have U8 := Lib.hid u8
  clear hW8 o8 u8 ho7 hg7 hx7 c7 f7 hi6 hb6 hn6 hHeld hS O5 U5 hm7 HB5 r5 hfit6
  go_wp2_with first
    | (refine wpList_load112 rfl _ rfl w.heap.size 0 rfl cv (range_row r8) hl ?_)
    | (go_at_call 100; ((with_reducible refine (CI.out _).mono ?_)); rintro e w4 ⟨rfl, rfl⟩)
    | (go_at_call 99; ((with_reducible refine (CA.out _).mono ?_)); rintro e w4 ⟨rfl, rfl⟩)
  refine (wpIn_wide (n := 0)).1 ?_
  obtain ⟨W0, hW0⟩ : ∃ x, x = (((W8.alloc (.cells cv.toArray 112)).alloc (.cells #[.pointer p] 43)).alloc (.cells #[.slice none 0 0, .slice none 0 0, .bool false] 151)) := ⟨_, rfl⟩
  have hs0 : W0.heap.size = W8.heap.size + 3 := by rw [hW0]; simp
  have hb80 : Below W8.heap.size W8 W0 := by rw [hW0]; exact (((Below.refl _ W8).alloc (Nat.le_refl _) _).alloc (by simp) _).alloc (by simp; omega) _
  have xp : Boxed W0 (W8.heap.size + 1) 43 (.pointer p) := by
    rw [hW0]; have := Boxed.new (W8.alloc (.cells cv.toArray 112)) 43 (.pointer p); rw [World.size_alloc] at this; exact this.alloc _
  have xs : W0.heap[W8.heap.size + 1 + 1]? = some (.cells #[.slice none 0 0, .slice none 0 0, .bool false] 151) := by
    rw [hW0]; have := heap_alloc_new ((W8.alloc (.cells cv.toArray 112)).alloc (.cells #[.pointer p] 43)) (.cells #[.slice none 0 0, .slice none 0 0, .bool false] 151); rw [World.size_alloc, World.size_alloc] at this; exact this
  have o0 : OutAt W0 w1.heap.size w2.heap.size cap (outL t []) := by rw [outL_nil, hO6]; exact O8.out.below hb80
  have u0 : Outs w1.heap.size w2.heap.size w1 W0 := U8.out.trans (Outs.of_below hb80 (by omega))
  have nilB : IsB W0 none 0 [] := IsB.none_ W0
  have hT0 : TreeAt W0 (fun k => k < w1.heap.size) p t := ((HT.out.mono (D' := fun k => k < w.heap.size) (fun k hk _ => hk)).below (HBW1.out.trans (u0.below.mono (by omega)))).mono (fun k _ hk => Nat.lt_trans hk hs1')
  have SQ := allSeq W0 (n₀ := w1.heap.size) (by omega) (by omega) (by omega) hT0 hne.small (by omega) nilB nilB false xp.cell xs
  rw [seqM_all] at SQ
  rw [← hW0]
  clear hW0 xp xs hb80 hT0 r8
  refine wpIn_seqG (gf := 172) (lb := #[.pointer (some ⟨W8.heap.size + 1, 0, none⟩), .pointer (some ⟨W8.heap.size + 1 + 1, 0, none⟩)]) rfl (enters_of Tryz.func172 (by kernel_rfl) rfl) SQ (by omega) (Below.refl _ _) ?hps
    (fun g pre A => OutAt A w1.heap.size w2.heap.size cap (outL t pre) ∧ Outs w1.heap.size w2.heap.size w1 A ∧ W0.heap.size ≤ A.heap.size)
    (fun _ _ _ _ => False) ?hI ?hIx ?h0
    (fun g pre x a' A => (OutAt A w1.heap.size w2.heap.size cap (outL t pre) ∧ Outs w1.heap.size w2.heap.size w1 A ∧ W0.heap.size ≤ A.heap.size) ∧ ∃ q1 d1 q2 d2 pb, A.heap[pb]? = some (.cells #[.slice q1 x.1.1.length d1, .slice q2 x.1.2.length d2] 61) ∧ W0.heap.size ≤ pb ∧ IsD A (fun j => W0.heap.size ≤ j) q1 d1 x.1.1 ∧ IsD A (fun j => W0.heap.size ≤ j) q2 d2 x.1.2 ∧
      a' = { tmps := #[.agg cv.toArray, .pointer (some ⟨w.heap.size, 0, none⟩), .slice none 0 0, .int .i64 0, .int .i64 (cap : Int), .pointer (some ⟨w2.heap.size, 0, none⟩), undef, .pointer (some ⟨pb, 0, none⟩), .agg cv.toArray, .int .i64 (cap : Int), .int .i64 (cap : Int), .bool false, .int .i64 (cap : Int), .slice (some ⟨w1.heap.size, 0, none⟩) 0 cap, .slice (some ⟨w1.heap.size, 0, none⟩) 0 cap, .slice (some ⟨w1.heap.size, 0, none⟩) markL.length cap, .slice (some ⟨w1.heap.size, 0, none⟩) markL.length cap, .agg cv.toArray, .int .i64 (t.size : Int), .int .u64 (t.size : Int), .slice q6 (enc t.size).length d6, .slice (some ⟨w1.heap.size, 0, none⟩) O6.length cap, .agg cv.toArray, .pointer p, .agg #[.slice none 0 0, .slice none 0 0, .bool false],
          .func (.func 172) #[] #[.pointer (some ⟨W8.heap.size + 1, 0, none⟩), .pointer (some ⟨W8.heap.size + 1 + 1, 0, none⟩)], .int .i64 (x.2 : Int), pairV q1 d1 x.1.1 q2 d2 x.1.2, undef, undef, undef, undef, undef, undef, undef, undef, undef, undef, undef], defers := [] }) ?hAx ?assign ?body ?done ?stop
  case hps => rintro A x args ⟨q1, d1, q2, d2, rfl, _⟩; rfl
  case hI =>
    rintro g pre A B row hg ⟨h1, h2, h3⟩ hgr ht
    have ho1 := h1.own.lt _ rfl
    have ho2 := h1.box.lt
    have e1 : some w1.heap.size ≠ row := fun e => by rcases ht _ e.symm with h | ⟨h, _⟩ <;> omega
    have e2 : some w2.heap.size ≠ row := fun e => by rcases ht _ e.symm with h | ⟨h, _⟩ <;> omega
    exact ⟨h1.grown hgr e1 e2, ⟨h2.below.grown hgr h2.below.size (fun k e => by rcases ht _ e with h | ⟨h, _⟩ <;> omega), fun j hj n1 n2 => (hgr.block j (Nat.lt_of_lt_of_le hj h2.below.size) (fun e => by rcases ht _ e.symm with h | ⟨h, _⟩ <;> omega)).trans (h2.same j hj n1 n2)⟩, Nat.le_trans h3 hgr.size⟩
  case hIx => intro c g pre A B row hg h; exact h.elim
  case h0 => exact fun g hg => ⟨o0, u0, Nat.le_refl _⟩
  case hAx =>
    rintro g pre x a' A l o hg hl hlg hlo ⟨⟨h1, h2, h3⟩, q1, d1, q2, d2, pb, hpb, hlt, hk, hv, rfl⟩ o'
    have hgr := grownBy_putObj' A l (.loop o')
    have hne : pb ≠ l := fun e => by subst e; rw [hpb] at hlo; cases hlo
    exact ⟨⟨h1.grown hgr (by simp; omega) (by simp; omega), ⟨h2.below.grown hgr h2.below.size (fun k e => by cases e; omega), fun j hj n1 n2 => (World.putObj_heap_other (by omega)).trans (h2.same j hj n1 n2)⟩, Nat.le_trans h3 hgr.size⟩, q1, d1, q2, d2, pb, (World.putObj_heap_other hne).trans hpb, hlt, hk.loop _ hlo, hv.loop _ hlo, rfl⟩
  case assign =>
    rintro l g pre x post args W K hg hxs ⟨h1, h2, h3⟩ ⟨q1, d1, q2, d2, rfl, hk, hv⟩ hK
    gi_wp2
    have hba := (Below.refl W.heap.size W).alloc (Nat.le_refl _) (.cells #[.slice q1 x.1.1.length d1, .slice q2 x.1.2.length d2] 61)
    refine hK _ _ ((KeepsOthers.alloc W _).from _) ⟨hba.mono (by omega), fun h => haOld W _ h⟩ ⟨⟨h1.below hba, h2.trans (Outs.of_below hba (by omega)), by simp; omega⟩, q1, d1, q2, d2, W.heap.size, heap_alloc_new W _, by omega, hk.below hba, hv.below hba, ?_⟩
    rfl
  case body =>
    rintro l g pre x post a' W hg hl hlg hxs ⟨⟨oW, uW, hzW⟩, q1, d1, q2, d2, pb, pW, hlt, hk, hv, rfl⟩
    have hxm : x.1 ∈ t.list := by rw [zip_pre hxs]; simp
    have hxn := hne x.1 hxm
    have hle := outL_le hxs
    rw [outL_snoc, ← HLEN.out] at hle
    have hsn := outL_snoc t pre x
    obtain ⟨⟨k, v⟩, j⟩ := x
    dsimp only at pW hxn hk hv hle hsn
    obtain ⟨L0, hL0⟩ : ∃ L, outL t pre = L := ⟨_, rfl⟩
    obtain ⟨L1, hL1⟩ : ∃ L, L0 ++ textB k = L := ⟨_, rfl⟩
    obtain ⟨L2, hL2⟩ : ∃ L, L1 ++ textB v = L := ⟨_, rfl⟩
    rw [hL0, hL1, hL2] at hle hsn
    rw [hL0] at oW
    have L2fit : L2.length ≤ cap := hle
    have L1fit : L1.length ≤ cap := by have := congrArg List.length hL2; rw [List.length_append] at this; omega
    have HL1 := Lib.hid hL1
    have HL2 := Lib.hid hL2
    have HSN := Lib.hid hsn
    have HUW := Lib.hid uW
    have HK := Lib.hid hk
    have HV := Lib.hid hv
    clear hxs hxm hle hsn hL0 hL1 hL2 uW hk hv SQ o0 u0 nilB
    gi_wp2
    have hS28 : (fun w' : World => w'.cell? ⟨w2.heap.size, 0, none⟩ = some (.slice (some ⟨w1.heap.size, 0, none⟩) L0.length cap) ∧ w'.cell? ⟨pb, 0, none⟩ = some (.slice q1 k.length d1)) W.drew := ⟨oW.box.cell, cell_of_row W pb 0 _ _ (0, 0) pW⟩
    have CT28 := Lib.hid (show Calls Tryz.prog 101 #[.slice q1 k.length d1] W.drew (fun e w' => ∃ q d, e = .returned (.slice q (textB k).length d) ∧ NumR W.drew w' q d (textB k)) from frText W.drew (p := q1) (c := d1) (l := k) (IsB.below (w := W) HK.out.b (Below.refl _ _).drew) (by omega))
    have OO28 := Lib.hid oW
    have PP28 := Lib.hid pW
    clear oW pW
    refine wpIn_round_heldL (S := fun w' : World => w'.cell? ⟨w2.heap.size, 0, none⟩ = some (.slice (some ⟨w1.heap.size, 0, none⟩) L0.length cap) ∧ w'.cell? ⟨pb, 0, none⟩ = some (.slice q1 k.length d1)) (by kernel_rfl) (fun _ _ h => h) (by kernel_rfl) ?_
    have hHeld := hS28
    (refine wpAnyL_take (i := 0) (oi := ⟨some 28, _, _, _, _, _⟩) (v := .slice (some ⟨w1.heap.size, 0, none⟩) L0.length cap) rfl (by kernel_rfl) (by kernel_rfl) (by kernel_rfl) (fun _ _ _ h => h) (Or.inl ⟨by rfl, by intro w' hSw; obtain ⟨z1, z2⟩ := hSw; go_simp⟩) hHeld ?_; try simp only [Act.put, List.setIfInBounds_toArray, List.set_cons_zero, List.set_cons_succ])
    (refine wpAnyL_take (i := 1) (oi := ⟨some 29, _, _, _, _, _⟩) (v := .pointer (some ⟨pb, 0, none⟩)) rfl (by kernel_rfl) (by kernel_rfl) (by kernel_rfl) (fun _ _ _ h => h) (Or.inl ⟨by rfl, by intro w' hSw; obtain ⟨z1, z2⟩ := hSw; go_simp⟩) hHeld ?_; try simp only [Act.put, List.setIfInBounds_toArray, List.set_cons_zero, List.set_cons_succ])
    (refine wpAnyL_take (i := 2) (oi := ⟨some 30, _, _, _, _, _⟩) (v := .slice q1 k.length d1) rfl (by kernel_rfl) (by kernel_rfl) (by kernel_rfl) (fun _ _ _ h => h) (Or.inl ⟨by rfl, by intro w' hSw; obtain ⟨z1, z2⟩ := hSw; go_simp⟩) hHeld ?_; try simp only [Act.put, List.setIfInBounds_toArray, List.set_cons_zero, List.set_cons_succ])
    (refine wpAnyL_one (i := 3) (o := ⟨some 31, _, _, _, _, _⟩) rfl (by kernel_rfl) (fun K' hK => ?_); rw [if_pos (by rfl)])
    go_simp
    (go_at_call 101; ((with_reducible refine (CT28.out).mono ?_)); rintro e w4 ⟨qq28, dd28, rfl, nn28⟩)
    go_wp2_with fail
    have bb28 : Below W.heap.size W w4 := ((Below.refl _ W).drew).trans nn28.below
    have ii28 : IsB w4 qq28 dd28 (textB k) := (OB.of_own nn28.own).isB
    (have hHeld := (show _ ∧ _ from ⟨(OO28.out.below bb28).box.cell, cell_of_row w4 pb 0 _ _ (0, 0) ((bb28.block pb (row_ltT PP28.out)).trans PP28.out)⟩); refine hK.out _ _ (.inl hHeld) ?_; clear hK K'; try simp only [Act.put, List.setIfInBounds_toArray, List.set_cons_zero, List.set_cons_succ])
    (refine wpAnyL_one (i := 4) (o := ⟨some 32, _, _, _, _, _⟩) rfl (by kernel_rfl) (fun K' hK => ?_); rw [if_pos (by rfl)])
    refine oper_of_list (ops := #[]) rfl ?_
    refine wp_fits_bytes _ rfl _ _ rfl w1.heap.size w1.heap.size cap L0 rfl (OO28.out.below bb28).own ii28 rfl L1 HL1.out L1fit ?_
    intro w5 ho28 hg28
    show K' _ _
    obtain ⟨hx28, oW6, uW6⟩ := OO28.out.put bb28 hg28 ho28 hlt2.2
    obtain ⟨W6, hW28⟩ : ∃ x, x = w5.setCell ⟨w2.heap.size, 0, none⟩ (.slice (some ⟨w1.heap.size, 0, none⟩) L1.length cap) := ⟨_, rfl⟩
    rw [← hW28] at oW6 uW6
    have cc28 := hx28.cell
    have ff28 := hx28.frozen
    have pp28 : w5.cell? ⟨pb, 0, none⟩ = some (.slice q1 k.length d1) := cell_of_row w5 pb 0 _ _ (0, 0) ((hg28.block pb (Nat.lt_of_lt_of_le (row_ltT PP28.out) bb28.size) (by simp; omega)).trans ((bb28.block pb (row_ltT PP28.out)).trans PP28.out))
    (have hHeld := (show _ ∧ _ from ⟨cc28, pp28⟩); refine hK.out _ _ (.inl hHeld) ?_; clear hK K'; try simp only [Act.put, List.setIfInBounds_toArray, List.set_cons_zero, List.set_cons_succ])
    (refine wpAnyL_one (i := 5) (o := ⟨none, _, _, _, _, _⟩) rfl (by kernel_rfl) (fun K' hK => ?_); rw [if_pos (by rfl)])
    go_simp
    (refine hK.out _ _ (.inr (by kernel_rfl)) ?_; clear hK K'; refine wpAnyL_done (by kernel_rfl) ?_ _)
    rw [← hW28]
    have pW6 := uW6.row PP28.out (by omega) (by omega)
    have UU28 := Lib.hid uW6
    clear hW28 uW6 ho28 hg28 hx28 cc28 ff28 pp28 ii28 bb28 nn28 hHeld
    have HV6 := Lib.hid (UU28.out.isD HV.out (show ¬ W0.heap.size ≤ w1.heap.size by omega) (show ¬ W0.heap.size ≤ w2.heap.size by omega))
    have hzW6 : W.heap.size ≤ W6.heap.size := UU28.out.below.size
    gi_wp2
    have hS33 : (fun w' : World => w'.cell? ⟨w2.heap.size, 0, none⟩ = some (.slice (some ⟨w1.heap.size, 0, none⟩) L1.length cap) ∧ w'.cell? ⟨pb, 1, none⟩ = some (.slice q2 v.length d2)) W6.drew := ⟨oW6.box.cell, cell_of_row W6 pb 1 _ _ (0, 0) pW6⟩
    have CT33 := Lib.hid (show Calls Tryz.prog 101 #[.slice q2 v.length d2] W6.drew (fun e w' => ∃ q d, e = .returned (.slice q (textB v).length d) ∧ NumR W6.drew w' q d (textB v)) from frText W6.drew (p := q2) (c := d2) (l := v) (IsB.below (w := W6) HV6.out.b (Below.refl _ _).drew) (by omega))
    have OO33 := Lib.hid oW6
    have PP33 := Lib.hid pW6
    clear oW6 pW6
    refine wpIn_round_heldL (S := fun w' : World => w'.cell? ⟨w2.heap.size, 0, none⟩ = some (.slice (some ⟨w1.heap.size, 0, none⟩) L1.length cap) ∧ w'.cell? ⟨pb, 1, none⟩ = some (.slice q2 v.length d2)) (by kernel_rfl) (fun _ _ h => h) (by kernel_rfl) ?_
    have hHeld := hS33
    (refine wpAnyL_take (i := 0) (oi := ⟨some 33, _, _, _, _, _⟩) (v := .slice (some ⟨w1.heap.size, 0, none⟩) L1.length cap) rfl (by kernel_rfl) (by kernel_rfl) (by kernel_rfl) (fun _ _ _ h => h) (Or.inl ⟨by rfl, by intro w' hSw; obtain ⟨z1, z2⟩ := hSw; go_simp⟩) hHeld ?_; try simp only [Act.put, List.setIfInBounds_toArray, List.set_cons_zero, List.set_cons_succ])
    (refine wpAnyL_take (i := 1) (oi := ⟨some 34, _, _, _, _, _⟩) (v := .pointer (some ⟨pb, 1, none⟩)) rfl (by kernel_rfl) (by kernel_rfl) (by kernel_rfl) (fun _ _ _ h => h) (Or.inl ⟨by rfl, by intro w' hSw; obtain ⟨z1, z2⟩ := hSw; go_simp⟩) hHeld ?_; try simp only [Act.put, List.setIfInBounds_toArray, List.set_cons_zero, List.set_cons_succ])
    (refine wpAnyL_take (i := 2) (oi := ⟨some 35, _, _, _, _, _⟩) (v := .slice q2 v.length d2) rfl (by kernel_rfl) (by kernel_rfl) (by kernel_rfl) (fun _ _ _ h => h) (Or.inl ⟨by rfl, by intro w' hSw; obtain ⟨z1, z2⟩ := hSw; go_simp⟩) hHeld ?_; try simp only [Act.put, List.setIfInBounds_toArray, List.set_cons_zero, List.set_cons_succ])
    (refine wpAnyL_one (i := 3) (o := ⟨some 36, _, _, _, _, _⟩) rfl (by kernel_rfl) (fun K' hK => ?_); rw [if_pos (by rfl)])
    go_simp
    (go_at_call 101; ((with_reducible refine (CT33.out).mono ?_)); rintro e w7 ⟨qq33, dd33, rfl, nn33⟩)
    go_wp2_with fail
    have bb33 : Below W6.heap.size W6 w7 := ((Below.refl _ W6).drew).trans nn33.below
    have ii33 : IsB w7 qq33 dd33 (textB v) := (OB.of_own nn33.own).isB
    (have hHeld := (show _ ∧ _ from ⟨(OO33.out.below bb33).box.cell, cell_of_row w7 pb 1 _ _ (0, 0) ((bb33.block pb (row_ltT PP33.out)).trans PP33.out)⟩); refine hK.out _ _ (.inl hHeld) ?_; clear hK K'; try simp only [Act.put, List.setIfInBounds_toArray, List.set_cons_zero, List.set_cons_succ])
    (refine wpAnyL_one (i := 4) (o := ⟨some 37, _, _, _, _, _⟩) rfl (by kernel_rfl) (fun K' hK => ?_); rw [if_pos (by rfl)])
    refine oper_of_list (ops := #[]) rfl ?_
    refine wp_fits_bytes _ rfl _ _ rfl w1.heap.size w1.heap.size cap L1 rfl (OO33.out.below bb33).own ii33 rfl L2 HL2.out L2fit ?_
    intro w9 ho33 hg33
    show K' _ _
    obtain ⟨hx33, oW10, uW10⟩ := OO33.out.put bb33 hg33 ho33 hlt2.2
    obtain ⟨W10, hW33⟩ : ∃ x, x = w9.setCell ⟨w2.heap.size, 0, none⟩ (.slice (some ⟨w1.heap.size, 0, none⟩) L2.length cap) := ⟨_, rfl⟩
    rw [← hW33] at oW10 uW10
    have cc33 := hx33.cell
    have ff33 := hx33.frozen
    have pp33 : w9.cell? ⟨pb, 1, none⟩ = some (.slice q2 v.length d2) := cell_of_row w9 pb 1 _ _ (0, 0) ((hg33.block pb (Nat.lt_of_lt_of_le (row_ltT PP33.out) bb33.size) (by simp; omega)).trans ((bb33.block pb (row_ltT PP33.out)).trans PP33.out))
    (have hHeld := (show _ ∧ _ from ⟨cc33, pp33⟩); refine hK.out _ _ (.inl hHeld) ?_; clear hK K'; try simp only [Act.put, List.setIfInBounds_toArray, List.set_cons_zero, List.set_cons_succ])
    (refine wpAnyL_one (i := 5) (o := ⟨none, _, _, _, _, _⟩) rfl (by kernel_rfl) (fun K' hK => ?_); rw [if_pos (by rfl)])
    go_simp
    (refine hK.out _ _ (.inr (by kernel_rfl)) ?_; clear hK K'; refine wpAnyL_done (by kernel_rfl) ?_ _)
    rw [← hW33]
    have pW10 := uW10.row PP33.out (by omega) (by omega)
    have UU33 := Lib.hid uW10
    clear hW33 uW10 ho33 hg33 hx33 cc33 ff33 pp33 ii33 bb33 nn33 hHeld
    have uu := UU28.out.trans UU33.out
    refine ⟨uu.keepsFrom (by omega) (by omega), uu.keep (by omega) (by omega), ?_, HUW.out.trans uu, Nat.le_trans hzW uu.below.size⟩
    rw [HSN.out]
    exact oW10
  case done =>
    rintro D' g W hD hDg ⟨h1, h2, h3⟩ hK
    rw [outL_all] at h1
    have c1 := h1.box.cell
    have HK := Lib.hid hK
    have H1 := Lib.hid h1
    have H2 := Lib.hid h2
    clear h1 hK h2 SQ o0 u0
    gi_wp2
    go_wp2
    refine ⟨by simp, .inl ⟨_, _, rfl, run_takeDeferred HK.out, ?_⟩⟩
    refine ⟨_, results_tmp2 rfl _ _ _, ?_⟩
    have hgr := grownBy_putObj' W D' (.deferred none)
    have h1 := H1.out.own.kept hgr (.inr (by simp [Value.ownBlock]; omega))
    refine ⟨some ⟨w1.heap.size, 0, none⟩, cap, rfl, ?_, ?_⟩
    · exact own_base h1 (by omega)
    · exact (HBW1.out.trans (H2.out.below.mono (by omega))).grown hgr (by have := H2.out.below.size; omega) (fun k e => by cases e; omega)
  case stop =>
    rintro D' g c pre W _ _ _ h _
    exact h.elim
end Go.Proofs.YtmbiiemlepfoaaaGreatDoor
namespace Go.Proofs.YtmbiiemlepfoaaaGreatDoor
open Go.RowKit
set_option linter.unusedVariables false
set_option maxHeartbeats 1000000 in
set_option maxRecDepth 100000 in
theorem mapsEncode (w : World) {S D : Nat → Prop} {mp g sb r tk next hd : Nat} {l : List UInt8} {L : List (Nat × Ch)} (h : MapsAt w S D mp g sb r l tk L next) {x : Nat × Ch} (hx : L.find? (fun x => x.1 == hd) = some x) (hne : x.2.t.Neat) (hsz : x.2.t.size ≤ 1000000) (hfit : sizeM x.2.t ≤ 16777216) :
    Calls Tryz.prog 12 #[.pointer (some ⟨mp, 0, none⟩), .int .i64 (hd : Int)] w fun e w' => ∃ q d, e = .returned (.tuple #[.slice q (mapB x.2.t.list).length d, .int .i64 0]) ∧ w'.ownsRow w.heap.size 5 1 (.slice q (mapB x.2.t.list).length d) (mapB x.2.t.list).length ((mapB x.2.t.list).map bv) ∧ Below w.heap.size w w' := by
  have CG := Lib.hid (shelfGet w h.shelf hx)
  have c1 : w.cell? ⟨mp, 1, none⟩ = some (.pointer (some ⟨sb, 0, none⟩)) := cell_of_row w mp 1 _ _ (0, 0) h.row
  have CE := Lib.hid (show ∀ w' cv, IsCh w' D x.2.s x.2.n x.2.t cv → Calls Tryz.prog 42 #[.agg cv.toArray] w' _ from fun w' cv hc => codecEncode w' hc hne hsz hfit)
  clear h hx hne hsz hfit
  go_enter Tryz.func12, Tryz.ntmps12
  go_wp2_with fail
  (go_at_call 41; ((with_reducible refine (CG.out).mono ?_)); rintro e w1 ⟨cv, rfl, hc1, hb1⟩; have HC1 := Lib.hid hc1; clear hc1)
  have hsz := HC1.out.size
  have hone := HC1.out.one
  go_wp2_with (first | (refine wpList_store_row rfl 112 _ _ rfl w1.heap.size rfl cv.toArray rfl 112 _ (heap_alloc_new w1 _) (by rw [info_112]; simp [hsz]) (by simp [hsz]) hone ?_) | (refine wpList_load112 rfl _ rfl w1.heap.size 0 rfl cv (range_set (heap_alloc_new w1 _)) hsz ?_) | fail)
  rw [World.setRow_alloc_new]
  have hbx : Below w1.heap.size w1 (w1.alloc (.cells cv.toArray 112)) := (Below.refl _ _).alloc (Nat.le_refl _) _
  have hb2 := below_step hb1 hbx
  have HC2 := Lib.hid (HC1.out.below hbx)
  (go_at_call 42; ((with_reducible refine (CE.out _ _ HC2.out).mono ?_)); rintro e w3 ⟨q, d, rfl, ho3, hb3⟩; have HO3 := Lib.hid ho3; have HB3 := Lib.hid (below_step hb2 hb3); clear ho3 hb3)
  go_wp2_with fail
  go_ret2
  exact ⟨q, d, rfl, own_base HO3.out hb2.size, HB3.out⟩
theorem dd1 : Lib.decDigits 1 = [49] := by first | decide | rfl | simp [Lib.decDigits]
theorem dd2 : Lib.decDigits 2 = [50] := by first | decide | rfl | simp [Lib.decDigits]
set_option maxRecDepth 100000 in
theorem textNew (w : World) (hS : Stat w) : Calls Tryz.prog 151 #[.agg csNew.toArray] w fun e w' => e = .returned (.tuple #[.string (str (lineNew ++ [10])), .bool true]) ∧ Below w.heap.size w w' :=
  callText w hS 2 (by omega) (by omega) 0 0 0 0 (p5 := none) (p6 := none) (c5 := 0) (c6 := 0) (l5 := []) (l6 := []) (IsB.none_ w) (IsB.none_ w) lineNew [] lineNew rfl rfl (ascii_args _ (by decide)) (by decide)
    (fun _ => lineNew) (fun _ => []) rfl (fun i hi => by simp at hi) rfl (fun i _ => by decide) (fun i hi => by simp at hi)
    (fun W pos c _ h => by simp at h) (fun W hW => (readNew W (hS.keep (le7 hW hS.big))).mono fun e w' ⟨h1, h2⟩ => ⟨none, 0, none, 0, h1, IsB.none_ w', IsB.none_ w', h2⟩)
set_option maxRecDepth 100000 in
theorem textEnc (w : World) (hS : Stat w) : Calls Tryz.prog 151 #[.agg csEnc.toArray] w fun e w' => e = .returned (.tuple #[.string (str (lineEnc ++ [10])), .bool true]) ∧ Below w.heap.size w w' :=
  callText w hS 17 (by omega) (by omega) 2 0 0 0 (p5 := none) (p6 := none) (c5 := 0) (c6 := 0) (l5 := []) (l6 := []) (IsB.none_ w) (IsB.none_ w) [101, 110, 99, 111, 100, 101] [104] lineEnc rfl rfl (ascii_args _ (by decide)) (by decide)
    (fun i => if i = 0 then [101, 110, 99, 111, 100, 101] else lineEnc) (fun _ => [50]) rfl (fun i hi => by
      obtain rfl : i = 0 := by simpa using hi
      rfl) rfl (fun i _ => by show (if i = 0 then [101, 110, 99, 111, 100, 101] else lineEnc : List UInt8).length ≤ 1000; split <;> decide) (fun i hi => by decide)
    (fun W pos c _ h => by
      obtain rfl : pos = 0 := by
        have := (List.getElem?_eq_some_iff.1 h).1
        simpa using this
      obtain rfl : c = 104 := (Option.some.inj h).symm
      have := oneH W 17 0 0 0 2 (by omega) none none 0 0 [] []
      rw [dd2] at this
      exact this) (fun W hW => (readEnc W (hS.keep (le7 hW hS.big))).mono fun e w' ⟨h1, h2⟩ => ⟨none, 0, none, 0, h1, IsB.none_ w', IsB.none_ w', h2⟩)
def putAcc : Nat → List UInt8
  | 0 => [112, 117, 116]
  | 1 => [112, 117, 116, 32, 49]
  | 2 => [112, 117, 116, 32, 49, 32, 34, 107, 34]
  | _ => linePut
def putOut : Nat → List UInt8
  | 0 => [49]
  | 1 => [34, 107, 34]
  | _ => [34, 118, 34]
theorem qtK : qt [107] = [34, 107, 34] := by decide
theorem qtV : qt [118] = [34, 118, 34] := by decide
set_option maxRecDepth 100000 in
theorem textPut (w : World) (hS : Stat w) {q q2 : Option Addr} {d d2 : Nat} (hk : IsB w q d [107]) (hv : IsB w q2 d2 [118]) : Calls Tryz.prog 151 #[.agg (csPut q d q2 d2).toArray] w fun e w' => e = .returned (.tuple #[.string (str (linePut ++ [10])), .bool true]) ∧ Below w.heap.size w w' :=
  callText w hS 4 (by omega) (by omega) 1 0 0 0 (p5 := q) (p6 := q2) (c5 := d) (c6 := d2) (l5 := [107]) (l6 := [118]) hk hv [112, 117, 116] [104, 107, 118] linePut rfl rfl (ascii_args _ (by decide)) (by decide)
    putAcc putOut rfl (fun i hi => by
      have hi : i < 3 := hi
      match i, hi with
      | 0, _ => rfl
      | 1, _ => rfl
      | 2, _ => rfl) rfl (fun i hi => by
      have hi : i ≤ 3 := hi
      match i, hi with
      | 0, _ => decide
      | 1, _ => decide
      | 2, _ => decide
      | 3, _ => decide) (fun i hi => by
      have hi : i < 3 := hi
      match i, hi with
      | 0, _ => decide
      | 1, _ => decide
      | 2, _ => decide)
    (fun W pos c hW h => by
      have hp : pos < 3 := (List.getElem?_eq_some_iff.1 h).1
      match pos, hp, h with
      | 0, _, h =>
        obtain rfl : c = 104 := (Option.some.inj h).symm
        have := oneH W 4 0 0 0 1 (by omega) q q2 d d2 [107] [118]
        rw [dd1] at this
        exact this
      | 1, _, h =>
        obtain rfl : c = 107 := (Option.some.inj h).symm
        have := oneK W (hS.keep (le7 hW hS.big)).tabs 4 1 0 0 0 (p6 := q2) (c6 := d2) (l6 := [118]) (hk.below hW) (by decide)
        rw [qtK] at this
        exact this
      | 2, _, h =>
        obtain rfl : c = 118 := (Option.some.inj h).symm
        have := oneV W (hS.keep (le7 hW hS.big)).tabs 4 1 0 0 0 (p5 := q) (c5 := d) (l5 := [107]) (hv.below hW) (by decide)
        rw [qtV] at this
        exact this)
    (fun W hW => (readPut W (hS.keep (le7 hW hS.big))).mono fun e w' ⟨q', d', q2', d2', h1, h2, h3, h4⟩ => ⟨q', d', q2', d2', h1, h2.isB, h3.isB, h4⟩)
set_option maxHeartbeats 4000000 in
set_option maxRecDepth 100000 in
theorem doNew (w : World) (hS : Stat w) {S D : Nat → Prop} {mp g sb r tk next : Nat} {l : List UInt8} {L : List (Nat × Ch)} (h : MapsAt w S D mp g sb r l tk L next) (hL : L.length < 64) (hl : 16 ≤ l.length) (ht : tk < 1000000) (hn : next + 1 < 100) (hdl : (Lib.decDigits (next + 1)).length ≤ 100) (hge : 7 ≤ g ∧ 7 ≤ sb ∧ 7 ≤ r) :
    Calls Tryz.prog 77 #[.pointer (some ⟨mp, 0, none⟩), .agg csNew.toArray] w fun e w' => e = .returned (.tuple #[.string (str (handleLine (next + 1))), .bool true]) ∧ MapsAt w' S D mp g sb r (l.drop 16) (tk + 1) (L ++ [(next + 1, ⟨l.take 16, none, .nil⟩)]) (next + 1) ∧ Kept w w' (Wr g sb r) := by
  have hbo : Below w.heap.size w (w.alloc (.cells csNew.toArray 180)) := below1 w _
  have CX := Lib.hid (textNew (w.alloc (.cells csNew.toArray 180)) (hS.keep (le7 hbo hS.big)))
  have CP := Lib.hid (fun W (hW : Below (w.alloc (.cells csNew.toArray 180)).heap.size (w.alloc (.cells csNew.toArray 180)) W) => putNew W (hS.keep (le7 (hbo.trans (hW.mono hbo.size)) hS.big)) (h.below (hbo.trans (hW.mono hbo.size))) hL hl ht hn hdl hge)
  have HBO := Lib.hid hbo
  clear h hS hL hl ht hge hbo
  unfold csNew at *
  go_enter Tryz.func77, Tryz.ntmps77
  go_wp2_with first
    | (go_at_call 151; ((with_reducible refine (CX.out).mono ?_)); rintro e w2 ⟨rfl, hb2⟩; have r3 : w2.heap[w.heap.size]? = some (.cells #[.int .i64 2, .int .i64 0, .int .i64 0, .int .i64 0, .int .i64 0, .slice none 0 0, .slice none 0 0, .slice none 0 0, .slice none 0 0, .bool false] 180) := (hb2.block _ (by simp)).trans (heap_alloc_new w _); have z0 : w2.cell? ⟨w.heap.size, 0, none⟩ = some (.int .i64 2) := cell_of_row w2 _ 0 _ _ (0, 0) r3; have z1 : w2.cell? ⟨w.heap.size, 1, none⟩ = some (.int .i64 0) := cell_of_row w2 _ 1 _ _ (0, 0) r3; have z2 : w2.cell? ⟨w.heap.size, 2, none⟩ = some (.int .i64 0) := cell_of_row w2 _ 2 _ _ (0, 0) r3; have z3 : w2.cell? ⟨w.heap.size, 3, none⟩ = some (.int .i64 0) := cell_of_row w2 _ 3 _ _ (0, 0) r3; have z4 : w2.cell? ⟨w.heap.size, 4, none⟩ = some (.int .i64 0) := cell_of_row w2 _ 4 _ _ (0, 0) r3; have z5 : w2.cell? ⟨w.heap.size, 5, none⟩ = some (.slice none 0 0) := cell_of_row w2 _ 5 _ _ (0, 0) r3; have z6 : w2.cell? ⟨w.heap.size, 6, none⟩ = some (.slice none 0 0) := cell_of_row w2 _ 6 _ _ (0, 0) r3; have z7 : w2.cell? ⟨w.heap.size, 7, none⟩ = some (.slice none 0 0) := cell_of_row w2 _ 7 _ _ (0, 0) r3; have z8 : w2.cell? ⟨w.heap.size, 8, none⟩ = some (.slice none 0 0) := cell_of_row w2 _ 8 _ _ (0, 0) r3; have z9 : w2.cell? ⟨w.heap.size, 9, none⟩ = some (.bool false) := cell_of_row w2 _ 9 _ _ (0, 0) r3; have HB2 := Lib.hid hb2; clear hb2 r3)
    | (go_at_call 159; ((with_reducible refine (CP.out _ HB2.out).mono ?_)); rintro e w3 ⟨rfl, hm, hk⟩; have HM := Lib.hid hm; have HK := Lib.hid hk; clear hm hk)
    | fail
  go_ret2
  exact ⟨rfl, HM.out, (Kept.of_below (HBO.out.trans (HB2.out.mono HBO.out.size))).trans HK.out⟩
set_option maxHeartbeats 4000000 in
set_option maxRecDepth 100000 in
theorem doPut (w : World) (hS : Stat w) {S D : Nat → Prop} (hD : ∀ j, w.heap.size ≤ j → D j) {mp g sb r tk next : Nat} {l : List UInt8} {L : List (Nat × Ch)} (h : MapsAt w S D mp g sb r l tk L next) (hL : L.length < 64) (hn : next + 1 < 100) (hdl : (Lib.decDigits (next + 1)).length ≤ 100) (hge : 7 ≤ g ∧ 7 ≤ sb ∧ 7 ≤ r)
    {x : Nat × Ch} (hx : L.find? (fun x => x.1 == 1) = some x) (hf : fitO x.2.n) (hb : x.2.t.Bal) (hts : x.2.t.size < 1048576) {q q2 : Option Addr} {d d2 : Nat} (hk : IsB w q d [107]) (hv : IsB w q2 d2 [118]) (hT : TabAt 2 Lib.deBruijn32tab w) (hSA : StartAt w) :
    Calls Tryz.prog 77 #[.pointer (some ⟨mp, 0, none⟩), .agg (csPut q d q2 d2).toArray] w fun e w' => e = .returned (.tuple #[.string (str (handleLine (next + 1))), .bool true]) ∧ MapsAt w' S D mp g sb r l tk (L ++ [(next + 1, putCh [107] [118] x.2)]) (next + 1) ∧ Kept w w' (Wr g sb r) := by
  have hbo : Below w.heap.size w (w.alloc (.cells (csPut q d q2 d2).toArray 180)) := below1 w _
  have CX := Lib.hid (textPut (w.alloc (.cells (csPut q d q2 d2).toArray 180)) (hS.keep (le7 hbo hS.big)) (hk.below hbo) (hv.below hbo))
  have CP : Hid (∀ W, Below (w.alloc (.cells (csPut q d q2 d2).toArray 180)).heap.size (w.alloc (.cells (csPut q d q2 d2).toArray 180)) W → Calls Tryz.prog 159 #[.pointer (some ⟨mp, 0, none⟩), .agg (csPut q d q2 d2).toArray] W fun e w' => e = .returned (.tuple #[.string (str (handleLine (next + 1))), .bool true]) ∧ MapsAt w' S D mp g sb r l tk (L ++ [(next + 1, putCh [107] [118] x.2)]) (next + 1) ∧ Kept W w' (Wr g sb r)) := Lib.hid (fun W hW => by
    have b := hbo.trans (hW.mono hbo.size)
    exact putPut W (hS.keep (le7 b hS.big)) (fun j hj => hD j (Nat.le_trans b.size hj)) (h.below b) hL hn hdl hge (hd := 1) hx hf hb hts (k := [107]) (v := [118]) (hk.below b) (hv.below b) (by decide) (by decide) (tab_keep hT (b.block 2 (by have := hS.big; omega))) (StartAt.keep hSA (b.block 0 (by have := hS.big; omega))))
  have HBO := Lib.hid hbo
  clear h hS hD hL hge hbo hx hf hb hts hk hv hT hSA
  unfold csPut at *
  go_enter Tryz.func77, Tryz.ntmps77
  go_wp2_with first
    | (go_at_call 151; ((with_reducible refine (CX.out).mono ?_)); rintro e w2 ⟨rfl, hb2⟩; have r3 : w2.heap[w.heap.size]? = some (.cells #[.int .i64 4, .int .i64 1, .int .i64 0, .int .i64 0, .int .i64 0, .slice q 1 d, .slice q2 1 d2, .slice none 0 0, .slice none 0 0, .bool false] 180) := (hb2.block _ (by simp)).trans (heap_alloc_new w _); have z0 : w2.cell? ⟨w.heap.size, 0, none⟩ = some (.int .i64 4) := cell_of_row w2 _ 0 _ _ (0, 0) r3; have z1 : w2.cell? ⟨w.heap.size, 1, none⟩ = some (.int .i64 1) := cell_of_row w2 _ 1 _ _ (0, 0) r3; have z2 : w2.cell? ⟨w.heap.size, 2, none⟩ = some (.int .i64 0) := cell_of_row w2 _ 2 _ _ (0, 0) r3; have z3 : w2.cell? ⟨w.heap.size, 3, none⟩ = some (.int .i64 0) := cell_of_row w2 _ 3 _ _ (0, 0) r3; have z4 : w2.cell? ⟨w.heap.size, 4, none⟩ = some (.int .i64 0) := cell_of_row w2 _ 4 _ _ (0, 0) r3; have z5 : w2.cell? ⟨w.heap.size, 5, none⟩ = some (.slice q 1 d) := cell_of_row w2 _ 5 _ _ (0, 0) r3; have z6 : w2.cell? ⟨w.heap.size, 6, none⟩ = some (.slice q2 1 d2) := cell_of_row w2 _ 6 _ _ (0, 0) r3; have z7 : w2.cell? ⟨w.heap.size, 7, none⟩ = some (.slice none 0 0) := cell_of_row w2 _ 7 _ _ (0, 0) r3; have z8 : w2.cell? ⟨w.heap.size, 8, none⟩ = some (.slice none 0 0) := cell_of_row w2 _ 8 _ _ (0, 0) r3; have z9 : w2.cell? ⟨w.heap.size, 9, none⟩ = some (.bool false) := cell_of_row w2 _ 9 _ _ (0, 0) r3; have HB2 := Lib.hid hb2; clear hb2 r3)
    | (go_at_call 159; ((with_reducible refine (CP.out _ HB2.out).mono ?_)); rintro e w3 ⟨rfl, hm, hk⟩; have HM := Lib.hid hm; have HK := Lib.hid hk; clear hm hk)
    | fail
  go_ret2
  exact ⟨rfl, HM.out, (Kept.of_below (HBO.out.trans (HB2.out.mono HBO.out.size))).trans HK.out⟩
end Go.Proofs.YtmbiiemlepfoaaaGreatDoor
