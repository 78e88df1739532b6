/- The walks of pmap fresh, add, New. The walks of pmap New, Put. The walks of script.put (new, put). The walk of pair.Map over a list that is a map. A trie of a list of pairs, put one by one; cells set in the midst of a row. The walk of chart.From. The walk of codec.Read. The walk of pmap fresh, a dry source. -/
import Derived.Test.YtmbiiemlepfoaaaGreatDoorFl29
import Derived.Test.YtmbiiemlepfoaaaGreatDoorFl28
import Derived.Test.YtmbiiemlepfoaaaGreatDoorFl12
import Derived.Test.YtmbiiemlepfoaaaGreatDoorFl06
import Derived.Test.YtmbiiemlepfoaaaGreatDoorFl24
import Derived.Test.YtmbiiemlepfoaaaGreatDoorFl02
import Derived.Deep.RegionHeld3
import Derived.Test.YtmbiiemlepfoaaaGreatDoorFl08
import Derived.Deep.Upon
import Derived.Test.YtmbiiemlepfoaaaGreatDoorFl01
import Derived.Test.YtmbiiemlepfoaaaGreatDoorFl27

namespace Go.Proofs.YtmbiiemlepfoaaaGreatDoor
open Go.RowKit
set_option linter.unusedVariables false
theorem row_105 : (Tryz.prog.underlying 105).map (·.isRow) = some true := by kernel_rfl
abbrev zRow105 : Obj := .cells #[.int .u8 0, .int .u8 0, .int .u8 0, .int .u8 0, .int .u8 0, .int .u8 0, .int .u8 0, .int .u8 0, .int .u8 0, .int .u8 0, .int .u8 0, .int .u8 0, .int .u8 0, .int .u8 0, .int .u8 0, .int .u8 0] 105
theorem Kept.setRow {w w' : World} {T : Nat → Prop} {g : Nat} {cs : Array Value} (h : Kept w w' T) (hg : w.heap.size ≤ g) : Kept w (w'.setRow g cs) T :=
  ⟨h.os, h.tape, h.output, by rw [setRow_size]; exact h.size, fun k hk hn => (setRow_other (by omega)).trans (h.block k hk hn)⟩
set_option maxHeartbeats 1000000 in
set_option maxRecDepth 100000 in
theorem mapsFresh (w : World) {S D : Nat → Prop} {mp g sb r tk next : Nat} {l : List UInt8} {L : List (Nat × Ch)} (h : MapsAt w S D mp g sb r l tk L next) (hL : L.length < 64) (hl : 16 ≤ l.length) (ht : tk < 1000000) :
    Calls Tryz.prog 36 #[.pointer (some ⟨mp, 0, none⟩)] w fun e w' => e = .returned (.tuple #[.agg ((l.take 16).map bv).toArray, .int .i64 0]) ∧ MapsAt w' S D mp g sb r (l.drop 16) (tk + 1) L next ∧ Kept w w' (fun k => k = g) := by
  obtain ⟨W2, hW2⟩ : ∃ W, W = w.alloc zRow105 := ⟨_, rfl⟩
  have hB : Below w.heap.size w W2 := by rw [hW2]; exact (Below.refl _ w).alloc (Nat.le_refl _) _
  have r0 : W2.heap[w.heap.size]? = some zRow105 := by rw [hW2]; exact heap_alloc_new _ _
  have hz2 : W2.heap.size = w.heap.size + 1 := by rw [hW2]; simp
  have h2 := h.below hB
  have hgl := h.src.lt
  have CR := Lib.hid (shelfRoom W2 h2.shelf hL)
  have CS := Lib.hid (srcSeed W2 h2.src hl ht)
  have d0 : w.cell? ⟨mp, 0, none⟩ = some (.pointer (some ⟨g, 0, none⟩)) := cell_of_row w mp 0 _ _ (0, 0) h.row
  have d1 : w.cell? ⟨mp, 1, none⟩ = some (.pointer (some ⟨sb, 0, none⟩)) := cell_of_row w mp 1 _ _ (0, 0) h.row
  have c0 : W2.cell? ⟨mp, 0, none⟩ = some (.pointer (some ⟨g, 0, none⟩)) := cell_of_row W2 mp 0 _ _ (0, 0) h2.row
  have hml := row_ltT h.row
  have H0 := Lib.hid h
  have HB := Lib.hid hB
  have hl16 : ((l.take 16).map bv).length = 16 := by simp; omega
  have hone : ((l.take 16).map bv).toArray.all (·.oneCell') = true := all_oneCell_toArray (bv_one _)
  clear h h2 hB hl hL ht
  generalize hsv : (l.take 16).map bv = sv at *
  go_enter Tryz.func36, Tryz.ntmps36
  go_wp2_with fail
  rw [← hW2]
  clear hW2
  (go_at_call 87; ((with_reducible refine (CR.out).mono ?_)); rintro e w1 ⟨rfl, rfl⟩)
  go_wp2_with fail
  (go_at_call 88; ((with_reducible refine (CS.out).mono ?_)); rintro e w3 ⟨rfl, hs3⟩; have HS3 := Lib.hid hs3; have hr3 := Lib.hid ((hs3.kept.block w.heap.size (by omega) (by omega)).trans r0); clear hs3)
  go_wp2_with (first | (refine wpList_store_row rfl 105 _ _ rfl w.heap.size rfl sv.toArray rfl 105 _ hr3.out (by rw [info_105]; simp [hl16]) (by simp [hl16]) hone ?_) | fail)
  have hk : Kept w (w3.setRow w.heap.size sv.toArray) (fun k => k = g) := (Kept.trans (Kept.of_below HB.out) (HS3.out.kept)).setRow (Nat.le_refl _)
  have hsn : Src (w3.setRow w.heap.size sv.toArray) S g (l.drop 16) (tk + 1) := HS3.out.src.kept (T := fun k => k = w.heap.size) ⟨rfl, rfl, rfl, by rw [setRow_size]; exact Nat.le_refl _, fun k _ hk => setRow_other hk⟩ (fun k hk e => by have := H0.out.Sb k hk; omega)
  refine bodyPost_ret (results_row2 rfl _ _ w.heap.size 105 sv (0, 0) rfl (setRow_heap _ _ _ _ 105 (0, 0) hr3.out) row_105 (by rw [info_105, hl16])) rfl ⟨rfl, H0.out.seed hsn hk, hk⟩
theorem MapsAt.add {w w' : World} {S D : Nat → Prop} {mp g sb r tk next : Nat} {l : List UInt8} {L : List (Nat × Ch)} (h : MapsAt w S D mp g sb r l tk L next) {c : Ch} (hs : ShelfAt w' D sb r (L ++ [(next + 1, c)]) (next + 1)) (hk : Kept w w' (fun k => k = sb ∨ k = r)) : MapsAt w' S D mp g sb r l tk (L ++ [(next + 1, c)]) (next + 1) := by
  refine ⟨(hk.block mp (row_ltT h.row) (fun e => by rcases e with e | e; exact h.ms e; exact h.mr e)).trans h.row, h.src.kept hk (fun k hS e => by rcases e with e | e; exact h.Ss (e ▸ hS); exact h.Sr (e ▸ hS)), hs, h.dS, h.ds, h.dr, h.Ss, h.Sr, h.Sm, h.ms, h.mr, fun x hx => ?_, fun j hj => Nat.lt_of_lt_of_le (h.Sb j hj) hk.size⟩
  rcases List.mem_append.1 hx with hx | hx
  · have := h.keys x hx; omega
  · simp at hx; subst hx; exact Nat.le_refl _
def AddR (mp sb xb : Nat) (cv : List Value) (w' : World) : Prop := w'.cell? ⟨mp, 1, none⟩ = some (.pointer (some ⟨sb, 0, none⟩)) ∧ w'.rangeAt xb 0 cv
set_option maxHeartbeats 1000000 in
set_option maxRecDepth 100000 in
theorem mapsAdd (w : World) {S D : Nat → Prop} {mp g sb r tk next : Nat} {l : List UInt8} {L : List (Nat × Ch)} (h : MapsAt w S D mp g sb r l tk L next) (hL : L.length < 64) (hn : next < 1000000) {c : Ch} {cv : List Value} (hc : IsCh w D c.s c.n c.t cv) :
    Calls Tryz.prog 37 #[.pointer (some ⟨mp, 0, none⟩), .agg cv.toArray, .int .i64 0] w fun e w' => e = .returned (.tuple #[.int .i64 ((next : Int) + 1), .int .i64 0]) ∧ MapsAt w' S D mp g sb r l tk (L ++ [(next + 1, c)]) (next + 1) ∧ Kept w w' (fun k => k = sb ∨ k = r) := by
  have hsz := hc.size
  obtain ⟨W2, hW2⟩ : ∃ W, W = w.alloc (.cells cv.toArray 112) := ⟨_, rfl⟩
  have hB : Below w.heap.size w W2 := by rw [hW2]; exact (Below.refl _ w).alloc (Nat.le_refl _) _
  have r0 : W2.heap[w.heap.size]? = some (.cells cv.toArray 112) := by rw [hW2]; exact heap_alloc_new _ _
  have h2 := h.below hB
  have hsl : sb < w.heap.size := by obtain ⟨_, _, h1, _⟩ := h.shelf.row; exact row_ltT h1
  have hrl : r < w.heap.size := by obtain ⟨_, _, _, h1, _⟩ := h.shelf.row; exact row_ltT h1
  have hml := row_ltT h.row
  have CA := Lib.hid (shelfAdd W2.drew (next := next) (L := L) (c := c) (cv := cv) h.dr h.ds (h2.shelf.below ((Below.refl _ W2).drew)) hL h.keys hn ((hc.below hB).below ((Below.refl _ W2).drew)))
  have hS2 : AddR mp sb w.heap.size cv W2.drew := ⟨cell_of_row W2 mp 1 _ _ (0, 0) h2.row, range_row (w := W2.drew) r0⟩
  have HB := Lib.hid hB
  have H0 := Lib.hid h
  have hz : cv.toArray.size = 18 := by simpa using hsz
  have hms := h.ms
  have hmr := h.mr
  clear h h2 hB hc hL r0
  go_enter Tryz.func37, Tryz.ntmps37
  go_wp2_with fail
  rw [← hW2]
  have hw2 : W2.heap.size = w.heap.size + 1 := by rw [hW2]; simp
  clear hW2
  refine wp_region_held_drew (S := AddR mp sb w.heap.size cv) (by kernel_rfl) hS2 (fun hHeld => ?_)
  refine wpAnyH_take (i := 0) (oi := ⟨some 11, _, _, _, _, _⟩) (v := .pointer (some ⟨mp, 0, none⟩)) rfl (by kernel_rfl) (by kernel_rfl) (by kernel_rfl) (fun _ _ _ h => h) (Or.inl ⟨by rfl, ?_⟩) hHeld ?_
  · intro w' hSw
    obtain ⟨z1, z2⟩ := hSw
    go_simp
  try simp only [Act.put, List.setIfInBounds_toArray, List.set_cons_zero, List.set_cons_succ]
  refine wpAnyH_take (i := 1) (oi := ⟨some 12, _, _, _, _, _⟩) (v := .pointer (some ⟨mp, 0, none⟩)) rfl (by kernel_rfl) (by kernel_rfl) (by kernel_rfl) (fun _ _ _ h => h) (Or.inl ⟨by rfl, ?_⟩) hHeld ?_
  · intro w' hSw
    obtain ⟨z1, z2⟩ := hSw
    go_simp
  try simp only [Act.put, List.setIfInBounds_toArray, List.set_cons_zero, List.set_cons_succ]
  refine wpAnyH_take (i := 2) (oi := ⟨some 13, _, _, _, _, _⟩) (v := .pointer (some ⟨mp, 1, none⟩)) rfl (by kernel_rfl) (by kernel_rfl) (by kernel_rfl) (fun _ _ _ h => h) (Or.inl ⟨by rfl, ?_⟩) hHeld ?_
  · intro w' hSw
    obtain ⟨z1, z2⟩ := hSw
    go_simp
  try simp only [Act.put, List.setIfInBounds_toArray, List.set_cons_zero, List.set_cons_succ]
  refine wpAnyH_take (i := 3) (oi := ⟨some 14, _, _, _, _, _⟩) (v := .pointer (some ⟨sb, 0, none⟩)) rfl (by kernel_rfl) (by kernel_rfl) (by kernel_rfl) (fun _ _ _ h => h) (Or.inl ⟨by rfl, ?_⟩) hHeld ?_
  · intro w' hSw
    obtain ⟨z1, z2⟩ := hSw
    go_simp
  try simp only [Act.put, List.setIfInBounds_toArray, List.set_cons_zero, List.set_cons_succ]
  obtain ⟨d, hd, hrw⟩ := und_of row_112
  refine wpAnyH_take (i := 4) (oi := ⟨some 15, _, _, _, _, _⟩) (v := .agg cv.toArray) rfl (by kernel_rfl) (by kernel_rfl) (by kernel_rfl) (fun _ _ _ h => h) (yieldsIf_load_mid (by rfl) _ _ rfl w.heap.size 0 rfl cv d (fun w h => h.2) hd hrw (by rw [info_112, hsz])) hHeld ?_
  try simp only [Act.put, List.setIfInBounds_toArray, List.set_cons_zero, List.set_cons_succ]
  refine wpAnyH_ready (rs := [5]) (by kernel_rfl) (by simp) ?_
  refine AllReadyH.cons (o := ⟨some 16, _, _, _, _, _⟩) rfl (fun K' hK => ?_) AllReadyH.nil
  rw [if_pos (by rfl)]
  go_simp
  (go_at_call 89; ((with_reducible refine (CA.out).mono ?_)); rintro e w4 ⟨rfl, hs4, hw4, hk4⟩; have HS4 := Lib.hid hs4; clear hs4)
  go_wp2_with fail
  have hk2 : Kept w w4 (fun k => k = sb ∨ k = r) := ⟨hw4.1.trans HB.out.os, hw4.2.1.trans HB.out.tape, hw4.2.2.1.trans HB.out.output, Nat.le_trans HB.out.size hw4.2.2.2, fun k hk hn => (hk4 k (by show k < W2.heap.size; omega) (fun e => hn (.inl e)) (fun e => hn (.inr e))).trans (HB.out.block k hk)⟩
  have hS4 : AddR mp sb w.heap.size cv w4 := ⟨(cell_other (hk4 mp (by show mp < W2.heap.size; omega) hms hmr)).trans hS2.1, fun j v hv => (cell_other (hk4 w.heap.size (by show w.heap.size < W2.heap.size; omega) (by omega) (by omega))).trans (hS2.2 j v hv)⟩
  refine hK.out _ _ hS4 (fun hHeld => ?_)
  clear hK K'
  try simp only [Act.put, List.setIfInBounds_toArray, List.set_cons_zero, List.set_cons_succ]
  refine wpAnyH_take (i := 6) (oi := ⟨some 17, _, _, _, _, _⟩) (v := .int .i64 ((next : Int) + 1)) rfl (by kernel_rfl) (by kernel_rfl) (by kernel_rfl) (fun _ _ _ h => h) (Or.inl ⟨by rfl, ?_⟩) hHeld ?_
  · intro w' hSw
    obtain ⟨z1, z2⟩ := hSw
    go_simp
  try simp only [Act.put, List.setIfInBounds_toArray, List.set_cons_zero, List.set_cons_succ]
  refine wpAnyH_take (i := 7) (oi := ⟨some 18, _, _, _, _, _⟩) (v := .int .i64 0) rfl (by kernel_rfl) (by kernel_rfl) (by kernel_rfl) (fun _ _ _ h => h) (Or.inl ⟨by rfl, ?_⟩) hHeld ?_
  · intro w' hSw
    obtain ⟨z1, z2⟩ := hSw
    go_simp
  try simp only [Act.put, List.setIfInBounds_toArray, List.set_cons_zero, List.set_cons_succ]
  refine wpAnyH_take (i := 8) (oi := ⟨some 6, _, _, _, _, _⟩) (v := .int .i64 ((next : Int) + 1)) rfl (by kernel_rfl) (by kernel_rfl) (by kernel_rfl) (fun _ _ _ h => h) (Or.inl ⟨by rfl, ?_⟩) hHeld ?_
  · intro w' hSw
    obtain ⟨z1, z2⟩ := hSw
    go_simp
  try simp only [Act.put, List.setIfInBounds_toArray, List.set_cons_zero, List.set_cons_succ]
  refine wpAnyH_take (i := 9) (oi := ⟨some 7, _, _, _, _, _⟩) (v := .int .i64 0) rfl (by kernel_rfl) (by kernel_rfl) (by kernel_rfl) (fun _ _ _ h => h) (Or.inl ⟨by rfl, ?_⟩) hHeld ?_
  · intro w' hSw
    obtain ⟨z1, z2⟩ := hSw
    go_simp
  try simp only [Act.put, List.setIfInBounds_toArray, List.set_cons_zero, List.set_cons_succ]
  refine wpAnyH_done (by kernel_rfl) ?_ _
  go_wp2
  go_ret2
  exact ⟨rfl, H0.out.add HS4.out hk2, hk2⟩
def Wr (g sb r : Nat) : Nat → Prop := fun k => k = g ∨ k = sb ∨ k = r
theorem Kept.wr1 {w w' : World} {g sb r : Nat} (h : Kept w w' (fun k => k = g)) : Kept w w' (Wr g sb r) := h.mono fun k e => .inl e
theorem Kept.wr2 {w w' : World} {g sb r : Nat} (h : Kept w w' (fun k => k = sb ∨ k = r)) : Kept w w' (Wr g sb r) := h.mono fun k e => .inr e
set_option maxHeartbeats 1000000 in
set_option maxRecDepth 100000 in
theorem mapsNew (w : World) {S D : Nat → Prop} {mp g sb r tk next : Nat} {l : List UInt8} {L : List (Nat × Ch)} (h : MapsAt w S D mp g sb r l tk L next) (hL : L.length < 64) (hl : 16 ≤ l.length) (ht : tk < 1000000) (hn : next < 1000000) :
    Calls Tryz.prog 130 #[.pointer (some ⟨mp, 0, none⟩)] w fun e w' => e = .returned (.tuple #[.int .i64 ((next : Int) + 1), .int .i64 0]) ∧ MapsAt w' S D mp g sb r (l.drop 16) (tk + 1) (L ++ [(next + 1, ⟨l.take 16, none, .nil⟩)]) (next + 1) ∧ Kept w w' (Wr g sb r) := by
  have CF := Lib.hid (mapsFresh w h hL hl ht)
  have hl16 : ((l.take 16).map bv).length = 16 := by simp; omega
  have hlt : (l.take 16).length = 16 := by simp; omega
  have CN := Lib.hid (fun w => chartNew w D (l.take 16) hlt)
  have CA := Lib.hid (fun (w : World) (cv : List Value) (h : MapsAt w S D mp g sb r (l.drop 16) (tk + 1) L next) (hc : IsCh w D (l.take 16) none .nil cv) => mapsAdd w h hL hn (c := ⟨l.take 16, none, .nil⟩) hc)
  have hone : ((l.take 16).map bv).toArray.all (·.oneCell') = true := all_oneCell_toArray (bv_one _)
  clear h
  generalize hsv : (l.take 16).map bv = sv at *
  go_enter Tryz.func130, Tryz.ntmps130
  go_wp2_with fail
  (go_at_call 36; ((with_reducible refine (CF.out).mono ?_)); rintro e w1 ⟨rfl, hm1, hk1⟩; have HM1 := Lib.hid hm1; have HK1 := Lib.hid hk1; clear hm1 hk1)
  go_wp2_with (first | (refine wpList_store_row rfl 105 _ _ rfl w1.heap.size rfl sv.toArray rfl 105 _ (heap_alloc_new w1 _) (by rw [info_105]; simp [hl16]) (by simp [hl16]) hone ?_) | (refine wpList_load105 rfl _ rfl w1.heap.size 0 rfl sv (range_set (heap_alloc_new w1 _)) hl16 ?_) | fail)
  rw [World.setRow_alloc_new]
  have hbx : Below w1.heap.size w1 (w1.alloc (.cells sv.toArray 105)) := (Below.refl _ _).alloc (Nat.le_refl _) _
  (go_at_call 91; ((with_reducible refine (CN.out _).mono ?_)); rintro e w2 ⟨cv, rfl, hc2, hb2⟩; have HC2 := Lib.hid hc2; have hb3 := below_step hbx hb2; have HM2 := Lib.hid (HM1.out.below hb3); clear hc2)
  go_wp2_with fail
  (go_at_call 37; ((with_reducible refine (CA.out _ _ HM2.out HC2.out).mono ?_)); rintro e w4 ⟨rfl, hm4, hk4⟩; have HM4 := Lib.hid hm4; have HK4 := Lib.hid hk4; clear hm4 hk4)
  go_wp2_with fail
  go_ret2
  exact ⟨rfl, HM4.out, (HK1.out.wr1.trans (Kept.of_below hb3)).trans HK4.out.wr2⟩
def putCh (k v : List UInt8) (c : Ch) : Ch := ⟨c.s, some (intoO (hashM c.s k) k v c.n 0).1, putT k v c.t⟩
theorem inP_none {w : World} {kp vp : Option Addr} {kc vc : Nat} {k v : List UInt8} (hk : IsB w kp kc k) (hv : IsB w vp vc v) (hkl : k.length ≤ 65536) (hvl : v.length ≤ 65536) : InP w none kp vp kc vc k v :=
  ⟨⟨hk, fun a _ _ => by simp⟩, ⟨hv, fun a _ _ => by simp⟩, by omega, by omega⟩
set_option maxHeartbeats 1000000 in
set_option maxRecDepth 100000 in
theorem mapsPut (w : World) {S D : Nat → Prop} (hD : ∀ j, w.heap.size ≤ j → D j) {mp g sb r tk next hd : Nat} {l : List UInt8} {L : List (Nat × Ch)} (h : MapsAt w S D mp g sb r l tk L next) (hL : L.length < 64) (hn : next < 1000000) {x : Nat × Ch} (hx : L.find? (fun x => x.1 == hd) = some x)
    (hf : fitO x.2.n) (hb : x.2.t.Bal) (hts : x.2.t.size < 1048576) {kp vp : Option Addr} {kc vc : Nat} {k v : List UInt8} (hk : IsB w kp kc k) (hv : IsB w vp vc v) (hkl : k.length ≤ 65536) (hvl : v.length ≤ 65536) (h2 : 2 < w.heap.size) (hT : TabAt 2 Lib.deBruijn32tab w) (hS : StartAt w) :
    Calls Tryz.prog 132 #[.pointer (some ⟨mp, 0, none⟩), .int .i64 (hd : Int), .slice kp k.length kc, .slice vp v.length vc] w fun e w' => e = .returned (.tuple #[.int .i64 ((next : Int) + 1), .int .i64 0]) ∧ MapsAt w' S D mp g sb r l tk (L ++ [(next + 1, putCh k v x.2)]) (next + 1) ∧ Kept w w' (Wr g sb r) := by
  have CG := Lib.hid (shelfGet w h.shelf hx)
  have c1 : w.cell? ⟨mp, 1, none⟩ = some (.pointer (some ⟨sb, 0, none⟩)) := cell_of_row w mp 1 _ _ (0, 0) h.row
  have CP := Lib.hid (show ∀ w' cv, Below w.heap.size w w' → IsCh w' D x.2.s x.2.n x.2.t cv → Calls Tryz.prog 205 #[.agg cv.toArray, pairV kp kc k vp vc v, .pointer none] w' _ from fun w' cv hw hc => chartPut w' D (fun j hj => hD j (Nat.le_trans hw.size hj)) (mb := none) (Off.none_ D) (by simp) (by simp) (Met.none_ w' 0 0) (inP_none (hk.below hw) (hv.below hw) hkl hvl) hc hf hb hts hkl hvl (by omega) (by omega) (Nat.lt_of_lt_of_le h2 hw.size) (tab_keep hT (hw.block 2 h2)) (hS.keep (hw.block 0 (by omega))))
  have CA := Lib.hid (fun (w' : World) (cv : List Value) (hw : Below w.heap.size w w') (hc : IsCh w' D x.2.s (some (intoO (hashM x.2.s k) k v x.2.n 0).1) (putT k v x.2.t) cv) => mapsAdd w' (h.below hw) hL hn (c := putCh k v x.2) hc)
  have hz0 : w.heap.size ≤ w.heap.size := Nat.le_refl _
  clear h hL hn hx hf hb hts hk hv hT hS hD
  go_enter Tryz.func132, Tryz.ntmps132
  go_wp2_with fail
  (go_at_call 41; ((with_reducible refine (CG.out).mono ?_)); rintro e w1 ⟨cv, rfl, hc1, hb1⟩; have HC1 := Lib.hid hc1; clear hc1)
  have hsz := HC1.out.size
  have hone := HC1.out.one
  go_wp2_with (first | (refine wpList_store_row rfl 112 _ _ rfl w1.heap.size rfl cv.toArray rfl 112 _ (heap_alloc_new w1 _) (by rw [info_112]; simp [hsz]) (by simp [hsz]) hone ?_) | (refine wpList_load112 rfl _ rfl w1.heap.size 0 rfl cv (range_set (heap_alloc_new w1 _)) hsz ?_) | fail)
  rw [World.setRow_alloc_new]
  have hbx : Below w1.heap.size w1 (w1.alloc (.cells cv.toArray 112)) := (Below.refl _ _).alloc (Nat.le_refl _) _
  have hb2 := below_step hb1 hbx
  have HC2 := Lib.hid (HC1.out.below hbx)
  (go_at_call 205; ((with_reducible refine (CP.out _ _ hb2 HC2.out).mono ?_)); rintro e w3 ⟨cv', rfl, hc3, hm3, hg3⟩; have HC3 := Lib.hid hc3; have hb3 := below_step hb2 (below_of_grown hg3); clear hc3 hm3)
  go_wp2_with fail
  (go_at_call 37; ((with_reducible refine (CA.out _ _ hb3 HC3.out).mono ?_)); rintro e w4 ⟨rfl, hm4, hk4⟩; have HM4 := Lib.hid hm4; have HK4 := Lib.hid hk4; clear hm4 hk4)
  go_wp2_with fail
  go_ret2
  exact ⟨rfl, HM4.out, (Kept.of_below hb3).trans HK4.out.wr2⟩
def csNew : List Value := [.int .i64 2, .int .i64 0, .int .i64 0, .int .i64 0, .int .i64 0, .slice none 0 0, .slice none 0 0, .slice none 0 0, .slice none 0 0, .bool false]
def handleLine (j : Nat) : List UInt8 := [104, 97, 110, 100, 108, 101] ++ 32 :: Lib.decDigits j ++ [10]
theorem tellHandle (W : World) (hS : Stat W) (j : Nat) (hj : j < 100) (hl : (Lib.decDigits j).length ≤ 100) :
    Calls Tryz.prog 152 #[.int .i64 0, .slice (some ⟨W.heap.size, 0, none⟩) 2 2] (W.alloc (.cells #[.iface 9 (.string ⟨#[104, 97, 110, 100, 108, 101]⟩), .iface 3 (.int .i64 (j : Int))] 20)) fun e w' => e = .returned (.tuple #[.string (str (handleLine j)), .bool true]) ∧ Below W.heap.size W w' := by
  obtain ⟨V, hV⟩ : ∃ V, V = W.alloc (.cells #[.iface 9 (.string ⟨#[104, 97, 110, 100, 108, 101]⟩), .iface 3 (.int .i64 (j : Int))] 20) := ⟨_, rfl⟩
  have hr : V.heap[W.heap.size]? = some (.cells #[.iface 9 (.string ⟨#[104, 97, 110, 100, 108, 101]⟩), .iface 3 (.int .i64 (j : Int))] 20) := by rw [hV]; exact heap_alloc_new W _
  have hb : Below W.heap.size W V := by rw [hV]; exact below1 W _
  rw [← hV]
  refine (scriptTold V _ (handleLine j) ?_).mono fun e w' ⟨h1, h2⟩ => ⟨h1, hb.trans (h2.mono hb.size)⟩
  have hjl : (joinM [[104, 97, 110, 100, 108, 101], Lib.decDigits j]).length ≤ 100000 := by rw [join2]; simp; omega
  refine (scriptLay V (hS.keep (le7 hb hS.big)) [.iface 9 (.string ⟨#[104, 97, 110, 100, 108, 101]⟩), .iface 3 (.int .i64 (j : Int))] [[104, 97, 110, 100, 108, 101], Lib.decDigits j] (n := 2) rfl rfl (by omega) (row_ltB hr) ?_ ?_ hjl (by omega) (Nat.le_refl 2)).mono ?_
  · intro i x hx
    have hi : i < 2 := (List.getElem?_eq_some_iff.1 hx).1
    rw [cell_of_row V _ i _ _ (0, 0) hr]
    match i, hi with
    | 0, _ => exact hx
    | 1, _ => exact hx
  · intro i x t hx ht
    have hi : i < 2 := (List.getElem?_eq_some_iff.1 hx).1
    match i, hi with
    | 0, _ => cases hx; cases ht; exact .inl rfl
    | 1, _ => cases hx; cases ht; exact .inr (.inl ⟨j, hj, rfl, rfl⟩)
  · rintro e w' ⟨rfl, hb'⟩
    rw [join2]
    exact ⟨rfl, hb'⟩
theorem statKept {w w' : World} (hS : Stat w) {g sb r : Nat} (hge : 7 ≤ g ∧ 7 ≤ sb ∧ 7 ≤ r) (hk : Kept w w' (Wr g sb r)) : Stat w' :=
  hS.keep (hk.to_below (by rintro k (rfl | rfl | rfl) <;> omega) hS.big)
set_option maxHeartbeats 4000000 in
set_option maxRecDepth 100000 in
theorem putNew (w : World) (hS : Stat w) {S D : Nat → Prop} {mp g sb r tk next : Nat} {l : List UInt8} {L : List (Nat × Ch)} (h : MapsAt w S D mp g sb r l tk L next) (hL : L.length < 64) (hl : 16 ≤ l.length) (ht : tk < 1000000) (hn : next + 1 < 100) (hdl : (Lib.decDigits (next + 1)).length ≤ 100) (hge : 7 ≤ g ∧ 7 ≤ sb ∧ 7 ≤ r) :
    Calls Tryz.prog 159 #[.pointer (some ⟨mp, 0, none⟩), .agg csNew.toArray] w fun e w' => e = .returned (.tuple #[.string (str (handleLine (next + 1))), .bool true]) ∧ MapsAt w' S D mp g sb r (l.drop 16) (tk + 1) (L ++ [(next + 1, ⟨l.take 16, none, .nil⟩)]) (next + 1) ∧ Kept w w' (Wr g sb r) := by
  have CN := Lib.hid (mapsNew (w.alloc (.cells csNew.toArray 180)) (h.below (below1 w _)) hL hl ht (by omega))
  have CT : Hid (∀ W, Stat W → Calls Tryz.prog 152 #[.int .i64 0, .slice (some ⟨W.heap.size, 0, none⟩) 2 2] (W.alloc (.cells #[.iface 9 (.string ⟨#[104, 97, 110, 100, 108, 101]⟩), .iface 3 (.int .i64 ((next : Int) + 1))] 20)) fun e w' => e = .returned (.tuple #[.string (str (handleLine (next + 1))), .bool true]) ∧ Below W.heap.size W w') := Lib.hid (fun W hW => tellHandle W hW (next + 1) hn hdl)
  have HST := Lib.hid (fun (w2 : World) (hk : Kept (w.alloc (.cells csNew.toArray 180)) w2 (Wr g sb r)) => statKept hS hge ((Kept.of_below (below1 w _)).trans hk))
  clear h hS hL hl ht hge
  unfold csNew at *
  go_enter Tryz.func159, Tryz.ntmps159
  go_wp2_with first
    | (go_at_call 130; ((with_reducible refine (CN.out).mono ?_)); rintro e w2 ⟨rfl, hm, hk⟩; have HM := Lib.hid hm; have HK := Lib.hid hk; clear hm hk)
    | (go_at_call 152; ((with_reducible refine (CT.out _ (HST.out _ HK.out)).mono ?_)); rintro e w3 ⟨rfl, hb3⟩; have HB3 := Lib.hid hb3; clear hb3)
    | fail
  go_ret2
  exact ⟨rfl, HM.out.below HB3.out, ((Kept.of_below (below1 w _)).trans HK.out).trans (Kept.of_below HB3.out)⟩
set_option maxHeartbeats 4000000 in
set_option maxRecDepth 100000 in
theorem putPut (w : World) (hS : Stat w) {S D : Nat → Prop} (hD : ∀ j, w.heap.size ≤ j → D j) {mp g sb r tk next hd : Nat} {l : List UInt8} {L : List (Nat × Ch)} (h : MapsAt w S D mp g sb r l tk L next) (hL : L.length < 64) (hn : next + 1 < 100) (hdl : (Lib.decDigits (next + 1)).length ≤ 100) (hge : 7 ≤ g ∧ 7 ≤ sb ∧ 7 ≤ r)
    {x : Nat × Ch} (hx : L.find? (fun x => x.1 == hd) = some x) (hf : fitO x.2.n) (hb : x.2.t.Bal) (hts : x.2.t.size < 1048576) {kp vp : Option Addr} {kc vc : Nat} {k v : List UInt8} (hk : IsB w kp kc k) (hv : IsB w vp vc v) (hkl : k.length ≤ 65536) (hvl : v.length ≤ 65536) (hT : TabAt 2 Lib.deBruijn32tab w) (hSA : StartAt w) :
    Calls Tryz.prog 159 #[.pointer (some ⟨mp, 0, none⟩), .agg #[.int .i64 4, .int .i64 (hd : Int), .int .i64 0, .int .i64 0, .int .i64 0, .slice kp k.length kc, .slice vp v.length vc, .slice none 0 0, .slice none 0 0, .bool false]] w fun e w' => e = .returned (.tuple #[.string (str (handleLine (next + 1))), .bool true]) ∧ MapsAt w' S D mp g sb r l tk (L ++ [(next + 1, putCh k v x.2)]) (next + 1) ∧ Kept w w' (Wr g sb r) := by
  obtain ⟨o, ho⟩ : ∃ o, o = Obj.cells #[.int .i64 4, .int .i64 (hd : Int), .int .i64 0, .int .i64 0, .int .i64 0, .slice kp k.length kc, .slice vp v.length vc, .slice none 0 0, .slice none 0 0, .bool false] 180 := ⟨_, rfl⟩
  have hbo : Below w.heap.size w (w.alloc o) := below1 w o
  have CN := Lib.hid (mapsPut (w.alloc o) (fun j hj => hD j (Nat.le_trans hbo.size hj)) (h.below hbo) hL (by omega) hx hf hb hts (hk.below hbo) (hv.below hbo) hkl hvl (by have := hS.big; simp; omega) (fun j hj => (hbo.cell (by have := hS.big; show 2 < w.heap.size; omega)).trans (hT j hj)) (StartAt.keep hSA (hbo.block 0 (by have := hS.big; omega))))
  have HST := Lib.hid (fun (w2 : World) (hk : Kept (w.alloc o) w2 (Wr g sb r)) => statKept hS hge ((Kept.of_below (below1 w _)).trans hk))
  have HBO := Lib.hid hbo
  have CT : Hid (∀ W, Stat W → Calls Tryz.prog 152 #[.int .i64 0, .slice (some ⟨W.heap.size, 0, none⟩) 2 2] (W.alloc (.cells #[.iface 9 (.string ⟨#[104, 97, 110, 100, 108, 101]⟩), .iface 3 (.int .i64 ((next : Int) + 1))] 20)) fun e w' => e = .returned (.tuple #[.string (str (handleLine (next + 1))), .bool true]) ∧ Below W.heap.size W w') := Lib.hid (fun W hW => tellHandle W hW (next + 1) hn hdl)
  subst ho
  clear h hS hL hge hD hbo hx hf hb hts hk hv hT hSA
  go_enter Tryz.func159, Tryz.ntmps159
  go_wp2_with first
    | (go_at_call 132; ((with_reducible refine (CN.out).mono ?_)); rintro e w2 ⟨rfl, hm, hk⟩; have HM := Lib.hid hm; have HK := Lib.hid hk; clear hm hk)
    | (go_at_call 152; ((with_reducible refine (CT.out _ (HST.out _ HK.out)).mono ?_)); rintro e w3 ⟨rfl, hb3⟩; have HB3 := Lib.hid hb3; clear hb3)
    | fail
  go_ret2
  exact ⟨rfl, HM.out.below HB3.out, ((Kept.of_below HBO.out).trans HK.out).trans (Kept.of_below HB3.out)⟩
def cntO : Option N → Nat
  | none => 0
  | some n => n.count
theorem NodeAt.keepD {w w' : World} {D : Nat → Prop} {n : Option N} {x : Value} (hk : ∀ k, k < w.heap.size → D k → w'.heap[k]? = w.heap[k]?) (hz : w.heap.size ≤ w'.heap.size) (h : NodeAt w D n x) : NodeAt w' D n x := by
  cases n with
  | none => exact h
  | some n => exact N.At.keep hz hk (show N.At w D n x from h)
end Go.Proofs.YtmbiiemlepfoaaaGreatDoor
