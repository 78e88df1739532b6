/- The walk of chart.Put. A shelf in the heap; the walks of shelf New, Room. The walk of shelf Get. The walk of shelf Add. A pmap.Maps in the heap; the walks of pmap Open, Left, fresh. -/
import Derived.Test.YtmbiiemlepfoaaaGreatDoorFl28
import Derived.Test.YtmbiiemlepfoaaaGreatDoorFl12
import Derived.Deep.RegionHeld3
import Derived.MapKept
import Derived.Carry
import Derived.Test.YtmbiiemlepfoaaaGreatDoorFl13

namespace Go.Proofs.YtmbiiemlepfoaaaGreatDoor
open Go.RowKit
set_option linter.unusedVariables false
abbrev zRow112 : Obj := .cells #[.int .u8 0, .int .u8 0, .int .u8 0, .int .u8 0, .int .u8 0, .int .u8 0, .int .u8 0, .int .u8 0, .int .u8 0, .int .u8 0, .int .u8 0, .int .u8 0, .int .u8 0, .int .u8 0, .int .u8 0, .int .u8 0, .nilIface, .pointer none] 112
theorem range_front {w : World} {b : Nat} {a c : List Value} (h : w.rangeAt b 0 (a ++ c)) : w.rangeAt b 0 a := fun j y hy => h j y (by rw [List.getElem?_append_left (List.getElem?_eq_some_iff.1 hy).1]; exact hy)
theorem intoS_le {h : Nat} {k : List UInt8} : ∀ (n : N) (L : Nat), n.fit L → (n.intoS h k L).1 ≤ n.count + (13 - L) + 1 ∧ (n.intoS h k L).2 ≤ n.count + 1 := by
  refine N.ind ?_ ?_ ?_
  · intro g k' v' L hf
    simp only [N.intoS, N.count]
    split <;> omega
  · intro g t L hf
    simp only [N.intoS, N.count]
    have := pathT_le k t
    split
    · dsimp only; omega
    · dsimp only; omega
  · intro m ks ih L hf
    unfold N.fit at hf
    obtain ⟨h1, h2, h3, h4, h5, h6⟩ := hf
    rw [fits_iff] at h5
    rw [intoS_branch]
    simp only [N.count]
    rcases hk : kidN m ks (chunkM h L) with _ | n
    · simp only [intoSO]; omega
    · have hm : n ∈ ks := by
        unfold kidN at hk
        split at hk
        · exact List.mem_of_getElem? hk
        · cases hk
      have h7 := ih n hm (L + 1) (h5 n hm)
      have h8 := counts_mem hm
      simp only [intoSO]
      omega
theorem intoSO_le1 {h : Nat} {k : List UInt8} {n : Option N} (hf : fitO n) : (intoSO h k n 0).1 ≤ 1000013 := by
  cases n with
  | none => simp [intoSO]
  | some n => have := (intoS_le (h := h) (k := k) n 0 hf.1).1; have := hf.2; simp only [intoSO]; omega
theorem intoSO_le2 {h : Nat} {k : List UInt8} {n : Option N} (hf : fitO n) : (intoSO h k n 0).2 ≤ 1000013 := by
  cases n with
  | none => simp [intoSO]
  | some n => have := (intoS_le (h := h) (k := k) n 0 hf.1).2; have := hf.2; simp only [intoSO]; omega
def PutS (n tb : Nat) (cv' : List Value) (pi kp vp : Option Addr) (kl kc vl vc : Nat) (w' : World) : Prop :=
  w'.heap[tb]? = some (.cells cv'.toArray 110) ∧ w'.cell? ⟨n, 17, none⟩ = some (.pointer pi) ∧ w'.cell? ⟨n + 1, 0, none⟩ = some (.slice kp kl kc) ∧ w'.cell? ⟨n + 1, 1, none⟩ = some (.slice vp vl vc) ∧ (∃ old : Array Value, old.size = 18 ∧ w'.heap[n + 1 + 1]? = some (.cells old 112))
theorem cell_other {w w' : World} {b o : Nat} (h : w'.heap[b]? = w.heap[b]?) : w'.cell? ⟨b, o, none⟩ = w.cell? ⟨b, o, none⟩ := by unfold World.cell?; rw [h]
theorem putS_set {n tb : Nat} {cv' : List Value} {pi kp vp : Option Addr} {kl kc vl vc : Nat} {w' : World} (h : PutS n tb cv' pi kp vp kl kc vl vc w') (hd : tb ≠ n + 1 + 1) {arr : Array Value} (ha : arr.size = 18) : PutS n tb cv' pi kp vp kl kc vl vc (w'.setRow (n + 1 + 1) arr) := by
  obtain ⟨h1, h2, h3, h4, old, h5, h6⟩ := h
  exact ⟨(setRow_other hd).trans h1, (cell_other (setRow_other (by omega))).trans h2, (cell_other (setRow_other (by omega))).trans h3, (cell_other (setRow_other (by omega))).trans h4, arr, ha, setRow_heap _ _ _ _ 112 (0, 0) h6⟩
set_option maxHeartbeats 4000000 in
set_option maxRecDepth 100000 in
theorem chartPut (w : World) (D : Nat → Prop) (hD : ∀ j, w.heap.size ≤ j → D j) {mb : Option Nat} (ho : Off D mb) (hm2 : mb ≠ some 2) (hm0 : mb ≠ some 0) {vi c : Nat} (hm : Met w mb vi c) {kp vp : Option Addr} {kc vc : Nat} {k v : List UInt8} (hi : InP w mb kp vp kc vc k v) {n : Option N} {t : T} {s : List UInt8} {cv : List Value} (ht : IsCh w D s n t cv) (hf : fitO n) (hb : t.Bal) (hts : t.size < 1048576)
    (hk : k.length ≤ 65536) (hv : v.length ≤ 65536) (hvi : vi < 999970000000) (hci : c < 999970000000) (h2 : 2 < w.heap.size) (hT : TabAt 2 Lib.deBruijn32tab w) (hS : StartAt w) :
    Calls Tryz.prog 205 #[.agg cv.toArray, pairV kp kc k vp vc v, .pointer (mptr mb)] w fun e w' => ∃ cv', e = .returned (.tuple #[.agg cv'.toArray, .int .i64 0]) ∧ IsCh w' D s (some (intoO (hashM s k) k v n 0).1) (putT k v t) cv' ∧
      Met w' mb (vi + (intoSO (hashM s k) k n 0).1 + pathT k t) (c + (intoSO (hashM s k) k n 0).2 + pathT k t) ∧ w.grownBy w' mb := by
  have hsz := ht.size
  obtain ⟨pi, hch, hti⟩ := ht.chart
  have hs := ht.len
  obtain ⟨x, p, hcv, hx, htr⟩ := ht.parts
  have hcx : cv = (s.map bv ++ [x]) ++ [.pointer p] := by rw [hcv]; simp
  obtain rfl : pi = p := by
    have := hch.idx
    rw [hcv, List.getElem?_toArray, List.getElem?_append_right (by simp [hs])] at this
    simp [hs] at this
    exact this.symm
  obtain ⟨W3, hW3⟩ : ∃ W, W = ((w.alloc (.cells cv.toArray 112)).alloc (.cells #[.slice kp k.length kc, .slice vp v.length vc] 61)).alloc zRow112 := ⟨_, rfl⟩
  have hs3 : W3.heap.size = w.heap.size + 3 := by rw [hW3]; simp
  have hB : Below w.heap.size w W3 := by rw [hW3]; exact (((Below.refl _ w).alloc (Nat.le_refl _) _).alloc (by simp) _).alloc (by simp; omega) _
  have r0 : W3.heap[w.heap.size]? = some (.cells cv.toArray 112) := by rw [hW3, Below.heap_alloc _ _ _ (by simp; omega)]; exact heap_alloc2_old _ _ _
  have r1 : W3.heap[w.heap.size + 1]? = some (.cells #[.slice kp k.length kc, .slice vp v.length vc] 61) := by rw [hW3, Below.heap_alloc _ _ _ (by simp)]; exact heap_alloc2_new _ _ _
  have r2 : W3.heap[w.heap.size + 1 + 1]? = some zRow112 := by
    have := heap_alloc_new ((w.alloc (.cells cv.toArray 112)).alloc (.cells #[.slice kp k.length kc, .slice vp v.length vc] 61)) zRow112
    rw [hW3]
    simpa using this
  have hml := hm.lt
  have n0 : mb ≠ some w.heap.size := fun e => by have := hml _ e; omega
  have n1 : mb ≠ some (w.heap.size + 1) := fun e => by have := hml _ e; omega
  have n2 : mb ≠ some (w.heap.size + 1 + 1) := fun e => by have := hml _ e; omega
  have hgB := grown_of_below hB mb
  have up : ∀ w', W3.grownBy w' mb → w.grownBy w' mb := fun w' hg => grown_trans hgB hg
  have hD' : ∀ w', W3.grownBy w' mb → ∀ j, w'.heap.size ≤ j → (D j ∧ j ≠ w.heap.size + 1 + 1) := fun w' hg j hj => ⟨hD j (Nat.le_trans (up w' hg).size hj), by have := hg.size; omega⟩
  have ho' : Off (fun j => D j ∧ j ≠ w.heap.size + 1 + 1) mb := fun b hb h => ho b hb h.1
  have hx' : NodeAt w (fun j => D j ∧ j ≠ w.heap.size + 1 + 1) n x := hx.mono fun j hj hd => ⟨hd, by omega⟩
  have ht' : TreeAt w (fun j => D j ∧ j ≠ w.heap.size + 1 + 1) pi t := htr.mono fun j hj hd => ⟨hd, by omega⟩
  have HC := Lib.hid (show ∀ w', W3.grownBy w' mb → (w'.heap[w.heap.size]? = some (.cells cv.toArray 112) ∧ w'.heap[w.heap.size + 1]? = some (.cells #[.slice kp k.length kc, .slice vp v.length vc] 61) ∧ w'.heap[w.heap.size + 1 + 1]? = some zRow112) from fun w' hg => ⟨grown_row hg r0 n0, grown_row hg r1 n1, grown_row hg r2 n2⟩)
  have CC := Lib.hid (show Calls Tryz.prog 164 #[pairV kp kc k vp vc v] W3 (fun e w' => e = .returned (.int .i64 0) ∧ Below W3.heap.size W3 w') from (pairCheck W3 kp vp kc vc k v).mono fun e w' ⟨he, hb⟩ => ⟨by rw [he]; unfold checkE; rw [if_neg (by omega)]; rfl, hb⟩)
  obtain ⟨sz, hsz'⟩ : ∃ sz : Int, sz = (t.size : Int) := ⟨_, rfl⟩
  have hgt : ¬ ((1048576 : Int) ≤ sz) := by omega
  have CL := Lib.hid (show ∀ w', W3.grownBy w' mb → Calls Tryz.prog 98 #[.agg cv.toArray] w' (fun e w'' => e = .returned (.int .i64 sz) ∧ Below w'.heap.size w' w'') from by rw [hsz']; exact fun w' hg => (chartLenO w' hch (htr.grown ho (up w' hg))).mono fun e w'' ⟨he, hw⟩ => ⟨he, by rw [hw]; exact (Below.refl _ w').alloc (Nat.le_refl _) _⟩)
  have CT := Lib.hid (show ∀ w', W3.grownBy w' mb → Met w' mb vi c → Calls Tryz.prog 92 #[.agg (s.map bv ++ [x]).toArray, pairV kp kc k vp vc v, .pointer (mptr mb)] w' _ from fun w' hg hmm => triePut w' (fun j => D j ∧ j ≠ w.heap.size + 1 + 1) (hD' w' hg) ho' hm2 hmm (hi.grown (up w' hg)) ⟨hs, x, rfl, hx'.grown ho' (up w' hg)⟩ hf (by omega) (by omega) (Nat.lt_of_lt_of_le h2 (up w' hg).size) (tab_grown hT h2 hm2 (up w' hg)) (hS.keep ((up w' hg).block 0 (by omega) (fun e => hm0 e.symm))) hm0)
  have hpl := pathT_le k t
  have CP := Lib.hid (show ∀ w' a b, W3.grownBy w' mb → Met w' mb a b → a < 999980000000 → b < 999980000000 → Calls Tryz.prog 20 #[.pointer pi, pairV kp kc k vp vc v, .pointer (mptr mb)] w' _ from fun w' a b hg hmm ha hb' => treePut w' (fun j => D j ∧ j ≠ w.heap.size + 1 + 1) (hD' w' hg) ho' hmm hb hts (by omega) (by omega) (ht'.grown ho' (up w' hg)) (hi.grown (up w' hg)))
  have HM := Lib.hid (hm.below hB)
  have HCX := Lib.hid hcx
  have HCH := Lib.hid hch
  have UP := Lib.hid up
  have hg0 := grown_rfl W3 mb
  have hz : cv.toArray.size = 18 := by simpa using hsz
  have hS1 : (intoSO (hashM s k) k n 0).1 ≤ 1000013 := intoSO_le1 hf
  have hS2' : (intoSO (hashM s k) k n 0).2 ≤ 1000013 := intoSO_le2 hf
  have ha9 : vi + (intoSO (hashM s k) k n 0).1 < 999980000000 := by omega
  have hb9 : c + (intoSO (hashM s k) k n 0).2 < 999980000000 := by omega
  clear hsz' hts hpl hk hv hvi hci hf hb hS1 hS2'
  clear hcv hcx hx htr ht hch hti up hgB hB hx' ht' hD' r0 r1 r2
  go_enter Tryz.func205, Tryz.ntmps205
  go_wp2_with fail
  rw [← hW3]
  clear hW3
  (go_at_call 164; ((with_reducible refine (CC.out).mono ?_)); rintro e w4 ⟨rfl, hb4⟩; have hg4 := grown_of_below hb4 mb; have HM4 := Lib.hid (HM.out.below hb4); have HR4 := Lib.hid (range_row (HC.out _ hg4).1); clear hb4)
  go_wp2_with (first | (refine wpList_load112 rfl _ rfl _ 0 rfl cv HR4.out hsz ?_) | fail)
  (go_at_call 98; ((with_reducible refine (CL.out _ hg4).mono ?_)); rintro e w5 ⟨rfl, hb5⟩; have hg5 := grown_step hg4 (grown_of_below hb5 mb); have HM5 := Lib.hid (HM4.out.below hb5); have HR5 := Lib.hid (range_front (by have := range_row (HC.out _ hg5).1; rw [HCX.out] at this; exact this)); have y0 := cell_of_row w5 (w.heap.size + 1) 0 _ _ (0, 0) (HC.out _ hg5).2.1; have y1 := cell_of_row w5 (w.heap.size + 1) 1 _ _ (0, 0) (HC.out _ hg5).2.1; clear hb5)
  go_wp2_with (first | (refine wpList_load110 rfl _ rfl _ 0 rfl (s.map bv ++ [x]) HR5.out (by simp [hs]) ?_) | fail)
  (go_at_call 92; ((with_reducible refine (CT.out _ hg5 HM5.out).mono ?_)); rintro e w6 ⟨cv', rfl, ht6, hm6, hg6⟩; have HT6 := Lib.hid ht6; have HM6 := Lib.hid hm6; have hg6' := grown_step hg5 hg6; clear ht6 hm6)
  have hl6 : cv'.length = 17 := by obtain ⟨x, h, _⟩ := HT6.out.root; rw [h]; simp [hs]
  have ho6 : cv'.toArray.all (·.oneCell') = true := by
    obtain ⟨x, h, hx⟩ := HT6.out.root
    rw [h]
    refine all_oneCell_toArray fun v hv => ?_
    rcases List.mem_append.1 hv with h | h
    · exact bv_one s v h
    · simp at h; subst h; exact hx.one
  go_wp2_with (first | (refine wpList_store_row rfl 110 _ _ rfl w6.heap.size rfl cv'.toArray rfl 110 _ (heap_alloc_new w6 _) (by rw [info_110]; simp [hl6]) (by simp [hl6]) ho6 ?_) | fail)
  rw [World.setRow_alloc_new]
  obtain ⟨tb, htb⟩ : ∃ tb, tb = w6.heap.size := ⟨_, rfl⟩
  obtain ⟨W7, hW7⟩ : ∃ W, W = w6.alloc (.cells cv'.toArray 110) := ⟨_, rfl⟩
  rw [← hW7, ← htb]
  have hg7 : W3.grownBy W7 mb := by rw [hW7]; exact grown_step hg6' (grown_of_below ((Below.refl _ w6).alloc (Nat.le_refl _) _) mb)
  have HM7 := Lib.hid (show Met W7 mb _ _ from by rw [hW7]; exact HM6.out.below ((Below.refl _ w6).alloc (Nat.le_refl _) _))
  have r7 : W7.heap[tb]? = some (.cells cv'.toArray 110) := by rw [hW7, htb]; exact heap_alloc_new _ _
  have HT7 := Lib.hid (show IsTrie W7 (fun j => D j ∧ j ≠ w.heap.size + 1 + 1) s _ cv' from ⟨hs, by obtain ⟨x, h, hx⟩ := HT6.out.root; exact ⟨x, h, by rw [hW7]; exact hx.below ((Below.refl _ w6).alloc (Nat.le_refl _) _)⟩⟩)
  have n7 : mb ≠ some tb := fun e => by have := HM6.out.lt _ e; omega
  have d7 : tb ≠ w.heap.size + 1 + 1 := by have := hg6'.size; omega
  clear hW7 htb HT6 HM6 hg6 hg6' HM5 HR5 y0 y1 hg5 hg4 HM4 HR4
  have HS := Lib.hid (show ∀ w', W7.grownBy w' mb → PutS w.heap.size tb cv' pi kp vp k.length kc v.length vc w' from fun w' hg => by
    obtain ⟨h1, h2, h3⟩ := HC.out w' (grown_trans hg7 hg)
    exact ⟨grown_row hg r7 n7, by rw [cell_of_row w' _ 17 _ _ (0, 0) h1]; exact HCH.out.idx, cell_of_row w' _ 0 _ _ (0, 0) h2, cell_of_row w' _ 1 _ _ (0, 0) h2, _, rfl, h3⟩)
  have hf18 := fold18 hl6 (.pointer none)
  have hone : ∀ b : Option Addr, (cv' ++ [Value.pointer b]).toArray.all (·.oneCell') = true := fun b => all_oneCell_toArray (fun v hv => by
    rcases List.mem_append.1 hv with h | h
    · exact (Array.all_eq_true_iff_forall_mem.1 ho6) v (by simpa using h)
    · simp at h; subst h; rfl)
  have hsz18 : ∀ b : Option Addr, (cv' ++ [Value.pointer b]).toArray.size = 18 := fun b => by simp [hl6]
  have hS2 : ∀ w', PutS w.heap.size tb cv' pi kp vp k.length kc v.length vc w' → w'.cell? ⟨w.heap.size, 17, none⟩ = some (.pointer pi) ∧ w'.cell? ⟨w.heap.size + 1, 0, none⟩ = some (.slice kp k.length kc) ∧ w'.cell? ⟨w.heap.size + 1, 1, none⟩ = some (.slice vp v.length vc) := fun w' h => ⟨h.2.1, h.2.2.1, h.2.2.2.1⟩
  have hg8 := grown_dr W7 mb
  refine wp_region_held_drew (S := PutS w.heap.size tb cv' pi kp vp k.length kc v.length vc) (by kernel_rfl) (HS.out _ hg8) (fun hHeld => ?_)
  obtain ⟨d, hd, hr⟩ := und_of row_110
  refine wpAnyH_take (i := 0) (oi := ⟨some 41, _, _, _, _, _⟩) (v := .agg cv'.toArray) rfl (by kernel_rfl) (by kernel_rfl) (by kernel_rfl) (fun _ _ _ h => h) (yieldsIf_load_mid (by rfl) _ _ rfl tb 0 rfl cv' d (fun w h => range_row h.1) hd hr (by rw [info_110, hl6])) hHeld ?_
  try simp only [Act.put, List.setIfInBounds_toArray, List.set_cons_zero, List.set_cons_succ]
  refine wpAnyH_take (i := 1) (oi := ⟨some 42, _, _, _, _, _⟩) (v := .pointer (some ⟨w.heap.size, 17, none⟩)) rfl (by kernel_rfl) (by kernel_rfl) (by kernel_rfl) (fun _ _ _ h => h) (Or.inl ⟨by rfl, ?_⟩) hHeld ?_
  · intro w' hSw
    obtain ⟨z1, z2, z3⟩ := hS2 w' hSw
    go_simp
  try simp only [Act.put, List.setIfInBounds_toArray, List.set_cons_zero, List.set_cons_succ]
  refine wpAnyH_take (i := 2) (oi := ⟨some 43, _, _, _, _, _⟩) (v := .pointer pi) rfl (by kernel_rfl) (by kernel_rfl) (by kernel_rfl) (fun _ _ _ h => h) (Or.inl ⟨by rfl, ?_⟩) hHeld ?_
  · intro w' hSw
    obtain ⟨z1, z2, z3⟩ := hS2 w' hSw
    go_simp
  try simp only [Act.put, List.setIfInBounds_toArray, List.set_cons_zero, List.set_cons_succ]
  refine wpAnyH_take (i := 3) (oi := ⟨some 44, _, _, _, _, _⟩) (v := pairV kp kc k vp vc v) rfl (by kernel_rfl) (by kernel_rfl) (by kernel_rfl) (fun _ _ _ h => h) (Or.inl ⟨by rfl, ?_⟩) hHeld ?_
  · intro w' hSw
    obtain ⟨z1, z2, z3⟩ := hS2 w' hSw
    go_simp
  try simp only [Act.put, List.setIfInBounds_toArray, List.set_cons_zero, List.set_cons_succ]
  refine wpAnyH_take (i := 4) (oi := ⟨some 45, _, _, _, _, _⟩) (v := .pointer (mptr mb)) rfl (by kernel_rfl) (by kernel_rfl) (by kernel_rfl) (fun _ _ _ h => h) (Or.inl ⟨by rfl, ?_⟩) hHeld ?_
  · intro w' hSw
    obtain ⟨z1, z2, z3⟩ := hS2 w' hSw
    go_simp
  try simp only [Act.put, List.setIfInBounds_toArray, List.set_cons_zero, List.set_cons_succ]
  refine wpAnyH_ready (rs := [5]) (by kernel_rfl) (by simp) ?_
  refine AllReadyH.cons (o := ⟨some 46, _, _, _, _, _⟩) rfl (fun K' hK => ?_) AllReadyH.nil
  rw [if_pos (by rfl)]
  go_simp
  (go_at_call 20; ((with_reducible refine (CP.out _ _ _ (grown_step hg7 hg8) HM7.out.dr ha9 hb9).mono ?_)); rintro e w9 ⟨b9, rfl, ht9, hm9, hg9'⟩; have HT9 := Lib.hid ht9; have HM9 := Lib.hid hm9; have hg9 := grown_step hg8 hg9'; clear ht9 hm9)
  go_wp2_with fail
  refine hK.out _ _ (HS.out _ hg9) (fun hHeld => ?_)
  clear hK K' hHeld
  have hHeld := HS.out _ hg9
  have hf := hf18
  try simp only [Act.put, List.setIfInBounds_toArray, List.set_cons_zero, List.set_cons_succ]
  refine wpAnyH_take (i := 6) (oi := ⟨some 47, _, _, _, _, _⟩) (v := .agg (cv' ++ [Value.pointer (some ⟨b9, 0, none⟩)]).toArray) rfl (by kernel_rfl) (by kernel_rfl) (by kernel_rfl) (fun _ _ _ h => h) (Or.inl ⟨by rfl, ?_⟩) hHeld ?_
  · intro w' hSw
    go_simp
  try simp only [Act.put, List.setIfInBounds_toArray, List.set_cons_zero, List.set_cons_succ]
  refine wpAnyH_ready (rs := [7]) (by kernel_rfl) (by simp) ?_
  refine AllReadyH.cons (o := ⟨none, _, _, _, _, _⟩) rfl (fun K' hK => ?_) AllReadyH.nil
  rw [if_pos (by rfl)]
  obtain ⟨_, _, _, _, old, ho1, ho2⟩ := hHeld
  refine wp_store_row 112 _ _ rfl (w.heap.size + 1 + 1) rfl (cv' ++ [Value.pointer (some ⟨b9, 0, none⟩)]).toArray rfl 112 old ho2 (by rw [info_112]; simp [hl6]) (by rw [ho1]; simp [hl6]) (hone _) ?_
  refine hK.out _ _ (putS_set (HS.out _ hg9) d7 (hsz18 _)) (fun hHeld => ?_)
  clear hK K'
  refine wpAnyH_take (i := 8) (oi := ⟨some 7, _, _, _, _, _⟩) (v := .int .i64 0) rfl (by kernel_rfl) (by kernel_rfl) (by kernel_rfl) (fun _ _ _ h => h) (Or.inl ⟨by rfl, ?_⟩) hHeld ?_
  · intro w' hSw
    go_simp
  try simp only [Act.put, List.setIfInBounds_toArray, List.set_cons_zero, List.set_cons_succ]
  refine wpAnyH_done (by kernel_rfl) ?_ _
  go_wp2_with fail
  have hl : (cv' ++ [Value.pointer (some ⟨b9, 0, none⟩)]).length = 18 := by simp [hl6]
  obtain ⟨x9, hx9, hn9⟩ := HT7.out.root
  have hg : w.grownBy w9 mb := UP.out _ (grown_trans hg7 hg9)
  refine bodyPost_ret (results_row2 rfl _ _ (w.heap.size + 1 + 1) 112 (cv' ++ [Value.pointer (some ⟨b9, 0, none⟩)]) (0, 0) rfl (setRow_heap _ _ _ _ 112 (0, 0) ho2) row_112 (by rw [info_112, hl])) rfl ⟨_, rfl, ⟨hs, x9, some ⟨b9, 0, none⟩, by rw [hx9]; simp, ?_, ?_⟩, ?_, ?_⟩
  · exact (NodeAt.keep_row (NodeAt.grown (n := some _) hn9 ho' hg9) ho2 (fun h => h.2 rfl)).mono fun j _ h => h.1
  · exact (TreeAt.keep (by rw [setRow_size]; exact Nat.le_refl _) (fun j _ hd => setRow_other (fun e => hd.2 e)) HT9.out).mono fun j _ h => h.1
  · exact fun b hb => (setRow_other (fun e => n2 (by rw [hb, e]))).trans (HM9.out b hb)
  · exact ⟨hg.os, hg.tape, hg.output, by rw [setRow_size]; exact hg.size, fun j hj hne => (setRow_other (by omega)).trans (hg.block j hj hne)⟩
structure Ch where
  s : List UInt8
  n : Option N
  t : T
def Ents (w : World) (D : Nat → Prop) : List (Nat × Ch) → List MapEntry → Prop
  | [], es => es = []
  | x :: L, es => ∃ e es', es = e :: es' ∧ e.key = .int .i64 (x.1 : Int) ∧ (∃ cv, e.val = .agg cv.toArray ∧ IsCh w D x.2.s x.2.n x.2.t cv) ∧ Ents w D L es'
structure ShelfAt (w : World) (D : Nat → Prop) (sb r : Nat) (L : List (Nat × Ch)) (next : Nat) : Prop where
  row : ∃ es clock, w.heap[sb]? = some (.cells #[.map (some r), .int .i64 (next : Int)] 192) ∧ w.heap[r]? = some (.map es clock) ∧ Ents w D L es.toList ∧ r ≠ sb
theorem Ents.length {w : World} {D : Nat → Prop} : ∀ {L : List (Nat × Ch)} {es : List MapEntry}, Ents w D L es → es.length = L.length
  | [], es, h => by have h : es = [] := h; rw [h]; rfl
  | x :: L, es, h => by
    obtain ⟨e, es', rfl, _, _, h'⟩ := h
    simp [h'.length]
theorem Ents.find {w : World} {D : Nat → Prop} (k : Nat) : ∀ {L : List (Nat × Ch)} {es : List MapEntry} (i : Nat), Ents w D L es →
    (∀ x, L.find? (fun x => x.1 == k) = some x → ∃ j cv, Instr.findNow (.int .i64) (.int .i64 (k : Int)) es i = some (some (j, .agg cv.toArray)) ∧ IsCh w D x.2.s x.2.n x.2.t cv) ∧
    (L.find? (fun x => x.1 == k) = none → Instr.findNow (.int .i64) (.int .i64 (k : Int)) es i = some none)
  | [], es, i, h => by have h : es = [] := h; subst h; exact ⟨fun x h => (by simp at h), fun _ => rfl⟩
  | x :: L, es, i, h => by
    obtain ⟨e, es', rfl, hk, ⟨cv, hv, hc⟩, h'⟩ := h
    have ih := Ents.find k (i + 1) h'
    by_cases hx : x.1 = k
    · have h1 : Instr.findNow (.int .i64) (.int .i64 (k : Int)) (e :: es') i = some (some (i, .agg cv.toArray)) := by
        simp [Instr.findNow, hk, Instr.sameNow, hx, hv]
      refine ⟨fun y hy => ?_, fun hn => ?_⟩
      · rw [List.find?_cons_of_pos (by simpa using hx)] at hy
        cases hy
        exact ⟨i, cv, h1, hc⟩
      · rw [List.find?_cons_of_pos (by simpa using hx)] at hn; cases hn
    · have h1 : Instr.findNow (.int .i64) (.int .i64 (k : Int)) (e :: es') i = Instr.findNow (.int .i64) (.int .i64 (k : Int)) es' (i + 1) := by
        have hne : ((k : Int) == (x.1 : Int)) = false := by rw [beq_eq_false_iff_ne]; omega
        simp [Instr.findNow, hk, Instr.sameNow, hne]
      rw [List.find?_cons_of_neg (by simpa using hx), h1]
      exact ih
set_option maxRecDepth 100000 in
theorem shelfNew (w : World) : Calls Tryz.prog 31 #[] w fun e w' => ∃ sb r, e = .returned (.pointer (some ⟨sb, 0, none⟩)) ∧ (∀ D, ShelfAt w' D sb r [] 0) ∧ w.heap.size ≤ sb ∧ w.heap.size ≤ r ∧ Below w.heap.size w w' := by
  have hmm := @run_makeMap Tryz.prog
  go_enter Tryz.func31, Tryz.ntmps31
  go_wp2
  go_ret
  refine ⟨_, w.heap.size, rfl, fun D => ⟨#[], 0, heap_alloc2_new _ _ _, ?_, rfl, ?_⟩, ?_, Nat.le_refl _, ?_⟩
  · exact heap_alloc2_old w _ _
  · simp
  · simp
  · exact ((Below.refl _ w).alloc (Nat.le_refl _) _).alloc (by simp) _
theorem und_190 : Tryz.prog.underlying 190 = some (.map 3 112) := by kernel_rfl
theorem und_3 : Tryz.prog.underlying 3 = some (.int .i64) := by kernel_rfl
theorem map_len {w : World} {r : Nat} {es : Array MapEntry} {clock : Nat} (hm : w.heap[r]? = some (.map es clock)) : (Builtin.len_ #[190] 3 #[.map (some r)]).run Tryz.prog w = .ok (.int .i64 (es.size : Int)) w := by
  simp [Builtin.len_, run_underlying und_190, MapKept.run_getObj_map hm, goInt, Result.andThen]
theorem zero_112 : (Tryz.prog.info? 112).map (fun i => i.zero) = some (some (.agg #[.int .u8 0, .int .u8 0, .int .u8 0, .int .u8 0, .int .u8 0, .int .u8 0, .int .u8 0, .int .u8 0, .int .u8 0, .int .u8 0, .int .u8 0, .int .u8 0, .int .u8 0, .int .u8 0, .int .u8 0, .int .u8 0, .nilIface, .pointer none])) := by kernel_rfl
theorem zeroV_112 (w : World) : (zeroValue 112).run Tryz.prog w = .ok (.agg #[.int .u8 0, .int .u8 0, .int .u8 0, .int .u8 0, .int .u8 0, .int .u8 0, .int .u8 0, .int .u8 0, .int .u8 0, .int .u8 0, .int .u8 0, .int .u8 0, .int .u8 0, .int .u8 0, .int .u8 0, .int .u8 0, .nilIface, .pointer none]) w := by
  have h := zero_112
  cases hq : Tryz.prog.info? 112 with
  | none => rw [hq] at h; cases h
  | some i =>
    rw [hq] at h
    simp at h
    simp [zeroValue, typeInfo, hq, h]
theorem map_look {w : World} {r k : Nat} {es : Array MapEntry} {clock : Nat} (hm : w.heap[r]? = some (.map es clock)) {a : Option (Nat × Value)} (hf : Instr.findNow (.int .i64) (.int .i64 (k : Int)) es.toList 0 = some a) :
    (Instr.lookup 190 (.map (some r)) (.int .i64 (k : Int)) true).run Tryz.prog w = .ok (match a with | some (_, v) => .tuple #[v, .bool true] | none => .tuple #[.agg #[.int .u8 0, .int .u8 0, .int .u8 0, .int .u8 0, .int .u8 0, .int .u8 0, .int .u8 0, .int .u8 0, .int .u8 0, .int .u8 0, .int .u8 0, .int .u8 0, .int .u8 0, .int .u8 0, .int .u8 0, .int .u8 0, .nilIface, .pointer none], .bool false]) w := by
  unfold Instr.lookup
  rcases a with _ | ⟨i, v⟩ <;>
  simp [run_underlying und_190, MapKept.run_getObj_map hm, Result.andThen, MapKept.run_checkKey (P := Tryz.prog) (kt := 3) und_3 (k := .int .i64 (k : Int)) rfl es.isEmpty 9999, MapKept.run_findKey (P := Tryz.prog) (w := w) (kt := 3) und_3 hf, zeroV_112]
set_option maxRecDepth 100000 in
theorem shelfRoom (w : World) {D : Nat → Prop} {sb r next : Nat} {L : List (Nat × Ch)} (h : ShelfAt w D sb r L next) (hL : L.length < 64) : Calls Tryz.prog 87 #[.pointer (some ⟨sb, 0, none⟩)] w fun e w' => e = .returned (.int .i64 0) ∧ w = w' := by
  obtain ⟨es, clock, hr, hm, he, _⟩ := h.row
  have hl := he.length
  have c0 : w.cell? ⟨sb, 0, none⟩ = some (.map (some r)) := cell_of_row w sb 0 _ _ (0, 0) hr
  have q0 := map_len hm
  have g0 : ¬ (64 : Int) ≤ (es.size : Int) := by rw [← Array.length_toList]; omega
  clear he hl hL
  go_enter Tryz.func87, Tryz.ntmps87
  go_wp2
  go_ret
  exact ⟨rfl, rfl⟩
theorem range_set {w : World} {g : Nat} {cs : List Value} {t : TypeId} {old : Array Value} {fr : Nat × Nat} (h : w.heap[g]? = some (.cells old t fr)) : (w.setRow g cs.toArray).rangeAt g 0 cs := range_row (setRow_heap w g old cs.toArray t fr h)
set_option maxHeartbeats 2000000 in
set_option maxRecDepth 100000 in
theorem shelfGet (w : World) {D : Nat → Prop} {sb r next k : Nat} {L : List (Nat × Ch)} (h : ShelfAt w D sb r L next) {x : Nat × Ch} (hx : L.find? (fun x => x.1 == k) = some x) : Calls Tryz.prog 41 #[.pointer (some ⟨sb, 0, none⟩), .int .i64 (k : Int)] w fun e w' => ∃ cv, e = .returned (.tuple #[.agg cv.toArray, .int .i64 0]) ∧ IsCh w' D x.2.s x.2.n x.2.t cv ∧ Below w.heap.size w w' := by
  obtain ⟨es, clock, hr, hm, he, _⟩ := h.row
  obtain ⟨j, cv, hf, hc⟩ := (he.find k 0).1 x hx
  have hsz := hc.size
  have hone := hc.one
  obtain ⟨W2, hW2⟩ : ∃ W, W = w.alloc zRow112 := ⟨_, rfl⟩
  have hB : Below w.heap.size w W2 := by rw [hW2]; exact (Below.refl _ w).alloc (Nat.le_refl _) _
  have r0 : W2.heap[w.heap.size]? = some zRow112 := by rw [hW2]; exact heap_alloc_new _ _
  have hz2 : W2.heap.size = w.heap.size + 1 := by rw [hW2]; simp
  have hr2 := (hB.block sb (row_ltT hr)).trans hr
  have hm2 := (hB.block r (row_ltT hm)).trans hm
  have c0 : W2.cell? ⟨sb, 0, none⟩ = some (.map (some r)) := cell_of_row W2 sb 0 _ _ (0, 0) hr2
  have q0 := map_look hm2 hf
  dsimp only at q0
  have HB := Lib.hid hB
  have HC := Lib.hid hc
  have HR0 := Lib.hid r0
  clear h hr hm he hf hc hB hr2 hm2 hx
  subst hW2
  go_enter Tryz.func41, Tryz.ntmps41
  go_wp2_with (first | (refine wpList_store_row rfl 112 _ _ rfl (w.heap.size + 1) rfl cv.toArray rfl 112 _ (heap_alloc2_new w _ _) (by rw [info_112]; simp [hsz]) (by simp [hsz]) hone ?_) | (refine wpList_load112 rfl _ rfl (w.heap.size + 1) 0 rfl cv (range_set (heap_alloc2_new w _ _)) hsz ?_) | (refine wpList_store_row rfl 112 _ _ rfl w.heap.size rfl cv.toArray rfl 112 _ ((setRow_other (by omega)).trans (heap_alloc2_old w _ _)) (by rw [info_112]; simp [hsz]) (by simp [hsz]) hone ?_) | fail)
  have hrow : ∀ (W : World) (c1 c2 : Array Value), W.heap[w.heap.size]? = some (.cells c1 112) → ((W.setRow (w.heap.size + 1) c2).setRow w.heap.size cv.toArray).heap[w.heap.size]? = some (.cells cv.toArray 112) := fun W c1 c2 h => setRow_heap _ _ c1 _ 112 (0, 0) ((setRow_other (by omega)).trans h)
  refine bodyPost_ret (results_row2 rfl _ _ w.heap.size 112 cv (0, 0) rfl (hrow _ _ _ (heap_alloc2_old w _ _)) row_112 (by rw [info_112, hsz])) rfl ?_
  have hb := below_setRow (below_setRow (((Below.refl w.heap.size w).alloc (Nat.le_refl _) zRow112).alloc (by simp) zRow112) (Nat.le_succ _) cv.toArray) (Nat.le_refl _) cv.toArray
  exact ⟨cv, rfl, HC.out.below hb, hb⟩
theorem Ents.keep {w w' : World} {D : Nat → Prop} (hz : w.heap.size ≤ w'.heap.size) (hk : ∀ k, k < w.heap.size → D k → w'.heap[k]? = w.heap[k]?) : ∀ {L : List (Nat × Ch)} {es : List MapEntry}, Ents w D L es → Ents w' D L es
  | [], es, h => h
  | x :: L, es, h => by
    obtain ⟨e, es', rfl, h1, ⟨cv, h2, h3⟩, h4⟩ := h
    obtain ⟨y, p, rfl, hy, ht⟩ := h3.parts
    refine ⟨e, es', rfl, h1, ⟨_, h2, h3.len, y, p, rfl, ?_, ht.keep hz hk⟩, h4.keep hz hk⟩
    cases hn : x.2.n with
    | none => rw [hn] at hy; exact hy
    | some n => rw [hn] at hy; exact N.At.keep hz hk hy
theorem Ents.snoc {w : World} {D : Nat → Prop} {y : Nat × Ch} {e : MapEntry} (hk : e.key = .int .i64 (y.1 : Int)) (hv : ∃ cv, e.val = .agg cv.toArray ∧ IsCh w D y.2.s y.2.n y.2.t cv) : ∀ {L : List (Nat × Ch)} {es : List MapEntry}, Ents w D L es → Ents w D (L ++ [y]) (es ++ [e])
  | [], es, h => by have h : es = [] := h; subst h; exact ⟨e, [], rfl, hk, hv, rfl⟩
  | x :: L, es, h => by
    obtain ⟨e', es', rfl, h1, h2, h4⟩ := h
    exact ⟨e', es' ++ [e], rfl, h1, h2, Ents.snoc hk hv h4⟩
theorem map_put {w : World} {r k : Nat} {es : Array MapEntry} {clock : Nat} {v : Value} (hm : w.heap[r]? = some (.map es clock)) (hf : Instr.findNow (.int .i64) (.int .i64 (k : Int)) es.toList 0 = some none) :
    (Instr.mapUpdate 190 (.map (some r)) (.int .i64 (k : Int)) v).run Tryz.prog w = .ok () (w.putObj r (.map (es.push { key := .int .i64 (k : Int), val := v, born := clock }) (clock + 1))) := by
  unfold Instr.mapUpdate
  simp [run_underlying und_190, MapKept.run_getObj_map hm, Result.andThen, MapKept.run_checkKey (P := Tryz.prog) (kt := 3) und_3 (k := .int .i64 (k : Int)) rfl false 9999, MapKept.run_findKey (P := Tryz.prog) (w := w) (kt := 3) und_3 hf, MapKept.run_setObj_map _ hm, World.putObj]
theorem ShelfAt.below {w w' : World} {D : Nat → Prop} {sb r next : Nat} {L : List (Nat × Ch)} (h : ShelfAt w D sb r L next) (hb : Below w.heap.size w w') : ShelfAt w' D sb r L next := by
  obtain ⟨es, clock, h1, h2, h3, h4⟩ := h.row
  exact ⟨es, clock, (hb.block sb (row_ltT h1)).trans h1, (hb.block r (row_ltT h2)).trans h2, h3.keep hb.size (below_heap hb D), h4⟩
def AddS (sb r next xb : Nat) (cv : List Value) (w' : World) : Prop :=
  w'.cell? ⟨sb, 0, none⟩ = some (.map (some r)) ∧ w'.cell? ⟨sb, 1, none⟩ = some (.int .i64 ((next : Int) + 1)) ∧ w'.rangeAt xb 0 cv
theorem no_key {L : List (Nat × Ch)} {next : Nat} (hk : ∀ x ∈ L, x.1 ≤ next) : L.find? (fun x => x.1 == next + 1) = none := by
  rw [List.find?_eq_none]
  intro x hx
  have := hk x hx
  simp
  omega
set_option maxHeartbeats 2000000 in
set_option maxRecDepth 100000 in
theorem shelfAdd (w : World) {D : Nat → Prop} {sb r next : Nat} (hDr : ¬ D r) (hDs : ¬ D sb) {L : List (Nat × Ch)} (h : ShelfAt w D sb r L next) (hL : L.length < 64) (hk : ∀ x ∈ L, x.1 ≤ next) (hn : next < 1000000) {c : Ch} {cv : List Value} (hc : IsCh w D c.s c.n c.t cv) :
    Calls Tryz.prog 89 #[.pointer (some ⟨sb, 0, none⟩), .agg cv.toArray] w fun e w' => e = .returned (.tuple #[.int .i64 ((next : Int) + 1), .int .i64 0]) ∧ ShelfAt w' D sb r (L ++ [(next + 1, c)]) (next + 1) ∧ (w'.os = w.os ∧ w'.tape = w.tape ∧ w'.output = w.output ∧ w.heap.size ≤ w'.heap.size) ∧ ∀ j, j < w.heap.size → j ≠ sb → j ≠ r → w'.heap[j]? = w.heap[j]? := by
  have hsz := hc.size
  obtain ⟨W2, hW2⟩ : ∃ W, W = w.alloc (.cells cv.toArray 112) := ⟨_, rfl⟩
  have hB : Below w.heap.size w W2 := by rw [hW2]; exact (Below.refl _ w).alloc (Nat.le_refl _) _
  have r0 : W2.heap[w.heap.size]? = some (.cells cv.toArray 112) := by rw [hW2]; exact heap_alloc_new _ _
  have h2 := h.below hB
  have hc2 := hc.below hB
  have CR := Lib.hid (shelfRoom W2 h2 hL)
  obtain ⟨es, clock, hr, hm, he, hne⟩ := h2.row
  have hsl : sb < w.heap.size := by obtain ⟨_, _, h1, _⟩ := h.row; exact row_ltT h1
  have hrl : r < w.heap.size := by obtain ⟨_, _, _, h1, _⟩ := h.row; exact row_ltT h1
  have hf := (he.find (next + 1) 0).2 (no_key hk)
  have c1 : W2.cell? ⟨sb, 1, none⟩ = some (.int .i64 (next : Int)) := cell_of_row W2 sb 1 _ _ (0, 0) hr
  have f1 : W2.frozen? ⟨sb, 1, none⟩ = false := frozen_of_row W2 sb 1 _ _ hr
  have wr1 : IntKind.i64.wrap ((next : Int) + 1) = (next : Int) + 1 := IntWalk.i64_in _ (by omega)
  have hz : cv.toArray.size = 18 := by simpa using hsz
  obtain ⟨W3, hW3⟩ : ∃ W, W = W2.setCell ⟨sb, 1, none⟩ (.int .i64 ((next : Int) + 1)) := ⟨_, rfl⟩
  have hr3 : W3.heap[sb]? = some (.cells #[.map (some r), .int .i64 ((next : Int) + 1)] 192) := by rw [hW3]; simp [World.setCell, Array.getElem?_modify, hr]
  have ho3 : ∀ j, j ≠ sb → W3.heap[j]? = W2.heap[j]? := fun j hj => by rw [hW3]; exact Below.heap_setCell _ _ _ _ hj
  have hm3 : W3.heap[r]? = some (.map es clock) := (ho3 r hne).trans hm
  have hx3 : W3.heap[w.heap.size]? = some (.cells cv.toArray 112) := (ho3 _ (by omega)).trans r0
  have hz3 : W3.heap.size = W2.heap.size := by rw [hW3]; simp [World.setCell]
  have hS3 : AddS sb r next w.heap.size cv W3.drew := ⟨cell_of_row W3 sb 0 _ _ (0, 0) hr3, cell_of_row W3 sb 1 _ _ (0, 0) hr3, range_row (w := W3.drew) hx3⟩
  have HE := Lib.hid he
  have HC2 := Lib.hid hc2
  have HB := Lib.hid hB
  have hos : W3.os = w.os ∧ W3.tape = w.tape ∧ W3.output = w.output := by rw [hW3]; exact ⟨hB.os, hB.tape, hB.output⟩
  have HOS := Lib.hid hos
  clear hc2 he h h2 hc hL hk hB r0 hr hm hx3
  go_enter Tryz.func89, Tryz.ntmps89
  go_wp2_with fail
  rw [← hW2]
  clear hW2
  go_wp2_with (go_at_call 87; ((with_reducible refine (CR.out).mono ?_)); rintro e w1 ⟨rfl, rfl⟩)
  rw [← hW3]
  clear hW3
  refine wp_region_held_drew (S := AddS sb r next w.heap.size cv) (by kernel_rfl) hS3 (fun hHeld => ?_)
  refine wpAnyH_take (i := 0) (oi := ⟨some 19, _, _, _, _, _⟩) (v := .pointer (some ⟨sb, 0, none⟩)) rfl (by kernel_rfl) (by kernel_rfl) (by kernel_rfl) (fun _ _ _ h => h) (Or.inl ⟨by rfl, ?_⟩) hHeld ?_
  · intro w' hSw
    obtain ⟨z1, z2, z3⟩ := hSw
    go_simp
  try simp only [Act.put, List.setIfInBounds_toArray, List.set_cons_zero, List.set_cons_succ]
  refine wpAnyH_take (i := 1) (oi := ⟨some 20, _, _, _, _, _⟩) (v := .pointer (some ⟨sb, 0, none⟩)) rfl (by kernel_rfl) (by kernel_rfl) (by kernel_rfl) (fun _ _ _ h => h) (Or.inl ⟨by rfl, ?_⟩) hHeld ?_
  · intro w' hSw
    obtain ⟨z1, z2, z3⟩ := hSw
    go_simp
  try simp only [Act.put, List.setIfInBounds_toArray, List.set_cons_zero, List.set_cons_succ]
  refine wpAnyH_take (i := 2) (oi := ⟨some 21, _, _, _, _, _⟩) (v := .pointer (some ⟨sb, 0, none⟩)) rfl (by kernel_rfl) (by kernel_rfl) (by kernel_rfl) (fun _ _ _ h => h) (Or.inl ⟨by rfl, ?_⟩) hHeld ?_
  · intro w' hSw
    obtain ⟨z1, z2, z3⟩ := hSw
    go_simp
  try simp only [Act.put, List.setIfInBounds_toArray, List.set_cons_zero, List.set_cons_succ]
  refine wpAnyH_take (i := 3) (oi := ⟨some 22, _, _, _, _, _⟩) (v := .map (some r)) rfl (by kernel_rfl) (by kernel_rfl) (by kernel_rfl) (fun _ _ _ h => h) (Or.inl ⟨by rfl, ?_⟩) hHeld ?_
  · intro w' hSw
    obtain ⟨z1, z2, z3⟩ := hSw
    go_simp
  try simp only [Act.put, List.setIfInBounds_toArray, List.set_cons_zero, List.set_cons_succ]
  refine wpAnyH_take (i := 4) (oi := ⟨some 23, _, _, _, _, _⟩) (v := .pointer (some ⟨sb, 0, none⟩)) rfl (by kernel_rfl) (by kernel_rfl) (by kernel_rfl) (fun _ _ _ h => h) (Or.inl ⟨by rfl, ?_⟩) hHeld ?_
  · intro w' hSw
    obtain ⟨z1, z2, z3⟩ := hSw
    go_simp
  try simp only [Act.put, List.setIfInBounds_toArray, List.set_cons_zero, List.set_cons_succ]
  refine wpAnyH_take (i := 5) (oi := ⟨some 24, _, _, _, _, _⟩) (v := .pointer (some ⟨sb, 0, none⟩)) rfl (by kernel_rfl) (by kernel_rfl) (by kernel_rfl) (fun _ _ _ h => h) (Or.inl ⟨by rfl, ?_⟩) hHeld ?_
  · intro w' hSw
    obtain ⟨z1, z2, z3⟩ := hSw
    go_simp
  try simp only [Act.put, List.setIfInBounds_toArray, List.set_cons_zero, List.set_cons_succ]
  refine wpAnyH_take (i := 6) (oi := ⟨some 25, _, _, _, _, _⟩) (v := .pointer (some ⟨sb, 1, none⟩)) rfl (by kernel_rfl) (by kernel_rfl) (by kernel_rfl) (fun _ _ _ h => h) (Or.inl ⟨by rfl, ?_⟩) hHeld ?_
  · intro w' hSw
    obtain ⟨z1, z2, z3⟩ := hSw
    go_simp
  try simp only [Act.put, List.setIfInBounds_toArray, List.set_cons_zero, List.set_cons_succ]
  refine wpAnyH_take (i := 7) (oi := ⟨some 26, _, _, _, _, _⟩) (v := .int .i64 ((next : Int) + 1)) rfl (by kernel_rfl) (by kernel_rfl) (by kernel_rfl) (fun _ _ _ h => h) (Or.inl ⟨by rfl, ?_⟩) hHeld ?_
  · intro w' hSw
    obtain ⟨z1, z2, z3⟩ := hSw
    go_simp
  try simp only [Act.put, List.setIfInBounds_toArray, List.set_cons_zero, List.set_cons_succ]
  obtain ⟨d, hd, hrw⟩ := und_of row_112
  refine wpAnyH_take (i := 8) (oi := ⟨some 27, _, _, _, _, _⟩) (v := .agg cv.toArray) rfl (by kernel_rfl) (by kernel_rfl) (by kernel_rfl) (fun _ _ _ h => h) (yieldsIf_load_mid (by rfl) _ _ rfl w.heap.size 0 rfl cv d (fun w h => h.2.2) hd hrw (by rw [info_112, hsz])) hHeld ?_
  try simp only [Act.put, List.setIfInBounds_toArray, List.set_cons_zero, List.set_cons_succ]
  refine wpAnyH_ready (rs := [9]) (by kernel_rfl) (by simp) ?_
  refine AllReadyH.cons (o := ⟨none, _, _, _, _, _⟩) rfl (fun K' hK => ?_) AllReadyH.nil
  rw [if_pos (by rfl)]
  have hmp := map_put (w := W3.drew) (v := .agg cv.toArray) hm3 hf
  rw [show ((next + 1 : Nat) : Int) = (next : Int) + 1 from by omega] at hmp
  go_simp
  obtain ⟨W4, hW4⟩ : ∃ W, W = W3.drew.putObj r (.map (es.push { key := .int .i64 ((next : Int) + 1), val := .agg cv.toArray, born := clock }) (clock + 1)) := ⟨_, rfl⟩
  rw [← hW4]
  have ho4 : ∀ j, j ≠ r → W4.heap[j]? = W3.heap[j]? := fun j hj => by rw [hW4]; exact World.putObj_heap_other hj
  have hr4 : W4.heap[sb]? = some (.cells #[.map (some r), .int .i64 ((next : Int) + 1)] 192) := (ho4 sb (fun e => hne e.symm)).trans hr3
  have hm4 : W4.heap[r]? = some (.map (es.push { key := .int .i64 ((next : Int) + 1), val := .agg cv.toArray, born := clock }) (clock + 1)) := by rw [hW4]; exact (MapKept.heap_set hm3).1
  have hz4 : W4.heap.size = W3.heap.size := by rw [hW4]; simp [World.putObj]
  have c4 : W4.cell? ⟨sb, 1, none⟩ = some (.int .i64 ((next : Int) + 1)) := cell_of_row W4 sb 1 _ _ (0, 0) hr4
  have hos4 : W4.os = w.os ∧ W4.tape = w.tape ∧ W4.output = w.output := by rw [hW4]; exact HOS.out
  have hx4 : W4.rangeAt w.heap.size 0 cv := fun j v hv => (cell_other (ho4 _ (by omega))).trans (hS3.2.2 j v hv)
  clear hmp hW4
  refine hK.out _ _ ⟨cell_of_row W4 sb 0 _ _ (0, 0) hr4, c4, hx4⟩ (fun _ => ?_)
  clear hK K'
  refine wpAnyH_done (by kernel_rfl) ?_ _
  go_wp2
  go_ret2
  have hB := HB.out
  have hkeep : ∀ j, j < W2.heap.size → D j → W4.heap[j]? = W2.heap[j]? := fun j _ hd => (ho4 j (fun e => hDr (e ▸ hd))).trans (ho3 j (fun e => hDs (e ▸ hd)))
  have hzz : W2.heap.size ≤ W4.heap.size := by omega
  refine ⟨rfl, ⟨es.push { key := .int .i64 ((next : Int) + 1), val := .agg cv.toArray, born := clock }, clock + 1, by rw [hr4]; rfl, hm4, ?_, hne⟩, ⟨hos4.1, hos4.2.1, hos4.2.2, by have := hB.size; omega⟩, fun j hj h1 h2 => ?_⟩
  · rw [Array.toList_push]
    have hc2 : Ents W2 D [(next + 1, c)] [{ key := .int .i64 ((next : Int) + 1), val := .agg cv.toArray, born := clock }] := ⟨_, [], rfl, rfl, ⟨cv, rfl, HC2.out⟩, rfl⟩
    have hc4 := hc2.keep hzz hkeep
    obtain ⟨e, es', he1, he2, he3, _⟩ := hc4
    cases he1
    exact (HE.out.keep hzz hkeep).snoc he2 he3
  · rw [ho4 j h2, ho3 j h1]
    exact hB.block j hj
structure MapsAt (w : World) (S D : Nat → Prop) (mp g sb r : Nat) (l : List UInt8) (tk : Nat) (L : List (Nat × Ch)) (next : Nat) : Prop where
  row : w.heap[mp]? = some (.cells #[.pointer (some ⟨g, 0, none⟩), .pointer (some ⟨sb, 0, none⟩)] 94)
  src : Src w S g l tk
  shelf : ShelfAt w D sb r L next
  dS : ∀ j, D j → ¬ S j
  ds : ¬ D sb
  dr : ¬ D r
  Ss : ¬ S sb
  Sr : ¬ S r
  Sm : ¬ S mp
  ms : mp ≠ sb
  mr : mp ≠ r
  keys : ∀ x ∈ L, x.1 ≤ next
  Sb : ∀ j, S j → j < w.heap.size
theorem ShelfAt.keep {w w' : World} {D : Nat → Prop} {sb r next : Nat} {L : List (Nat × Ch)} (h : ShelfAt w D sb r L next) (hz : w.heap.size ≤ w'.heap.size) (hk : ∀ k, k < w.heap.size → D k ∨ k = sb ∨ k = r → w'.heap[k]? = w.heap[k]?) : ShelfAt w' D sb r L next := by
  obtain ⟨es, clock, h1, h2, h3, h4⟩ := h.row
  exact ⟨es, clock, (hk sb (row_ltT h1) (.inr (.inl rfl))).trans h1, (hk r (row_ltT h2) (.inr (.inr rfl))).trans h2, h3.keep hz fun k hk' hd => hk k hk' (.inl hd), h4⟩
theorem MapsAt.below {w w' : World} {S D : Nat → Prop} {mp g sb r tk next : Nat} {l : List UInt8} {L : List (Nat × Ch)} (h : MapsAt w S D mp g sb r l tk L next) (hb : Below w.heap.size w w') : MapsAt w' S D mp g sb r l tk L next :=
  ⟨(hb.block mp (row_ltT h.row)).trans h.row, h.src.below hb, h.shelf.below hb, h.dS, h.ds, h.dr, h.Ss, h.Sr, h.Sm, h.ms, h.mr, h.keys, fun j hj => Nat.lt_of_lt_of_le (h.Sb j hj) hb.size⟩
theorem MapsAt.seed {w w' : World} {S D : Nat → Prop} {mp g sb r tk tk' next : Nat} {l l' : List UInt8} {L : List (Nat × Ch)} (h : MapsAt w S D mp g sb r l tk L next) (hs : Src w' S g l' tk') (hk : Kept w w' (fun k => k = g)) : MapsAt w' S D mp g sb r l' tk' L next := by
  obtain ⟨q, d, _, _, hg, _⟩ := h.src
  refine ⟨(hk.block mp (row_ltT h.row) (fun e => h.Sm (e ▸ hg))).trans h.row, hs, h.shelf.keep hk.size fun k hkk hd => hk.block k hkk fun e => ?_, h.dS, h.ds, h.dr, h.Ss, h.Sr, h.Sm, h.ms, h.mr, h.keys, fun j hj => Nat.lt_of_lt_of_le (h.Sb j hj) hk.size⟩
  subst e
  rcases hd with hd | hd | hd
  · exact h.dS _ hd hg
  · exact h.Ss (hd ▸ hg)
  · exact h.Sr (hd ▸ hg)
end Go.Proofs.YtmbiiemlepfoaaaGreatDoor
