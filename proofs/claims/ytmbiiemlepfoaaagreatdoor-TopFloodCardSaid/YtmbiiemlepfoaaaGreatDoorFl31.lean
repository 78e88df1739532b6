/- The walk of codec.Size over a chart's cells as one list. append onto a row of bytes that has room, as an arm. -/
import Derived.Test.YtmbiiemlepfoaaaGreatDoorFl01
import Derived.Test.YtmbiiemlepfoaaaGreatDoorFl30
import Derived.Test.YtmbiiemlepfoaaaGreatDoorFl24
import Derived.Test.YtmbiiemlepfoaaaGreatDoorFl13
import Derived.Room.AppendFits
import Derived.OwnWalk

namespace Go.Proofs.YtmbiiemlepfoaaaGreatDoor
open Go.RowKit Go.Shelf
set_option linter.unusedVariables false
attribute [local go_sem] Oper.semAt_some
theorem rankM_nil : ∀ t : T, rankM t [] = 0
  | .nil => rfl
  | .node l k v r => by
    rw [rankM_ge (by cases k <;> simp [Lib.compareBytes])]
    exact rankM_nil l
theorem seqM_all (t : T) : seqM t [] [] false = t.list.zipIdx := by
  unfold seqM endM
  rw [rankM_nil, List.drop_zero, if_neg (by decide), List.take_of_length_le (by rw [List.length_zipIdx, T.list_length]; exact Nat.le_refl _)]
theorem zip_fst (L : List PairT) : ∀ k, (L.zipIdx k).map Prod.fst = L := by
  induction L with
  | nil => intro k; rfl
  | cons x L ih => intro k; rw [List.zipIdx_cons, List.map_cons, ih]
theorem pairsN_le : ∀ {L : List PairT}, (∀ x ∈ L, x.1.length ≤ 1000000 ∧ x.2.length ≤ 1000000) → pairsN L ≤ L.length * 2000020
  | [], _ => Nat.zero_le _
  | x :: L, h => by
    have h1 := h x (by simp)
    have h2 := pairsN_le (L := L) fun y hy => h y (by simp [hy])
    have s1 := size_le (n := x.1.length) (by omega)
    have s2 := size_le (n := x.2.length) (by omega)
    have : pairsN (x :: L) = pairN x + pairsN L := by unfold pairsN; rw [List.map_cons, List.sum_cons]
    rw [this, List.length_cons]
    unfold pairN textN
    omega
theorem pairsN_snoc (L : List PairT) (x : PairT) : pairsN (L ++ [x]) = pairsN L + pairN x := by unfold pairsN; simp
theorem zip_pre {L : List PairT} {pre post : List (PairT × Nat)} {x : PairT × Nat} (h : L.zipIdx = pre ++ x :: post) : L = pre.map Prod.fst ++ x.1 :: post.map Prod.fst := by
  rw [← zip_fst L 0, h]; simp
set_option maxHeartbeats 4000000 in
set_option maxRecDepth 100000 in
theorem codecSize (w : World) {D : Nat → Prop} {s : List UInt8} {n : Option N} {t : T} {cv : List Value} (h : IsCh w D s n t cv) (hne : t.Neat) (hsz : t.size ≤ 1000000) :
    Calls Tryz.prog 96 #[.agg cv.toArray] w fun e w' => e = .returned (.int .i64 (sizeM t : Int)) ∧ Below w.heap.size w w' := by
  have hl := h.size
  obtain ⟨p, hch, htr⟩ := h.chart
  have htr' : TreeAt w (fun k => k < w.heap.size) p t := htr.mono fun k hk _ => hk
  have hz : cv.toArray.size = 18 := by simpa using hl
  have CL := Lib.hid (show ∀ w', Below w.heap.size w w' → Calls Tryz.prog 98 #[.agg cv.toArray] w' (fun e w'' => e = .returned (.int .i64 (t.size : Int)) ∧ w'' = w'.alloc (.cells cv.toArray 112)) from fun w' hb => chartLenO w' hch (htr.below hb))
  have CI := Lib.hid (show ∀ w', Calls Tryz.prog 100 #[.agg cv.toArray] w' (fun e w'' => e = .returned (.pointer p) ∧ w'' = w'.alloc (.cells cv.toArray 112)) from fun w' => chartIndexO w' hch)
  have CA := Lib.hid (show ∀ w', Calls Tryz.prog 99 #[.pointer p, .agg #[.slice none 0 0, .slice none 0 0, .bool false]] w' (fun e w'' => e = .returned (.func (.func 172) #[] #[.pointer (some ⟨w'.heap.size, 0, none⟩), .pointer (some ⟨w'.heap.size + 1, 0, none⟩)]) ∧ w'' = (w'.alloc (.cells #[.pointer p] 43)).alloc (.cells #[.slice none 0 0, .slice none 0 0, .bool false] 151)) from fun w' => walkAll w' p none none 0 0 [] [] false)
  have CZ := Lib.hid (show ∀ w', Calls Tryz.prog 170 #[.int .u64 (t.size : Int)] w' _ from fun w' => frSize w' t.size (by omega))
  have hb := (Below.refl _ w).alloc (Nat.le_refl _) (.cells cv.toArray 112)
  clear h hch htr
  refine (callsIn_wide (n := 0)).1 ?_
  refine callsIn_of_wp_marks Tryz.func96 rfl trivial ?_ rfl
  simp only [Tryz.ntmps96, List.size_toArray, List.length_cons, List.length_nil, Nat.reduceAdd, Nat.reduceSub, Array.replicate_succ, Array.replicate_zero, List.push_toArray, List.append_toArray, List.nil_append, List.cons_append]
  gi_wp2_with first
    | (refine wpListIn_load112 rfl _ rfl w.heap.size 0 rfl cv (range_row (heap_alloc_new w _)) hl ?_)
    | (refine wpListIn_load112 rfl _ rfl w.heap.size 0 rfl cv (World.rangeAt_alloc (World.rangeAt_alloc (range_row (heap_alloc_new w _)) _) _) hl ?_)
    | (refine ⟨trivial, rfl, ?_⟩; ((with_reducible refine ((callsIn_wide (n := 0)).2 (CI.out _)).mono ?_)); rintro e w1 ⟨rfl, rfl⟩)
    | (refine ⟨trivial, rfl, ?_⟩; ((with_reducible refine ((callsIn_wide (n := 0)).2 (CL.out _ hb)).mono ?_)); rintro e w1 ⟨rfl, rfl⟩)
    | (refine ⟨trivial, rfl, ?_⟩; ((with_reducible refine ((callsIn_wide (n := 0)).2 (CZ.out _)).mono ?_)); rintro e w1 ⟨rfl, rfl⟩)
    | (refine ⟨trivial, rfl, ?_⟩; ((with_reducible refine ((callsIn_wide (n := 0)).2 (CA.out _)).mono ?_)); rintro e w1 ⟨rfl, rfl⟩)
  have hsn := size_le (n := t.size) (by omega)
  have wr0 : wrap64 (4 + (sizeN t.size : Int)) = ((4 + sizeN t.size : Nat) : Int) := by rw [IntWalk.wrap64_in _ (by omega)]; omega
  rw [wr0]
  obtain ⟨W0, hW0⟩ : ∃ x, x = ((((((w.alloc (.cells cv.toArray 112)).alloc (.cells cv.toArray 112)).alloc (.cells #[.int .i64 ((4 + sizeN t.size : Nat) : Int)] 3)).alloc (.cells cv.toArray 112)).alloc (.cells #[.pointer p] 43)).alloc (.cells #[.slice none 0 0, .slice none 0 0, .bool false] 151)) := ⟨_, rfl⟩
  have hs : W0.heap.size = w.heap.size + 6 := by rw [hW0]; simp
  have hbw : Below w.heap.size w W0 := by rw [hW0]; exact ((((hb.alloc (by simp) _).alloc (by simp; omega) _).alloc (by simp; omega) _).alloc (by simp; omega) _).alloc (by simp; omega) _
  have x2 : Boxed W0 (w.heap.size + 1 + 1) 3 (.int .i64 ((4 + sizeN t.size : Nat) : Int)) := by
    rw [hW0]; have := Boxed.new ((w.alloc (.cells cv.toArray 112)).alloc (.cells cv.toArray 112)) 3 (.int .i64 ((4 + sizeN t.size : Nat) : Int)); rw [World.size_alloc, World.size_alloc] at this; exact ((this.alloc _).alloc _).alloc _
  have xp : Boxed W0 (w.heap.size + 1 + 1 + 1 + 1) 43 (.pointer p) := by
    rw [hW0]; have := Boxed.new ((((w.alloc (.cells cv.toArray 112)).alloc (.cells cv.toArray 112)).alloc (.cells #[.int .i64 ((4 + sizeN t.size : Nat) : Int)] 3)).alloc (.cells cv.toArray 112)) 43 (.pointer p); rw [World.size_alloc, World.size_alloc, World.size_alloc, World.size_alloc] at this; exact this.alloc _
  have xs : W0.heap[w.heap.size + 1 + 1 + 1 + 1 + 1]? = some (.cells #[.slice none 0 0, .slice none 0 0, .bool false] 151) := by
    rw [hW0]; have := heap_alloc_new (((((w.alloc (.cells cv.toArray 112)).alloc (.cells cv.toArray 112)).alloc (.cells #[.int .i64 ((4 + sizeN t.size : Nat) : Int)] 3)).alloc (.cells cv.toArray 112)).alloc (.cells #[.pointer p] 43)) (.cells #[.slice none 0 0, .slice none 0 0, .bool false] 151); rw [World.size_alloc, World.size_alloc, World.size_alloc, World.size_alloc, World.size_alloc] at this; exact this
  have nilB : IsB W0 none 0 [] := IsB.none_ W0
  have SQ := allSeq W0 (n₀ := w.heap.size) (by omega) (by omega) (by omega) (htr'.below hbw) hne.small (by omega) nilB nilB false xp.cell xs
  rw [seqM_all] at SQ
  rw [← hW0]
  clear hW0 xp xs
  refine wpIn_seqG (gf := 172) (lb := #[.pointer (some ⟨w.heap.size + 1 + 1 + 1 + 1, 0, none⟩), .pointer (some ⟨w.heap.size + 1 + 1 + 1 + 1 + 1, 0, none⟩)]) rfl (enters_of Tryz.func172 (by kernel_rfl) rfl) SQ (by omega) (Below.refl _ _) ?hps
    (fun g pre A => Boxed A (w.heap.size + 1 + 1) 3 (.int .i64 ((4 + sizeN t.size + pairsN (pre.map Prod.fst) : Nat) : Int)) ∧ Below w.heap.size w A ∧ w.heap.size + 6 ≤ A.heap.size)
    (fun _ _ _ _ => False) ?hI ?hIx ?h0
    (fun g pre x a' A => (Boxed A (w.heap.size + 1 + 1) 3 (.int .i64 ((4 + sizeN t.size + pairsN (pre.map Prod.fst) : Nat) : Int)) ∧ Below w.heap.size w A ∧ w.heap.size + 6 ≤ A.heap.size) ∧ ∃ q1 d1 q2 d2 pb, A.heap[pb]? = some (.cells #[.slice q1 x.1.1.length d1, .slice q2 x.1.2.length d2] 61) ∧ W0.heap.size ≤ pb ∧
      a' = { tmps := #[.agg cv.toArray, .pointer (some ⟨w.heap.size, 0, none⟩), .int .i64 0, .pointer (some ⟨w.heap.size + 1 + 1, 0, none⟩), undef, .pointer (some ⟨pb, 0, none⟩), .agg cv.toArray, .int .i64 (t.size : Int), .int .u64 (t.size : Int), .int .i64 (sizeN t.size : Int), .int .i64 ((4 + sizeN t.size : Nat) : Int), .agg cv.toArray, .pointer p, .agg #[.slice none 0 0, .slice none 0 0, .bool false],
          .func (.func 172) #[] #[.pointer (some ⟨w.heap.size + 1 + 1 + 1 + 1, 0, none⟩), .pointer (some ⟨w.heap.size + 1 + 1 + 1 + 1 + 1, 0, none⟩)], .int .i64 (x.2 : Int), pairV q1 d1 x.1.1 q2 d2 x.1.2, undef, undef, undef, undef, undef, undef, undef, undef, undef, undef], defers := [] }) ?hAx ?assign ?body ?done ?stop
  case hps => rintro A x args ⟨q1, d1, q2, d2, rfl, _⟩; rfl
  case hI =>
    rintro g pre A B row hg ⟨h1, h2, h3⟩ hgr ht
    refine ⟨h1.kept hgr (fun e => ?_), h2.grown hgr (by omega) (fun k e => ?_), by have := hgr.size; omega⟩
    · rcases ht _ e.symm with h | ⟨h, _⟩ <;> omega
    · rcases ht _ e with h | ⟨h, _⟩ <;> omega
  case hIx => intro c g pre A B row hg h; exact h.elim
  case h0 => exact fun g hg => ⟨x2, hbw, by omega⟩
  case hAx =>
    rintro g pre x a' A l o hg hl hlg hlo ⟨⟨h1, h2, h3⟩, q1, d1, q2, d2, pb, hpb, hlt, rfl⟩ o'
    have hgr := grownBy_putObj' A l (.loop o')
    have hne : pb ≠ l := fun e => by subst e; rw [hpb] at hlo; cases hlo
    exact ⟨⟨h1.kept hgr (fun e => by cases e; omega), h2.grown hgr (by omega) (fun k e => by cases e; omega), by have := hgr.size; omega⟩, q1, d1, q2, d2, pb, (World.putObj_heap_other hne).trans hpb, hlt, rfl⟩
  case assign =>
    rintro l g pre x post args W K hg hxs ⟨h1, h2, h3⟩ ⟨q1, d1, q2, d2, rfl, hk, hv⟩ hK
    gi_wp2
    refine hK _ _ ((KeepsOthers.alloc W _).from _) ⟨(Below.refl _ W).alloc (by omega) _, fun h => haOld W _ h⟩ ⟨⟨h1.alloc _, h2.alloc (by omega) _, by simp; omega⟩, q1, d1, q2, d2, W.heap.size, heap_alloc_new W _, by omega, ?_⟩
    rfl
  case body =>
    rintro l g pre x post a' W hg hl hlg hxs ⟨⟨h1, h2, h3⟩, q1, d1, q2, d2, pb, hpb, hlt, rfl⟩
    have hzp := zip_pre hxs
    have hxm : x.1 ∈ t.list := by rw [hzp]; simp
    have hxn := hne x.1 hxm
    have hpl := pairsN_le (L := pre.map Prod.fst) (fun y hy => hne y (by rw [hzp]; simp only [List.mem_append]; exact .inl hy))
    have hpz : (pre.map Prod.fst).length ≤ t.size := by rw [← T.list_length, hzp]; simp
    obtain ⟨⟨k, v⟩, j⟩ := x
    dsimp only at hpb hxn ⊢
    have sk := size_le (n := k.length) (by omega)
    have sv := size_le (n := v.length) (by omega)
    obtain ⟨ka, hka⟩ : ∃ ka, sizeN k.length + k.length = ka := ⟨_, rfl⟩
    obtain ⟨va, hva⟩ : ∃ va, sizeN v.length + v.length = va := ⟨_, rfl⟩
    have hkal : ka ≤ 1000010 := by omega
    have hval : va ≤ 1000010 := by omega
    have CK := Lib.hid (show ∀ w', Calls Tryz.prog 171 #[.slice q1 k.length d1] w' (fun e w'' => e = .returned (.int .i64 (ka : Int)) ∧ w' = w'') from fun w' => by rw [← hka]; exact codecText w' hxn.1)
    have CV := Lib.hid (show ∀ w', Calls Tryz.prog 171 #[.slice q2 v.length d2] w' (fun e w'' => e = .returned (.int .i64 (va : Int)) ∧ w' = w'') from fun w' => by rw [← hva]; exact codecText w' hxn.2)
    obtain ⟨sm, hsm⟩ : ∃ sm, 4 + sizeN t.size + pairsN (pre.map Prod.fst) = sm := ⟨_, rfl⟩
    have hsml : sm ≤ 3000000000000 := by
      rw [← hsm]
      have : (pre.map Prod.fst).length * 2000020 ≤ 1000000 * 2000020 := Nat.mul_le_mul_right _ (by omega)
      omega
    have hsn' : 4 + sizeN t.size + pairsN ((pre ++ [((k, v), j)]).map Prod.fst) = sm + (ka + va) := by
      rw [List.map_append, List.map_cons, List.map_nil, pairsN_snoc, ← hsm, ← hka, ← hva]; unfold pairN textN; dsimp only; omega
    rw [hsm] at h1
    have HSN := Lib.hid hsn'
    have H1 := Lib.hid h1
    have H2 := Lib.hid h2
    have hz : w.heap.size + 1 + 1 < W.heap.size := by omega
    have hS : (fun w' : World => w'.cell? ⟨pb, 0, none⟩ = some (.slice q1 k.length d1) ∧ w'.cell? ⟨pb, 1, none⟩ = some (.slice q2 v.length d2)) W.drew :=
      ⟨cell_of_row W pb 0 _ _ (0, 0) hpb, cell_of_row W pb 1 _ _ (0, 0) hpb⟩
    have f1 : W.drew.frozen? ⟨w.heap.size + 1 + 1, 0, none⟩ = false := h1.frozen
    have c1 : W.drew.cell? ⟨w.heap.size + 1 + 1, 0, none⟩ = some (.int .i64 (sm : Int)) := h1.cell
    have hS' : (fun w' : World => w'.cell? ⟨pb, 0, none⟩ = some (.slice q1 k.length d1) ∧ w'.cell? ⟨pb, 1, none⟩ = some (.slice q2 v.length d2)) (W.drew.setCell ⟨w.heap.size + 1 + 1, 0, none⟩ (.int .i64 ((sm + (ka + va) : Nat) : Int))) := by
      have hne : ∀ j, (⟨w.heap.size + 1 + 1, 0, none⟩ : Addr) ≠ ⟨pb, j, none⟩ := fun j e => by cases e; omega
      exact ⟨(World.cell?_setCell_other _ _ _ _ (hne 0)).trans hS.1, (World.cell?_setCell_other _ _ _ _ (hne 1)).trans hS.2⟩
    have HF := Lib.hid (show KeepsFrom W0.heap.size W (W.drew.setCell ⟨w.heap.size + 1 + 1, 0, none⟩ (.int .i64 ((sm + (ka + va) : Nat) : Int))) ∧ Keep w.heap.size g W (W.drew.setCell ⟨w.heap.size + 1 + 1, 0, none⟩ (.int .i64 ((sm + (ka + va) : Nat) : Int))) ∧
        Boxed (W.drew.setCell ⟨w.heap.size + 1 + 1, 0, none⟩ (.int .i64 ((sm + (ka + va) : Nat) : Int))) (w.heap.size + 1 + 1) 3 (.int .i64 ((sm + (ka + va) : Nat) : Int)) ∧ Below w.heap.size w (W.drew.setCell ⟨w.heap.size + 1 + 1, 0, none⟩ (.int .i64 ((sm + (ka + va) : Nat) : Int))) ∧ w.heap.size + 6 ≤ (W.drew.setCell ⟨w.heap.size + 1 + 1, 0, none⟩ (.int .i64 ((sm + (ka + va) : Nat) : Int))).heap.size from
      ⟨((KeepsOthers.drew W).trans (KeepsOthers.setCell _ _ _)).from _, ⟨((Below.refl w.heap.size W).drew).setCell (by show w.heap.size ≤ w.heap.size + 1 + 1; omega) _, fun h => Below.heap_setCell _ _ _ _ (fun e => by have e' : g = w.heap.size + 1 + 1 := e; omega)⟩, Boxed.set (W := W.drew) _ h1, (h2.drew).setCell (by show w.heap.size ≤ w.heap.size + 1 + 1; omega) _, by simp [World.setCell]; omega⟩)
    have hsz1 : Hid (w.heap.size + 6 ≤ W.heap.size) := h3
    clear hxs hzp hxm hpl hpz hsm hsn' h1 h2 hpb SQ x2 hka hva sk sv
    gi_wp2
    refine wpIn_round_held (S := fun w' : World => w'.cell? ⟨pb, 0, none⟩ = some (.slice q1 k.length d1) ∧ w'.cell? ⟨pb, 1, none⟩ = some (.slice q2 v.length d2)) (by kernel_rfl) (fun _ _ h => h) (by kernel_rfl) hS (fun hHeld => ?_)
    (refine wpAnyH_take (i := 1) (oi := ⟨some 18, _, _, _, _, _⟩) (v := .pointer (some ⟨pb, 0, none⟩)) rfl (by kernel_rfl) (by kernel_rfl) (by kernel_rfl) (fun _ _ _ h => h) (Or.inl ⟨by rfl, by intro w' hSw; obtain ⟨z1, z2⟩ := hSw; go_simp⟩) hHeld ?_; try simp only [Act.put, List.setIfInBounds_toArray, List.set_cons_zero, List.set_cons_succ])
    (refine wpAnyH_take (i := 2) (oi := ⟨some 19, _, _, _, _, _⟩) (v := .slice q1 k.length d1) rfl (by kernel_rfl) (by kernel_rfl) (by kernel_rfl) (fun _ _ _ h => h) (Or.inl ⟨by rfl, by intro w' hSw; obtain ⟨z1, z2⟩ := hSw; go_simp⟩) hHeld ?_; try simp only [Act.put, List.setIfInBounds_toArray, List.set_cons_zero, List.set_cons_succ])
    (refine wpAnyH_take (i := 4) (oi := ⟨some 21, _, _, _, _, _⟩) (v := .pointer (some ⟨pb, 1, none⟩)) rfl (by kernel_rfl) (by kernel_rfl) (by kernel_rfl) (fun _ _ _ h => h) (Or.inl ⟨by rfl, by intro w' hSw; obtain ⟨z1, z2⟩ := hSw; go_simp⟩) hHeld ?_; try simp only [Act.put, List.setIfInBounds_toArray, List.set_cons_zero, List.set_cons_succ])
    (refine wpAnyH_take (i := 5) (oi := ⟨some 22, _, _, _, _, _⟩) (v := .slice q2 v.length d2) rfl (by kernel_rfl) (by kernel_rfl) (by kernel_rfl) (fun _ _ _ h => h) (Or.inl ⟨by rfl, by intro w' hSw; obtain ⟨z1, z2⟩ := hSw; go_simp⟩) hHeld ?_; try simp only [Act.put, List.setIfInBounds_toArray, List.set_cons_zero, List.set_cons_succ])
    (refine wpAnyH_ready (rs := [0, 3]) (by kernel_rfl) (by simp) ?_; refine (AllReadyH.cons (o := ⟨some 17, _, _, _, _, _⟩) rfl (fun K' hK => ?_) (AllReadyH.cons (o := ⟨some 20, _, _, _, _, _⟩) rfl (fun K' hK => ?_) AllReadyH.nil)))
    · rw [if_pos (by rfl)]
      go_simp
      (refine hK.out _ _ (hS) (fun hHeld => ?_); clear hK K'; try simp only [Act.put, List.setIfInBounds_toArray, List.set_cons_zero, List.set_cons_succ])
      (refine wpAnyH_ready (rs := [3]) (by kernel_rfl) (by simp) ?_; refine AllReadyH.cons (o := ⟨some 20, _, _, _, _, _⟩) rfl (fun K' hK => ?_) AllReadyH.nil; rw [if_pos (by rfl)])
      go_simp
      (go_at_call 171; ((with_reducible refine (CK.out _).mono ?_)); rintro e w4 ⟨rfl, rfl⟩)
      go_wp2_with fail
      (refine hK.out _ _ (hS) (fun hHeld => ?_); clear hK K'; try simp only [Act.put, List.setIfInBounds_toArray, List.set_cons_zero, List.set_cons_succ])
      (refine wpAnyH_ready (rs := [6]) (by kernel_rfl) (by simp) ?_; refine AllReadyH.cons (o := ⟨some 23, _, _, _, _, _⟩) rfl (fun K' hK => ?_) AllReadyH.nil; rw [if_pos (by rfl)])
      go_simp
      (go_at_call 171; ((with_reducible refine (CV.out _).mono ?_)); rintro e w4 ⟨rfl, rfl⟩)
      go_wp2_with fail
      (refine hK.out _ _ (hS) (fun hHeld => ?_); clear hK K'; try simp only [Act.put, List.setIfInBounds_toArray, List.set_cons_zero, List.set_cons_succ])
      (refine wpAnyH_take (i := 7) (oi := ⟨some 24, _, _, _, _, _⟩) (v := .int .i64 ((ka + va : Nat) : Int)) rfl (by kernel_rfl) (by kernel_rfl) (by kernel_rfl) (fun _ _ _ h => h) (Or.inl ⟨by rfl, by intro w' hSw; obtain ⟨z1, z2⟩ := hSw; go_simp; refine IntWalk.i64_in _ ?_; omega⟩) hHeld ?_; try simp only [Act.put, List.setIfInBounds_toArray, List.set_cons_zero, List.set_cons_succ])
      (refine wpAnyH_take (i := 8) (oi := ⟨some 25, _, _, _, _, _⟩) (v := .int .i64 ((sm + (ka + va) : Nat) : Int)) rfl (by kernel_rfl) (by kernel_rfl) (by kernel_rfl) (fun _ _ _ h => h) (Or.inl ⟨by rfl, by intro w' hSw; obtain ⟨z1, z2⟩ := hSw; go_simp; refine IntWalk.i64_in _ ?_; omega⟩) hHeld ?_; try simp only [Act.put, List.setIfInBounds_toArray, List.set_cons_zero, List.set_cons_succ])
      (refine wpAnyH_ready (rs := [9]) (by kernel_rfl) (by simp) ?_; refine AllReadyH.cons (o := ⟨none, _, _, _, _, _⟩) rfl (fun K' hK => ?_) AllReadyH.nil; rw [if_pos (by rfl)])
      go_simp
      (refine hK.out _ _ (hS') (fun hHeld => ?_); clear hK K'; try simp only [Act.put, List.setIfInBounds_toArray, List.set_cons_zero, List.set_cons_succ])
      refine wpAnyH_done (by kernel_rfl) ?_ _
      obtain ⟨f1', f2', f3', f4', f5'⟩ := HF.out
      refine ⟨f1', f2', ?_, f4', f5'⟩
      rw [HSN.out]
      exact f3'
    · rw [if_pos (by rfl)]
      go_simp
      (go_at_call 171; ((with_reducible refine (CK.out _).mono ?_)); rintro e w4 ⟨rfl, rfl⟩)
      go_wp2_with fail
      (refine hK.out _ _ (hS) (fun hHeld => ?_); clear hK K'; try simp only [Act.put, List.setIfInBounds_toArray, List.set_cons_zero, List.set_cons_succ])
      (refine wpAnyH_ready (rs := [0, 6]) (by kernel_rfl) (by simp) ?_; refine (AllReadyH.cons (o := ⟨some 17, _, _, _, _, _⟩) rfl (fun K' hK => ?_) (AllReadyH.cons (o := ⟨some 23, _, _, _, _, _⟩) rfl (fun K' hK => ?_) AllReadyH.nil)))
      · rw [if_pos (by rfl)]
        go_simp
        (refine hK.out _ _ (hS) (fun hHeld => ?_); clear hK K'; try simp only [Act.put, List.setIfInBounds_toArray, List.set_cons_zero, List.set_cons_succ])
        (refine wpAnyH_ready (rs := [6]) (by kernel_rfl) (by simp) ?_; refine AllReadyH.cons (o := ⟨some 23, _, _, _, _, _⟩) rfl (fun K' hK => ?_) AllReadyH.nil; rw [if_pos (by rfl)])
        go_simp
        (go_at_call 171; ((with_reducible refine (CV.out _).mono ?_)); rintro e w4 ⟨rfl, rfl⟩)
        go_wp2_with fail
        (refine hK.out _ _ (hS) (fun hHeld => ?_); clear hK K'; try simp only [Act.put, List.setIfInBounds_toArray, List.set_cons_zero, List.set_cons_succ])
        (refine wpAnyH_take (i := 7) (oi := ⟨some 24, _, _, _, _, _⟩) (v := .int .i64 ((ka + va : Nat) : Int)) rfl (by kernel_rfl) (by kernel_rfl) (by kernel_rfl) (fun _ _ _ h => h) (Or.inl ⟨by rfl, by intro w' hSw; obtain ⟨z1, z2⟩ := hSw; go_simp; refine IntWalk.i64_in _ ?_; omega⟩) hHeld ?_; try simp only [Act.put, List.setIfInBounds_toArray, List.set_cons_zero, List.set_cons_succ])
        (refine wpAnyH_take (i := 8) (oi := ⟨some 25, _, _, _, _, _⟩) (v := .int .i64 ((sm + (ka + va) : Nat) : Int)) rfl (by kernel_rfl) (by kernel_rfl) (by kernel_rfl) (fun _ _ _ h => h) (Or.inl ⟨by rfl, by intro w' hSw; obtain ⟨z1, z2⟩ := hSw; go_simp; refine IntWalk.i64_in _ ?_; omega⟩) hHeld ?_; try simp only [Act.put, List.setIfInBounds_toArray, List.set_cons_zero, List.set_cons_succ])
        (refine wpAnyH_ready (rs := [9]) (by kernel_rfl) (by simp) ?_; refine AllReadyH.cons (o := ⟨none, _, _, _, _, _⟩) rfl (fun K' hK => ?_) AllReadyH.nil; rw [if_pos (by rfl)])
        go_simp
        (refine hK.out _ _ (hS') (fun hHeld => ?_); clear hK K'; try simp only [Act.put, List.setIfInBounds_toArray, List.set_cons_zero, List.set_cons_succ])
        refine wpAnyH_done (by kernel_rfl) ?_ _
        obtain ⟨f1', f2', f3', f4', f5'⟩ := HF.out
        refine ⟨f1', f2', ?_, f4', f5'⟩
        rw [HSN.out]
        exact f3'
      · rw [if_pos (by rfl)]
        go_simp
        (go_at_call 171; ((with_reducible refine (CV.out _).mono ?_)); rintro e w4 ⟨rfl, rfl⟩)
        go_wp2_with fail
        (refine hK.out _ _ (hS) (fun hHeld => ?_); clear hK K'; try simp only [Act.put, List.setIfInBounds_toArray, List.set_cons_zero, List.set_cons_succ])
        (refine wpAnyH_take (i := 7) (oi := ⟨some 24, _, _, _, _, _⟩) (v := .int .i64 ((ka + va : Nat) : Int)) rfl (by kernel_rfl) (by kernel_rfl) (by kernel_rfl) (fun _ _ _ h => h) (Or.inl ⟨by rfl, by intro w' hSw; obtain ⟨z1, z2⟩ := hSw; go_simp; refine IntWalk.i64_in _ ?_; omega⟩) hHeld ?_; try simp only [Act.put, List.setIfInBounds_toArray, List.set_cons_zero, List.set_cons_succ])
        (refine wpAnyH_ready (rs := [0]) (by kernel_rfl) (by simp) ?_; refine AllReadyH.cons (o := ⟨some 17, _, _, _, _, _⟩) rfl (fun K' hK => ?_) AllReadyH.nil; rw [if_pos (by rfl)])
        go_simp
        (refine hK.out _ _ (hS) (fun hHeld => ?_); clear hK K'; try simp only [Act.put, List.setIfInBounds_toArray, List.set_cons_zero, List.set_cons_succ])
        (refine wpAnyH_take (i := 8) (oi := ⟨some 25, _, _, _, _, _⟩) (v := .int .i64 ((sm + (ka + va) : Nat) : Int)) rfl (by kernel_rfl) (by kernel_rfl) (by kernel_rfl) (fun _ _ _ h => h) (Or.inl ⟨by rfl, by intro w' hSw; obtain ⟨z1, z2⟩ := hSw; go_simp; refine IntWalk.i64_in _ ?_; omega⟩) hHeld ?_; try simp only [Act.put, List.setIfInBounds_toArray, List.set_cons_zero, List.set_cons_succ])
        (refine wpAnyH_ready (rs := [9]) (by kernel_rfl) (by simp) ?_; refine AllReadyH.cons (o := ⟨none, _, _, _, _, _⟩) rfl (fun K' hK => ?_) AllReadyH.nil; rw [if_pos (by rfl)])
        go_simp
        (refine hK.out _ _ (hS') (fun hHeld => ?_); clear hK K'; try simp only [Act.put, List.setIfInBounds_toArray, List.set_cons_zero, List.set_cons_succ])
        refine wpAnyH_done (by kernel_rfl) ?_ _
        obtain ⟨f1', f2', f3', f4', f5'⟩ := HF.out
        refine ⟨f1', f2', ?_, f4', f5'⟩
        rw [HSN.out]
        exact f3'
  case done =>
    rintro D' g W hD hDg ⟨h1, h2, h3⟩ hK
    rw [zip_fst] at h1
    have c1 := h1.cell
    have HK := Lib.hid hK
    have H2 := Lib.hid h2
    clear h1 hK h2 SQ x2
    gi_wp2
    refine ⟨by simp, .inl ⟨_, _, rfl, run_takeDeferred HK.out, ?_⟩⟩
    refine ⟨_, results_tmp rfl _ _ _, ?_⟩
    refine ⟨?_, ?_⟩
    · show Ending.returned (.int .i64 (4 + (sizeN t.size : Int) + (pairsN t.list : Int))) = _
      unfold sizeM
      push_cast
      rfl
    · exact H2.out.grown (grownBy_putObj' W D' _) (by omega) (fun k e => by cases e; omega)
  case stop =>
    rintro D' g c pre W _ _ _ h _
    exact h.elim
end Go.Proofs.YtmbiiemlepfoaaaGreatDoor
namespace Go.Proofs.YtmbiiemlepfoaaaGreatDoor
open Go.RowKit Go.Shelf
set_option linter.unusedVariables false
theorem wp_fits_bytes (w : World) {ops : Array Oper} {rest : List Oper} {o : Oper} {a : Act} {Q : Exit → Act → World → Prop} (hgd : o.guard = none) (s x : Operand)
    (ho : o.op = .call { callee := .builtin .append, args := #[s, x], argTypes := #[22, 22] })
    (base g cap : Nat) (L : List UInt8) (hs : a.eval s = .slice (some ⟨g, 0, none⟩) L.length cap) (hown : w.ownsRow base 5 1 (.slice (some ⟨g, 0, none⟩) L.length cap) L.length (L.map bv))
    {p : Option Addr} {c : Nat} {l : List UInt8} (hB : IsB w p c l) (hx : a.eval x = .slice p l.length c) (O : List UInt8) (hO : L ++ l = O) (hfit : O.length ≤ cap)
    (h : ∀ w', w'.ownsRow base 5 1 (.slice (some ⟨g, 0, none⟩) O.length cap) O.length (O.map bv) → w.grownBy w' (some g) → wpList Tryz.prog ops Q rest (a.put o.dst (.slice (some ⟨g, 0, none⟩) O.length cap)) w') : wpList Tryz.prog ops Q (o :: rest) a w := by
  obtain ⟨i0, hi, hz0, hz1, hz2⟩ := info_parts info5
  subst hO
  rw [List.length_append] at hfit
  refine wpList_append_fits_any w hgd s x 22 ho base 5 i0 1 Tryz.underlying22 hi hz1 g L.length cap (L.map bv) hs hown p l.length c (l.map bv) hx (by simp) ?_ ?_ ?_ hfit ?_
  · intro hn
    subst hn
    have := hB.nil rfl
    have := hB.cap
    omega
  · intro ad had j u hj
    rw [List.getElem?_map, Option.map_eq_some_iff] at hj
    obtain ⟨y, hy, rfl⟩ := hj
    obtain ⟨b, o', hp, _, hc⟩ := hB.cells (by have := (List.getElem?_eq_some_iff.1 hy).1; omega)
    rw [had] at hp
    obtain rfl := Option.some.inj hp
    rw [Addr.add_lit]
    exact hc j y hy
  · intro u hu; obtain ⟨y, _, rfl⟩ := List.mem_map.1 hu; rfl
  · intro w' h1 h2
    rw [← List.map_append, ← List.length_append] at h1
    have := h w' h1 h2
    rwa [List.length_append] at this
theorem wp_fits_str (w : World) {ops : Array Oper} {rest : List Oper} {o : Oper} {a : Act} {Q : Exit → Act → World → Prop} (hgd : o.guard = none) (s x : Operand)
    (ho : o.op = .call { callee := .builtin .append, args := #[s, x], argTypes := #[22, 9] })
    (base g cap : Nat) (L : List UInt8) (hs : a.eval s = .slice (some ⟨g, 0, none⟩) L.length cap) (hown : w.ownsRow base 5 1 (.slice (some ⟨g, 0, none⟩) L.length cap) L.length (L.map bv))
    (t : ByteArray) (l : List UInt8) (ht : t = str l) (hx : a.eval x = .string t) (O : List UInt8) (hO : L ++ l = O) (hc : 0 < cap) (hfit : O.length ≤ cap)
    (h : ∀ w', w'.ownsRow base 5 1 (.slice (some ⟨g, 0, none⟩) O.length cap) O.length (O.map bv) → w.grownBy w' (some g) → wpList Tryz.prog ops Q rest (a.put o.dst (.slice (some ⟨g, 0, none⟩) O.length cap)) w') : wpList Tryz.prog ops Q (o :: rest) a w := by
  obtain ⟨i0, hi, hz0, hz1, hz2⟩ := info_parts info5
  subst hO; subst ht
  rw [List.length_append] at hfit
  refine Lib.wpList_append_fits_string w hgd s x 22 9 ho base 5 i0 Tryz.underlying22 Tryz.underlying9 hi hz1 _ L.length cap (L.map bv) hs hown (str l) hx hc (by rw [str_size]; exact hfit) fun w' h1 h2 => ?_
  have hsc : Lib.strCells (str l) = l.map bv := rfl
  rw [hsc, str_size, ← List.map_append] at h1
  rw [← List.length_append] at h1
  have := h w' h1 h2
  rw [str_size]
  rwa [List.length_append] at this
structure OutAt (A : World) (n1 ob cap : Nat) (L : List UInt8) : Prop where
  box : Boxed A ob 22 (.slice (some ⟨n1, 0, none⟩) L.length cap)
  own : A.ownsRow n1 5 1 (.slice (some ⟨n1, 0, none⟩) L.length cap) L.length (L.map bv)
structure Outs (n1 ob : Nat) (W W' : World) : Prop where
  below : Below n1 W W'
  same : ∀ j, j < W.heap.size → j ≠ n1 → j ≠ ob → W'.heap[j]? = W.heap[j]?
theorem Outs.trans {n1 ob : Nat} {A B C : World} (h : Outs n1 ob A B) (k : Outs n1 ob B C) : Outs n1 ob A C :=
  ⟨h.below.trans k.below, fun j hj h1 h2 => (k.same j (Nat.lt_of_lt_of_le hj h.below.size) h1 h2).trans (h.same j hj h1 h2)⟩
theorem Outs.of_below {n1 ob : Nat} {A B : World} (h : Below A.heap.size A B) (hn : n1 ≤ A.heap.size) : Outs n1 ob A B := ⟨h.mono hn, fun j hj _ _ => h.block j hj⟩
theorem Outs.keepsFrom {n1 ob B : Nat} {W W' : World} (h : Outs n1 ob W W') (h1 : n1 < B) (h2 : ob < B) : KeepsFrom B W W' :=
  ⟨h.below.size, fun k o hB hk _ => (h.same k (Array.getElem?_eq_some_iff.1 hk).1 (by omega) (by omega)).trans hk⟩
theorem Outs.keep {n1 ob g : Nat} {W W' : World} (h : Outs n1 ob W W') (h1 : n1 ≠ g) (h2 : ob ≠ g) : Keep n1 g W W' := ⟨h.below, fun hg => h.same g hg (Ne.symm h1) (Ne.symm h2)⟩
theorem Outs.row {n1 ob b : Nat} {W W' : World} {o : Obj} (h : Outs n1 ob W W') (hb : W.heap[b]? = some o) (h1 : n1 ≠ b) (h2 : ob ≠ b) : W'.heap[b]? = some o := (h.same b (row_ltT hb) (Ne.symm h1) (Ne.symm h2)).trans hb
theorem Outs.isD {n1 ob : Nat} {W W' : World} {D : Nat → Prop} {p : Option Addr} {c : Nat} {l : List UInt8} (h : Outs n1 ob W W') (hd : IsD W D p c l) (h1 : ¬ D n1) (h2 : ¬ D ob) : IsD W' D p c l :=
  hd.keep h.below.size fun k hk hD => h.same k hk (fun e => h1 (e ▸ hD)) (fun e => h2 (e ▸ hD))
theorem OutAt.grown {A B : World} {n1 ob cap : Nat} {L : List UInt8} {row : Option Nat} (h : OutAt A n1 ob cap L) (hg : A.grownBy B row) (h1 : some n1 ≠ row) (h2 : some ob ≠ row) : OutAt B n1 ob cap L :=
  ⟨h.box.kept hg h2, h.own.kept hg (.inr (by simpa [Value.ownBlock] using h1))⟩
theorem OutAt.below {A B : World} {n1 ob cap : Nat} {L : List UInt8} (h : OutAt A n1 ob cap L) (hb : Below A.heap.size A B) : OutAt B n1 ob cap L :=
  h.grown (row := none) ⟨hb.os, hb.tape, hb.output, hb.size, fun k hk _ => hb.block k hk⟩ (by simp) (by simp)
theorem OutAt.put {A B C : World} {n1 ob cap : Nat} {L O : List UInt8} (h : OutAt A n1 ob cap L) (hb : Below A.heap.size A B) (hg : B.grownBy C (some n1)) (ho : C.ownsRow n1 5 1 (.slice (some ⟨n1, 0, none⟩) O.length cap) O.length (O.map bv)) (hlt : n1 < ob) :
    (Boxed C ob 22 (.slice (some ⟨n1, 0, none⟩) L.length cap)) ∧ OutAt (C.setCell ⟨ob, 0, none⟩ (.slice (some ⟨n1, 0, none⟩) O.length cap)) n1 ob cap O ∧ Outs n1 ob A (C.setCell ⟨ob, 0, none⟩ (.slice (some ⟨n1, 0, none⟩) O.length cap)) := by
  have hB := (h.below hb).box.kept hg (by simp; omega)
  have hn : n1 ≤ A.heap.size := Nat.le_of_lt (h.own.lt n1 rfl).2
  refine ⟨hB, ⟨hB.set _, ho.kept (grownBy_setCell' C ob _) (.inr (by simp [Value.ownBlock]; omega))⟩, ?_, fun j hj h1 h2 => ?_⟩
  · have hm := hb.mono hn
    exact (hm.grown hg (Nat.le_trans hn hb.size) (fun k e => by cases e; exact Nat.le_refl _)).setCell (by show n1 ≤ ob; omega) _
  · rw [Below.heap_setCell _ _ _ _ (fun e => h2 e), hg.block j (Nat.lt_of_lt_of_le hj hb.size) (fun e => h1 (by injection e))]
    exact hb.block j hj
end Go.Proofs.YtmbiiemlepfoaaaGreatDoor
