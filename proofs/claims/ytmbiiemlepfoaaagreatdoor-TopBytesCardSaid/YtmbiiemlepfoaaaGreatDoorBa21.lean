/- The walk of codec.one. A line on its way: its block; the walk of word. The walks of number, at one digit, and of HasPrefix. -/
import Derived.Test.YtmbiiemlepfoaaaGreatDoorBa20
import Derived.Test.YtmbiiemlepfoaaaGreatDoorBa03
import Derived.Test.YtmbiiemlepfoaaaGreatDoorBa13
import Derived.Test.YtmbiiemlepfoaaaGreatDoorBa02
import Derived.Test.YtmbiiemlepfoaaaGreatDoorBa18

/-! The walk of codec.one. -/
namespace Go.Proofs.YtmbiiemlepfoaaaGreatDoor
open Go.RowKit
set_option linter.unusedVariables false

structure OneR (w w' : World) (g : Nat) (q1 q2 : Option Addr) (d1 d2 : Nat) (o : PairT × List UInt8 × Nat) : Prop where
  key : OB w' q1 d1 o.1.1
  val : OB w' q2 d2 o.1.2
  rd : o.2.2 = 0 → Rd w' g o.2.1 0
  grown : w.grownBy w' (some g)

theorem OB.other {w w' : World} {q : Option Addr} {d : Nat} {l : List UInt8} (h : OB w q d l) {r : Nat} {cs : Array Value} {t : TypeId} {fr : Nat × Nat} (hr : w.heap[r]? = some (.cells cs t fr)) (ht : t ≠ 5) (hk : ∀ k, k < w.heap.size → k ≠ r → w'.heap[k]? = w.heap[k]?) : OB w' q d l :=
  ⟨h.cap, h.nil, h.big, fun hl => by
    obtain ⟨b, o, cs', hq, hb, hc⟩ := h.row hl
    refine ⟨b, o, cs', hq, (hk b (row_ltT hb) (fun e => ?_)).trans hb, hc⟩
    subst e
    rw [hr] at hb
    injection hb with hb
    injection hb with _ h2 _
    exact ht h2⟩
theorem Rd.otherR {w w' : World} {g : Nat} {l : List UInt8} {e : Nat} (h : Rd w g l e) {r : Nat} {cs : Array Value} {t : TypeId} {fr : Nat × Nat} (hr : w.heap[r]? = some (.cells cs t fr)) (ht : t ≠ 5) (hg : g ≠ r) (hk : ∀ k, k < w.heap.size → k ≠ r → w'.heap[k]? = w.heap[k]?) : Rd w' g l e := by
  obtain ⟨q, d, h1, h2⟩ := h
  exact ⟨q, d, (hk g (row_ltT h1) hg).trans h1, h2.other hr ht hk⟩
theorem set2_row {w : World} {b : Nat} {a c : Value} {ty : TypeId} (x y : Value) (h : w.heap[b]? = some (.cells #[a, c] ty)) : ((w.setCell ⟨b, 0, none⟩ x).setCell ⟨b, 1, none⟩ y).heap[b]? = some (.cells #[x, y] ty) := by
  simp [World.setCell, Array.getElem?_modify, h]
theorem set2_other (w : World) {b k : Nat} (x y : Value) (h : k ≠ b) : ((w.setCell ⟨b, 0, none⟩ x).setCell ⟨b, 1, none⟩ y).heap[k]? = w.heap[k]? := by
  rw [Below.heap_setCell _ _ _ _ (fun e => h e), Below.heap_setCell _ _ _ _ (fun e => h e)]
theorem set2_size (w : World) (b : Nat) (x y : Value) : ((w.setCell ⟨b, 0, none⟩ x).setCell ⟨b, 1, none⟩ y).heap.size = w.heap.size := by simp [World.setCell]
theorem set2_cell (w : World) {b k i : Nat} (x y : Value) (h : k ≠ b) : ((w.setCell ⟨b, 0, none⟩ x).setCell ⟨b, 1, none⟩ y).cell? ⟨k, i, none⟩ = w.cell? ⟨k, i, none⟩ := by
  unfold World.cell?
  rw [set2_other w x y h]
theorem row_61 : (Tryz.prog.underlying 61).map (·.isRow) = some true := by kernel_rfl
theorem info_61s : (Tryz.prog.info? 61).map (·.size) = some 2 := by kernel_rfl
/-- The result's cells are stored. -/
theorem one_fin {w W : World} {g : Nat} {q1 q2 : Option Addr} {d1 d2 : Nat} {x : PairT} {r : List UInt8} {e : Nat} (hk : OB W q1 d1 x.1) (hv : OB W q2 d2 x.2) (hr : e = 0 → Rd W g r 0) (hg : w.grownBy W (some g)) (hgl : g < w.heap.size)
    {a c : Value} (hrow : W.heap[w.heap.size]? = some (.cells #[a, c] 61)) (y z : Value) : OneR w ((W.setCell ⟨w.heap.size, 0, none⟩ y).setCell ⟨w.heap.size, 1, none⟩ z) g q1 q2 d1 d2 (x, r, e) :=
  ⟨hk.other hrow (by decide) fun k _ hk => set2_other W _ _ hk, hv.other hrow (by decide) fun k _ hk => set2_other W _ _ hk, fun he => (hr he).otherR hrow (by decide) (by omega) fun k _ hk => set2_other W _ _ hk,
    ⟨hg.os, hg.tape, hg.output, by rw [set2_size]; exact hg.size, fun k hk hne => (set2_other W _ _ (by omega)).trans (hg.block k hk hne)⟩⟩

theorem textOp_restO (l : List UInt8) (m : Nat) : (textOp l 0 m).2.1.length ≤ l.length := by
  rw [textOp_zero]
  split
  · split
    · exact Nat.le_refl _
    · split
      · exact Nat.le_refl _
      · simp only [List.length_drop]; omega
  · exact Nat.le_refl _

set_option maxHeartbeats 4000000 in
set_option maxRecDepth 100000 in
theorem codecOne (w : World) {g : Nat} {l : List UInt8} (h : Rd w g l 0) {lp : Option Addr} {lc : Nat} {last : List UInt8} (hla : OB w lp lc last) (hl : l.length ≤ 1000000) (first : Bool) :
    Calls Tryz.prog 85 #[.pointer (some ⟨g, 0, none⟩), .slice lp last.length lc, .bool first] w fun e w' => ∃ q1 d1 q2 d2, e = .returned (.tuple #[.agg #[.slice q1 (oneM l (if first then none else some last)).1.1.length d1, .slice q2 (oneM l (if first then none else some last)).1.2.length d2], .int .i64 ((oneM l (if first then none else some last)).2.2 : Int)]) ∧
      OneR w w' g q1 q2 d1 d2 (oneM l (if first then none else some last)) := by
  have hn : ∀ o : Obj, Below w.heap.size w (w.alloc o) := fun o => (Below.refl _ w).alloc (Nat.le_refl _) o
  have CT := Lib.hid (rdText (w.alloc (.cells #[.slice none 0 0, .slice none 0 0] 61)) (65536 : Int) 65536 (by omega) (by omega) (by omega) (h.below (hn _)))
  obtain ⟨t, r1, e1, ht⟩ : ∃ t r1 e1, textOp l 0 65536 = (t, r1, e1) := ⟨_, _, _, rfl⟩
  rw [ht] at CT
  have HT := Lib.hid ht
  have H := Lib.hid h
  have HLA := Lib.hid hla
  obtain ⟨o, ho⟩ : ∃ o, oneM l (if first then none else some last) = o := ⟨_, rfl⟩
  rw [ho]
  have HOO := Lib.hid ho
  clear h hla ht ho
  go_enter Tryz.func85, Tryz.ntmps85
  go_wp2_with first
    | (go_at_call 163; ((with_reducible refine (CT.out).mono ?_)); rintro e w1 ⟨q1, d1, rfl, ht1⟩; skip)
  have hgl : g < w.heap.size := H.out.lt
  have hg1 := ht1.grown
  have ho1 := ht1.ob
  have hr1 := ht1.rd
  dsimp only at ho1 hr1
  have row6 : w1.heap[w.heap.size]? = some (.cells #[.slice none 0 0, .slice none 0 0] 61) := (hg1.block _ (by simp) (by simp; omega)).trans (heap_alloc_new w _)
  have hz1 : w.heap.size < w1.heap.size := row_ltT row6
  obtain ⟨W2, hW2⟩ : ∃ W, W = w1.alloc (.cells #[.slice q1 t.length d1, .slice none 0 0] 61) := ⟨_, rfl⟩
  have hb2 : Below w1.heap.size w1 W2 := by rw [hW2]; exact (Below.refl _ w1).alloc (Nat.le_refl _) _
  have row8 : W2.heap[w1.heap.size]? = some (.cells #[.slice q1 t.length d1, .slice none 0 0] 61) := by rw [hW2]; exact heap_alloc_new w1 _
  have row6' : W2.heap[w.heap.size]? = some (.cells #[.slice none 0 0, .slice none 0 0] 61) := (hb2.block _ hz1).trans row6
  have hg2 : w.grownBy W2 (some g) := by
    have h0 := grown_below (g := some g) (hn (.cells #[.slice none 0 0, .slice none 0 0] 61))
    exact (h0.trans hg1).trans (grown_below hb2)
  have ho2 := ho1.below hb2
  have hr2 := hr1.below hb2
  have CE := Lib.hid (rdErr W2 hr2)
  have k0 : W2.cell? ⟨w1.heap.size, 0, none⟩ = some (.slice q1 t.length d1) := cell_of_row W2 _ 0 _ _ (0, 0) row8
  have k1 : W2.cell? ⟨w1.heap.size, 1, none⟩ = some (.slice none 0 0) := cell_of_row W2 _ 1 _ _ (0, 0) row8
  have c60 : W2.cell? ⟨w.heap.size, 0, none⟩ = some (.slice none 0 0) := cell_of_row W2 _ 0 _ _ (0, 0) row6'
  have c61 : W2.cell? ⟨w.heap.size, 1, none⟩ = some (.slice none 0 0) := cell_of_row W2 _ 1 _ _ (0, 0) row6'
  have f60 : W2.frozen? ⟨w.heap.size, 0, none⟩ = false := frozen_of_row W2 _ 0 _ _ row6'
  have f61 : W2.frozen? ⟨w.heap.size, 1, none⟩ = false := frozen_of_row W2 _ 1 _ _ row6'
  have hne8 : w1.heap.size ≠ w.heap.size := by omega
  have hlt2 : w1.heap.size < W2.heap.size := row_ltT row8
  have FIN := Lib.hid (fun e (he : e1 = 0 ∨ e ≠ 0) y z => one_fin (w := w) (W := W2.drew) (x := (t, [])) (r := r1) (e := e) (q2 := none) (d2 := 0) (ho2.below (Below.refl _ W2).drew) (OB.nil_ W2.drew) (fun h0 => by rcases he with h | h; exact (h ▸ hr2).below (Below.refl _ W2).drew; exact absurd h0 h) ⟨hg2.os, hg2.tape, hg2.output, hg2.size, hg2.block⟩ hgl row6' y z)
  have FIN0 := Lib.hid (fun e (he : e ≠ 0) y z => one_fin (w := w) (W := W2) (x := (t, [])) (r := r1) (e := e) (q2 := none) (d2 := 0) ho2 (OB.nil_ W2) (fun h0 => absurd h0 he) hg2 hgl row6' y z)
  have HO2 := Lib.hid ho2
  have HR2 := Lib.hid hr2
  have HG2 := Lib.hid hg2
  have HLAW := Lib.hid (((H.out.below (hn (.cells #[.slice none 0 0, .slice none 0 0] 61))).bytes (HLA.out.below (hn (.cells #[.slice none 0 0, .slice none 0 0] 61))) hg1).below hb2)
  have R6 := Lib.hid row6'
  have R8 := Lib.hid row8
  rw [← hW2]
  clear hW2 hb2 ht1 hg1 ho1 hr1 row6 ho2 hr2 hg2 row6' row8 CT hn
  by_cases he : e1 = 0
  · subst he
    obtain ⟨v, r2, e2, hv⟩ : ∃ v r2 e2, textOp r1 0 65536 = (v, r2, e2) := ⟨_, _, _, rfl⟩
    have hrl : r1.length ≤ 1000000 := by
      have := HT.out
      have hle : (textOp l 0 65536).2.1.length ≤ l.length := textOp_restO l 65536
      rw [this] at hle
      exact Nat.le_trans hle hl
    have CT2 := Lib.hid (rdText W2 (65536 : Int) 65536 (by omega) (by omega) (by omega) HR2.out)
    rw [hv] at CT2
    have HV := Lib.hid hv
    clear hv
    rcases Bool.eq_false_or_eq_true first with rfl | rfl
    · have hO : o = ((t, v), r2, e2) := by
        rw [← HOO.out]; unfold oneM; rw [HT.out]; dsimp only; rw [HV.out]; simp
      have HO := Lib.hid hO
      clear hO
      go_wp2_with first
        | (go_at_call 84; ((with_reducible refine (CE.out).mono ?_)); rintro e w2 ⟨rfl, rfl⟩)
        | (go_at_call 106; ((with_reducible refine (CC.out).mono ?_)); rintro e w2 ⟨rfl, rfl⟩)
        | (go_at_call 163; ((with_reducible refine (CT2.out).mono ?_)); rintro e w3 ⟨q2, d2, rfl, ht3⟩; have rw8 := (ht3.grown.block _ (by show w1.heap.size < W2.heap.size; omega) (by simp; omega)).trans R8.out; have kk1 : w3.cell? ⟨w1.heap.size, 1, none⟩ = some (.slice none 0 0) := cell_of_row w3 _ 1 _ _ (0, 0) rw8; have ff1 : w3.frozen? ⟨w1.heap.size, 1, none⟩ = false := frozen_of_row w3 _ 1 _ _ rw8; have HT3 := Lib.hid ht3; have RW8 := Lib.hid rw8; clear ht3 rw8)
      have ht3 := HT3.out
      have g3 := ht3.grown
      have ok3 := HR2.out.bytes HO2.out g3
      have ov3 := ht3.ob
      have rd3 := ht3.rd
      dsimp only at ov3 rd3
      have hg8 : g ≠ w1.heap.size := by omega
      have r63 : w3.heap[w.heap.size]? = some (.cells #[.slice none 0 0, .slice none 0 0] 61) := (g3.block _ (by omega) (by simp; omega)).trans R6.out
      obtain ⟨W4, hW4⟩ : ∃ W, W = w3.setCell ⟨w1.heap.size, 1, none⟩ (.slice q2 v.length d2) := ⟨_, rfl⟩
      have o4 : ∀ k, k ≠ w1.heap.size → W4.heap[k]? = w3.heap[k]? := fun k hk => by rw [hW4]; exact Below.heap_setCell _ _ _ _ (fun e => hk e)
      have r84 : W4.heap[w1.heap.size]? = some (.cells #[.slice q1 t.length d1, .slice q2 v.length d2] 61) := by rw [hW4]; simp [World.setCell, Array.getElem?_modify, RW8.out]
      have r64 : W4.heap[w.heap.size]? = some (.cells #[.slice none 0 0, .slice none 0 0] 61) := (o4 _ (by omega)).trans r63
      have ok4 : OB W4 q1 d1 t := ok3.other RW8.out (by decide) fun k _ hk => o4 k hk
      have ov4 : OB W4 q2 d2 v := ov3.other RW8.out (by decide) fun k _ hk => o4 k hk
      have rd4 : Rd W4 g r2 e2 := rd3.otherR RW8.out (by decide) hg8 fun k _ hk => o4 k hk
      have hg4 : w.grownBy W4.drew (some g) := by
        have h3 := HG2.out.trans g3
        have hz4 : W4.heap.size = w3.heap.size := by rw [hW4]; simp [World.setCell]
        have h4 : W4.os = w3.os ∧ W4.tape = w3.tape ∧ W4.output = w3.output := by rw [hW4]; exact ⟨rfl, rfl, rfl⟩
        exact ⟨h4.1.trans h3.os, h4.2.1.trans h3.tape, h4.2.2.trans h3.output, (by show w.heap.size ≤ W4.heap.size; rw [hz4]; exact h3.size), fun k hk hne => (o4 k (by omega)).trans (h3.block k hk hne)⟩
      have FIN4 := Lib.hid (fun y z => one_fin (w := w) (W := W4.drew) (x := (t, v)) (r := r2) (e := e2) (ok4.below (Below.refl _ W4).drew) (ov4.below (Below.refl _ W4).drew) (fun h0 => (h0 ▸ rd4).below (Below.refl _ W4).drew) hg4 hgl r64 y z)
      have R64 := Lib.hid r64
      have CE4 := Lib.hid (rdErr W4.drew (rd4.below (Below.refl _ W4).drew))
      have k40 : W4.cell? ⟨w1.heap.size, 0, none⟩ = some (.slice q1 t.length d1) := cell_of_row W4 _ 0 _ _ (0, 0) r84
      have k41 : W4.cell? ⟨w1.heap.size, 1, none⟩ = some (.slice q2 v.length d2) := cell_of_row W4 _ 1 _ _ (0, 0) r84
      have c640 : W4.cell? ⟨w.heap.size, 0, none⟩ = some (.slice none 0 0) := cell_of_row W4 _ 0 _ _ (0, 0) r64
      have c641 : W4.cell? ⟨w.heap.size, 1, none⟩ = some (.slice none 0 0) := cell_of_row W4 _ 1 _ _ (0, 0) r64
      have f640 : W4.frozen? ⟨w.heap.size, 0, none⟩ = false := frozen_of_row W4 _ 0 _ _ r64
      have f641 : W4.frozen? ⟨w.heap.size, 1, none⟩ = false := frozen_of_row W4 _ 1 _ _ r64
      rw [← hW4]
      clear hW4 ht3 g3 ok3 ov3 rd3 r63 o4 r84 r64 ok4 ov4 rd4 hg4 k0 k1 c60 c61 f60 f61 kk1 ff1
      refine wp_region_heldL (S := fun w' : World => w'.cell? ⟨w1.heap.size, 0, none⟩ = some (.slice q1 t.length d1) ∧ w'.cell? ⟨w1.heap.size, 1, none⟩ = some (.slice q2 v.length d2)) (by kernel_rfl) ?_
      have hHeld : (fun w' : World => w'.cell? ⟨w1.heap.size, 0, none⟩ = some (.slice q1 t.length d1) ∧ w'.cell? ⟨w1.heap.size, 1, none⟩ = some (.slice q2 v.length d2)) W4.drew := ⟨k40, k41⟩
      (refine wpAnyL_take (i := 0) (oi := ⟨some 33, _, _, _, _, _⟩) (v := .agg #[.slice q1 t.length d1, .slice q2 v.length d2]) rfl (by kernel_rfl) (by kernel_rfl) (by kernel_rfl) (fun _ _ _ h => h) (Or.inl ⟨by rfl, by intro w' hSw; obtain ⟨z1, z2⟩ := hSw; go_simp⟩) hHeld ?_; try simp only [Act.put, List.setIfInBounds_toArray, List.set_cons_zero, List.set_cons_succ])
      (refine wpAnyL_take (i := 1) (oi := ⟨some 34, _, _, _, _, _⟩) (v := .pointer (some ⟨g, 0, none⟩)) rfl (by kernel_rfl) (by kernel_rfl) (by kernel_rfl) (fun _ _ _ h => h) (Or.inl ⟨by rfl, by intro w' hSw; obtain ⟨z1, z2⟩ := hSw; go_simp⟩) hHeld ?_; try simp only [Act.put, List.setIfInBounds_toArray, List.set_cons_zero, List.set_cons_succ])
      (refine wpAnyL_one (i := 2) (o := ⟨some 35, _, _, _, _, _⟩) rfl (by kernel_rfl) (fun K' hK => ?_); rw [if_pos (by rfl)])
      go_simp
      (go_at_call 84; ((with_reducible refine (CE4.out).mono ?_)); rintro e w5 ⟨rfl, rfl⟩)
      go_wp2_with fail
      (have hHeld := (show _ ∧ _ from ⟨k40, k41⟩); refine hK.out _ _ (.inl hHeld) ?_; clear hK K'; try simp only [Act.put, List.setIfInBounds_toArray, List.set_cons_zero, List.set_cons_succ])
      (refine wpAnyL_one (i := 3) (o := ⟨none, _, _, _, _, _⟩) rfl (by kernel_rfl) (fun K' hK => ?_); rw [if_pos (by rfl)])
      go_simp
      (have hHeld := (show _ ∧ _ from ⟨(set2_cell W4.drew (.slice q1 t.length d1) (.slice q2 v.length d2) hne8).trans k40, (set2_cell W4.drew (.slice q1 t.length d1) (.slice q2 v.length d2) hne8).trans k41⟩); refine hK.out _ _ (.inl hHeld) ?_; clear hK K'; try simp only [Act.put, List.setIfInBounds_toArray, List.set_cons_zero, List.set_cons_succ])
      (refine wpAnyL_take (i := 4) (oi := ⟨some 7, _, _, _, _, _⟩) (v := .int .i64 (e2 : Int)) rfl (by kernel_rfl) (by kernel_rfl) (by kernel_rfl) (fun _ _ _ h => h) (Or.inl ⟨by rfl, by intro w' hSw; obtain ⟨z1, z2⟩ := hSw; go_simp⟩) hHeld ?_; try simp only [Act.put, List.setIfInBounds_toArray, List.set_cons_zero, List.set_cons_succ])
      refine wpAnyL_done (by kernel_rfl) ?_ _
      go_wp2_with fail
      refine bodyPost_ret (results_row2 rfl _ _ w.heap.size 61 [.slice q1 t.length d1, .slice q2 v.length d2] (0, 0) rfl (set2_row _ _ R64.out) row_61 info_61s) rfl ?_
      have hO := HO.out
      subst hO
      exact ⟨q1, d1, q2, d2, rfl, FIN4.out _ _⟩
    · have CC := Lib.hid (keysCompare W2 HO2.out.isB HLAW.out.isB)
      rcases cmp_range t last with hcm | hcm | hcm
      · have hO : o = ((t, []), r1, 5) := by
          rw [← HOO.out]; unfold oneM; rw [HT.out]; dsimp only; rw [if_neg (by simp), if_neg (fun e => by injection e with e; rw [e, cmp_self] at hcm; cases hcm), if_pos (by simp [hcm])]
        have HO := Lib.hid hO
        rw [hcm] at CC
        clear hO hcm
        go_wp2_with first
          | (go_at_call 84; ((with_reducible refine (CE.out).mono ?_)); rintro e w2 ⟨rfl, rfl⟩)
          | (go_at_call 106; ((with_reducible refine (CC.out).mono ?_)); rintro e w2 ⟨rfl, rfl⟩)
        refine bodyPost_ret (results_row2 rfl _ _ w.heap.size 61 [.slice q1 t.length d1, .slice none 0 0] (0, 0) rfl (set2_row _ _ R6.out) row_61 info_61s) rfl ?_
        have hO := HO.out
        subst hO
        exact ⟨q1, d1, none, 0, rfl, FIN0.out 5 (by decide) _ _⟩
      · have hO : o = ((t, []), r1, 6) := by
          rw [← HOO.out]; unfold oneM; rw [HT.out]; dsimp only; rw [if_neg (by simp), if_pos (by rw [cmp_zero hcm]; rfl)]
        have HO := Lib.hid hO
        rw [hcm] at CC
        clear hO hcm
        go_wp2_with first
          | (go_at_call 84; ((with_reducible refine (CE.out).mono ?_)); rintro e w2 ⟨rfl, rfl⟩)
          | (go_at_call 106; ((with_reducible refine (CC.out).mono ?_)); rintro e w2 ⟨rfl, rfl⟩)
        refine bodyPost_ret (results_row2 rfl _ _ w.heap.size 61 [.slice q1 t.length d1, .slice none 0 0] (0, 0) rfl (set2_row _ _ R6.out) row_61 info_61s) rfl ?_
        have hO := HO.out
        subst hO
        exact ⟨q1, d1, none, 0, rfl, FIN0.out 6 (by decide) _ _⟩
      · have hO : o = ((t, v), r2, e2) := by
          rw [← HOO.out]; unfold oneM; rw [HT.out]; dsimp only; rw [if_neg (by simp), if_neg (fun e => by injection e with e; rw [e, cmp_self] at hcm; cases hcm), if_neg (by simp [hcm]), HV.out]
        have HO := Lib.hid hO
        rw [hcm] at CC
        clear hO hcm
        go_wp2_with first
          | (go_at_call 84; ((with_reducible refine (CE.out).mono ?_)); rintro e w2 ⟨rfl, rfl⟩)
          | (go_at_call 106; ((with_reducible refine (CC.out).mono ?_)); rintro e w2 ⟨rfl, rfl⟩)
          | (go_at_call 163; ((with_reducible refine (CT2.out).mono ?_)); rintro e w3 ⟨q2, d2, rfl, ht3⟩; have rw8 := (ht3.grown.block _ (by show w1.heap.size < W2.heap.size; omega) (by simp; omega)).trans R8.out; have kk1 : w3.cell? ⟨w1.heap.size, 1, none⟩ = some (.slice none 0 0) := cell_of_row w3 _ 1 _ _ (0, 0) rw8; have ff1 : w3.frozen? ⟨w1.heap.size, 1, none⟩ = false := frozen_of_row w3 _ 1 _ _ rw8; have HT3 := Lib.hid ht3; have RW8 := Lib.hid rw8; clear ht3 rw8)
        have ht3 := HT3.out
        have g3 := ht3.grown
        have ok3 := HR2.out.bytes HO2.out g3
        have ov3 := ht3.ob
        have rd3 := ht3.rd
        dsimp only at ov3 rd3
        have hg8 : g ≠ w1.heap.size := by omega
        have r63 : w3.heap[w.heap.size]? = some (.cells #[.slice none 0 0, .slice none 0 0] 61) := (g3.block _ (by omega) (by simp; omega)).trans R6.out
        obtain ⟨W4, hW4⟩ : ∃ W, W = w3.setCell ⟨w1.heap.size, 1, none⟩ (.slice q2 v.length d2) := ⟨_, rfl⟩
        have o4 : ∀ k, k ≠ w1.heap.size → W4.heap[k]? = w3.heap[k]? := fun k hk => by rw [hW4]; exact Below.heap_setCell _ _ _ _ (fun e => hk e)
        have r84 : W4.heap[w1.heap.size]? = some (.cells #[.slice q1 t.length d1, .slice q2 v.length d2] 61) := by rw [hW4]; simp [World.setCell, Array.getElem?_modify, RW8.out]
        have r64 : W4.heap[w.heap.size]? = some (.cells #[.slice none 0 0, .slice none 0 0] 61) := (o4 _ (by omega)).trans r63
        have ok4 : OB W4 q1 d1 t := ok3.other RW8.out (by decide) fun k _ hk => o4 k hk
        have ov4 : OB W4 q2 d2 v := ov3.other RW8.out (by decide) fun k _ hk => o4 k hk
        have rd4 : Rd W4 g r2 e2 := rd3.otherR RW8.out (by decide) hg8 fun k _ hk => o4 k hk
        have hg4 : w.grownBy W4.drew (some g) := by
          have h3 := HG2.out.trans g3
          have hz4 : W4.heap.size = w3.heap.size := by rw [hW4]; simp [World.setCell]
          have h4 : W4.os = w3.os ∧ W4.tape = w3.tape ∧ W4.output = w3.output := by rw [hW4]; exact ⟨rfl, rfl, rfl⟩
          exact ⟨h4.1.trans h3.os, h4.2.1.trans h3.tape, h4.2.2.trans h3.output, (by show w.heap.size ≤ W4.heap.size; rw [hz4]; exact h3.size), fun k hk hne => (o4 k (by omega)).trans (h3.block k hk hne)⟩
        have FIN4 := Lib.hid (fun y z => one_fin (w := w) (W := W4.drew) (x := (t, v)) (r := r2) (e := e2) (ok4.below (Below.refl _ W4).drew) (ov4.below (Below.refl _ W4).drew) (fun h0 => (h0 ▸ rd4).below (Below.refl _ W4).drew) hg4 hgl r64 y z)
        have R64 := Lib.hid r64
        have CE4 := Lib.hid (rdErr W4.drew (rd4.below (Below.refl _ W4).drew))
        have k40 : W4.cell? ⟨w1.heap.size, 0, none⟩ = some (.slice q1 t.length d1) := cell_of_row W4 _ 0 _ _ (0, 0) r84
        have k41 : W4.cell? ⟨w1.heap.size, 1, none⟩ = some (.slice q2 v.length d2) := cell_of_row W4 _ 1 _ _ (0, 0) r84
        have c640 : W4.cell? ⟨w.heap.size, 0, none⟩ = some (.slice none 0 0) := cell_of_row W4 _ 0 _ _ (0, 0) r64
        have c641 : W4.cell? ⟨w.heap.size, 1, none⟩ = some (.slice none 0 0) := cell_of_row W4 _ 1 _ _ (0, 0) r64
        have f640 : W4.frozen? ⟨w.heap.size, 0, none⟩ = false := frozen_of_row W4 _ 0 _ _ r64
        have f641 : W4.frozen? ⟨w.heap.size, 1, none⟩ = false := frozen_of_row W4 _ 1 _ _ r64
        rw [← hW4]
        clear hW4 ht3 g3 ok3 ov3 rd3 r63 o4 r84 r64 ok4 ov4 rd4 hg4 k0 k1 c60 c61 f60 f61 kk1 ff1
        refine wp_region_heldL (S := fun w' : World => w'.cell? ⟨w1.heap.size, 0, none⟩ = some (.slice q1 t.length d1) ∧ w'.cell? ⟨w1.heap.size, 1, none⟩ = some (.slice q2 v.length d2)) (by kernel_rfl) ?_
        have hHeld : (fun w' : World => w'.cell? ⟨w1.heap.size, 0, none⟩ = some (.slice q1 t.length d1) ∧ w'.cell? ⟨w1.heap.size, 1, none⟩ = some (.slice q2 v.length d2)) W4.drew := ⟨k40, k41⟩
        (refine wpAnyL_take (i := 0) (oi := ⟨some 33, _, _, _, _, _⟩) (v := .agg #[.slice q1 t.length d1, .slice q2 v.length d2]) rfl (by kernel_rfl) (by kernel_rfl) (by kernel_rfl) (fun _ _ _ h => h) (Or.inl ⟨by rfl, by intro w' hSw; obtain ⟨z1, z2⟩ := hSw; go_simp⟩) hHeld ?_; try simp only [Act.put, List.setIfInBounds_toArray, List.set_cons_zero, List.set_cons_succ])
        (refine wpAnyL_take (i := 1) (oi := ⟨some 34, _, _, _, _, _⟩) (v := .pointer (some ⟨g, 0, none⟩)) rfl (by kernel_rfl) (by kernel_rfl) (by kernel_rfl) (fun _ _ _ h => h) (Or.inl ⟨by rfl, by intro w' hSw; obtain ⟨z1, z2⟩ := hSw; go_simp⟩) hHeld ?_; try simp only [Act.put, List.setIfInBounds_toArray, List.set_cons_zero, List.set_cons_succ])
        (refine wpAnyL_one (i := 2) (o := ⟨some 35, _, _, _, _, _⟩) rfl (by kernel_rfl) (fun K' hK => ?_); rw [if_pos (by rfl)])
        go_simp
        (go_at_call 84; ((with_reducible refine (CE4.out).mono ?_)); rintro e w5 ⟨rfl, rfl⟩)
        go_wp2_with fail
        (have hHeld := (show _ ∧ _ from ⟨k40, k41⟩); refine hK.out _ _ (.inl hHeld) ?_; clear hK K'; try simp only [Act.put, List.setIfInBounds_toArray, List.set_cons_zero, List.set_cons_succ])
        (refine wpAnyL_one (i := 3) (o := ⟨none, _, _, _, _, _⟩) rfl (by kernel_rfl) (fun K' hK => ?_); rw [if_pos (by rfl)])
        go_simp
        (have hHeld := (show _ ∧ _ from ⟨(set2_cell W4.drew (.slice q1 t.length d1) (.slice q2 v.length d2) hne8).trans k40, (set2_cell W4.drew (.slice q1 t.length d1) (.slice q2 v.length d2) hne8).trans k41⟩); refine hK.out _ _ (.inl hHeld) ?_; clear hK K'; try simp only [Act.put, List.setIfInBounds_toArray, List.set_cons_zero, List.set_cons_succ])
        (refine wpAnyL_take (i := 4) (oi := ⟨some 7, _, _, _, _, _⟩) (v := .int .i64 (e2 : Int)) rfl (by kernel_rfl) (by kernel_rfl) (by kernel_rfl) (fun _ _ _ h => h) (Or.inl ⟨by rfl, by intro w' hSw; obtain ⟨z1, z2⟩ := hSw; go_simp⟩) hHeld ?_; try simp only [Act.put, List.setIfInBounds_toArray, List.set_cons_zero, List.set_cons_succ])
        refine wpAnyL_done (by kernel_rfl) ?_ _
        go_wp2_with fail
        refine bodyPost_ret (results_row2 rfl _ _ w.heap.size 61 [.slice q1 t.length d1, .slice q2 v.length d2] (0, 0) rfl (set2_row _ _ R64.out) row_61 info_61s) rfl ?_
        have hO := HO.out
        subst hO
        exact ⟨q1, d1, q2, d2, rfl, FIN4.out _ _⟩
  · have hO : o = ((t, []), r1, e1) := by
      rw [← HOO.out]; unfold oneM; rw [HT.out]; rw [if_pos he]
    have HO := Lib.hid hO
    have g1 : ((e1 : Int) != 0) = true := by simp; omega
    clear hO
    go_wp2_with first
      | (go_at_call 84; ((with_reducible refine (CE.out).mono ?_)); rintro e w2 ⟨rfl, rfl⟩)
    refine wp_region_heldL (S := fun w' : World => w'.cell? ⟨w1.heap.size, 0, none⟩ = some (.slice q1 t.length d1) ∧ w'.cell? ⟨w1.heap.size, 1, none⟩ = some (.slice none 0 0)) (by kernel_rfl) ?_
    have hHeld : (fun w' : World => w'.cell? ⟨w1.heap.size, 0, none⟩ = some (.slice q1 t.length d1) ∧ w'.cell? ⟨w1.heap.size, 1, none⟩ = some (.slice none 0 0)) W2.drew := ⟨k0, k1⟩
    have CE' := Lib.hid (rdErr W2.drew (HR2.out.below (Below.refl _ W2).drew))
    (refine wpAnyL_take (i := 0) (oi := ⟨some 15, _, _, _, _, _⟩) (v := .agg #[.slice q1 t.length d1, .slice none 0 0]) rfl (by kernel_rfl) (by kernel_rfl) (by kernel_rfl) (fun _ _ _ h => h) (Or.inl ⟨by rfl, by intro w' hSw; obtain ⟨z1, z2⟩ := hSw; go_simp⟩) hHeld ?_; try simp only [Act.put, List.setIfInBounds_toArray, List.set_cons_zero, List.set_cons_succ])
    (refine wpAnyL_take (i := 1) (oi := ⟨some 16, _, _, _, _, _⟩) (v := .pointer (some ⟨g, 0, none⟩)) rfl (by kernel_rfl) (by kernel_rfl) (by kernel_rfl) (fun _ _ _ h => h) (Or.inl ⟨by rfl, by intro w' hSw; obtain ⟨z1, z2⟩ := hSw; go_simp⟩) hHeld ?_; try simp only [Act.put, List.setIfInBounds_toArray, List.set_cons_zero, List.set_cons_succ])
    (refine wpAnyL_one (i := 2) (o := ⟨some 17, _, _, _, _, _⟩) rfl (by kernel_rfl) (fun K' hK => ?_); rw [if_pos (by rfl)])
    go_simp
    (go_at_call 84; ((with_reducible refine (CE'.out).mono ?_)); rintro e w2 ⟨rfl, rfl⟩)
    go_wp2_with fail
    (have hHeld := (show _ ∧ _ from ⟨k0, k1⟩); refine hK.out _ _ (.inl hHeld) ?_; clear hK K'; try simp only [Act.put, List.setIfInBounds_toArray, List.set_cons_zero, List.set_cons_succ])
    (refine wpAnyL_one (i := 3) (o := ⟨none, _, _, _, _, _⟩) rfl (by kernel_rfl) (fun K' hK => ?_); rw [if_pos (by rfl)])
    go_simp
    (have hHeld := (show _ ∧ _ from ⟨(set2_cell W2.drew (.slice q1 t.length d1) (.slice none 0 0) hne8).trans k0, (set2_cell W2.drew (.slice q1 t.length d1) (.slice none 0 0) hne8).trans k1⟩); refine hK.out _ _ (.inl hHeld) ?_; clear hK K'; try simp only [Act.put, List.setIfInBounds_toArray, List.set_cons_zero, List.set_cons_succ])
    (refine wpAnyL_take (i := 4) (oi := ⟨some 7, _, _, _, _, _⟩) (v := .int .i64 (e1 : Int)) rfl (by kernel_rfl) (by kernel_rfl) (by kernel_rfl) (fun _ _ _ h => h) (Or.inl ⟨by rfl, by intro w' hSw; obtain ⟨z1, z2⟩ := hSw; go_simp⟩) hHeld ?_; try simp only [Act.put, List.setIfInBounds_toArray, List.set_cons_zero, List.set_cons_succ])
    refine wpAnyL_done (by kernel_rfl) ?_ _
    go_wp2_with fail
    refine bodyPost_ret (results_row2 rfl _ _ w.heap.size 61 [.slice q1 t.length d1, .slice none 0 0] (0, 0) rfl (set2_row _ _ R6.out) row_61 info_61s) rfl ?_
    have hO := HO.out
    subst hO
    exact ⟨q1, d1, none, 0, rfl, FIN.out e1 (.inr he) _ _⟩
end Go.Proofs.YtmbiiemlepfoaaaGreatDoor

/-! A line on its way: its block; the walk of word. -/
namespace Go.Proofs.YtmbiiemlepfoaaaGreatDoor
open Go.RowKit
set_option linter.unusedVariables false

/-- A line: what is left of it, and its call's cells. -/
structure Ln (W : World) (b : Nat) (s : List UInt8) (cs : List Value) (w : World) : Prop where
  row : w.heap[b]? = some (.cells (Value.string (str s) :: cs).toArray 349)
  below : Below b W w
theorem Ln.world {W w w' : World} {b : Nat} {s : List UInt8} {cs : List Value} (h : Ln W b s cs w) (hb : Below w.heap.size w w') : Ln W b s cs w' :=
  ⟨(hb.block b (row_ltB h.row)).trans h.row, h.below.trans (hb.mono (Nat.le_of_lt (row_ltB h.row)))⟩
theorem Ln.drewN {W w : World} {b : Nat} {s : List UInt8} {cs : List Value} (h : Ln W b s cs w) (n : Nat) : Ln W b s cs (w.drewN n) := ⟨h.row, h.below.os, h.below.tape, h.below.output, h.below.size, h.below.block⟩
theorem Ln.rest {W w : World} {b : Nat} {s : List UInt8} {cs : List Value} (h : Ln W b s cs w) (t : List UInt8) : Ln W b t cs (w.setCell ⟨b, 0, none⟩ (.string (str t))) := by
  refine ⟨?_, h.below.setCell (Nat.le_refl _) _⟩
  simp [World.setCell, Array.getElem?_modify, h.row]
theorem Ln.cell {W w : World} {b : Nat} {s : List UInt8} {cs : List Value} (h : Ln W b s cs w) (i : Nat) (x : Value) : Ln W b s (cs.set i x) (w.setCell ⟨b, i + 1, none⟩ x) := by
  refine ⟨?_, h.below.setCell (Nat.le_refl _) _⟩
  simp [World.setCell, Array.getElem?_modify, h.row]
theorem Ln.c0 {W w : World} {b : Nat} {s : List UInt8} {cs : List Value} (h : Ln W b s cs w) : w.cell? ⟨b, 0, none⟩ = some (.string (str s)) := cell_of_row w b 0 _ _ (0, 0) h.row
theorem Ln.f {W w : World} {b : Nat} {s : List UInt8} {cs : List Value} (h : Ln W b s cs w) (i : Nat) : w.frozen? ⟨b, i, none⟩ = false := frozen_of_row w b i _ _ h.row

theorem belowDr {B : Nat} {a w : World} (h : Below B a w) (n : Nat) : Below B a (w.drewN n) := ⟨h.os, h.tape, h.output, h.size, h.block⟩
/-- All but one block is as it was; and whatever bytes lie there, lie there still. -/
structure Kp (b : Nat) (w w' : World) : Prop where
  grown : w.grownBy w' (some b)
  bytes : ∀ q d l, OB w q d l → OB w' q d l
theorem Kp.trans {b : Nat} {a c e : World} (h : Kp b a c) (h' : Kp b c e) : Kp b a e := ⟨h.grown.trans h'.grown, fun q d l x => h'.bytes q d l (h.bytes q d l x)⟩
theorem Kp.below {b : Nat} {w w' : World} (h : Below w.heap.size w w') : Kp b w w' := ⟨grown_below h, fun q d l x => x.below h⟩
theorem Kp.set {w : World} {b : Nat} {cs : Array Value} {t : TypeId} {fr : Nat × Nat} (hr : w.heap[b]? = some (.cells cs t fr)) (ht : t ≠ 5) (i : Nat) (y : Value) : Kp b w (w.setCell ⟨b, i, none⟩ y) :=
  ⟨⟨rfl, rfl, rfl, by simp [World.setCell], fun k _ hk => Below.heap_setCell w _ _ k (fun e => hk (by rw [e]))⟩, fun q d l x => x.other hr ht fun k _ hk => Below.heap_setCell w _ _ k (fun e => hk e)⟩
theorem Ln.keeps {W w : World} {b : Nat} {s : List UInt8} {cs : List Value} (h : Ln W b s cs w) (i : Nat) (y : Value) : Kp b w (w.setCell ⟨b, i, none⟩ y) := Kp.set h.row (by decide) i y

set_option maxHeartbeats 2000000 in
set_option maxRecDepth 100000 in
theorem lineWord {W w : World} {b : Nat} {s : List UInt8} {cs : List Value} (h : Ln W b s cs w) (hm : GM w) (hs : s.length ≤ 100000) {t r : List UInt8} (f : Bool) (hc : Lib.cut s [32] = (t, r, f)) (ht : t.length ≤ s.length) :
    Calls Tryz.prog 225 #[.pointer (some ⟨b, 0, none⟩)] w fun e w' => e = .returned (.string (str t)) ∧ Ln W b (s.drop t.length) cs w' ∧ Kp b w w' := by
  have CC := Lib.hid (cutLit w hm s #[32] hs)
  rw [show Lib.cut s (#[32] : Array UInt8).toList = (t, r, f) from hc] at CC
  have c0 := h.c0
  have f0 := h.f 0
  have HS := Lib.hid (fun n => And.intro ((h.drewN n).rest (s.drop t.length)) ((Kp.below (belowDr (Below.refl _ w) n)).trans ((h.drewN n).keeps 0 (.string (str (s.drop t.length))))))
  have hsz : (t.length : Int) ≤ (s.length : Int) := by omega
  have hcut : (str s).extract (str t).size (str s).size = str (s.drop t.length) := by rw [str_size t]; exact ends_str _ _ _ rfl
  have HT := Lib.hid ht
  clear h hm hc ht
  go_enter Tryz.func225, Tryz.ntmps225
  go_wp2_with (go_at_call 149; ((with_reducible refine (CC.out).mono ?_)); rintro e w1 ⟨rfl, n, rfl⟩)
  go_ret
  exact ⟨rfl, HS.out n⟩
end Go.Proofs.YtmbiiemlepfoaaaGreatDoor

/-! The walks of number, at one digit, and of HasPrefix. -/
namespace Go.Proofs.YtmbiiemlepfoaaaGreatDoor
open Go.RowKit
set_option linter.unusedVariables false

theorem It.thru {W : World} {k : Nat} {s : ByteArray} {pos : Nat} {w w' : World} (h : It W k s pos w) (hb : Below w.heap.size w w') : It W k s pos w' := h.quiet hb

theorem dec_asc (l : List UInt8) (pos n : Nat) (h : bA l pos = n) (hn : n < 128) : Utf8.decode (str l) pos = (n, 1) := by
  rw [decode_dec, str_data]
  unfold decq
  have : bA (l.drop pos) 0 = n := by rw [← h]; unfold bA; simp
  rw [this]
  unfold Lib.decodeN
  rw [if_pos hn]

set_option maxHeartbeats 2000000 in
set_option maxRecDepth 100000 in
theorem lineNumber {W w : World} {b : Nat} {s : List UInt8} {cs : List Value} (h : Ln W b s cs w) (hm : GM w) (hs : s.length ≤ 100000) {d : UInt8} (hd0 : 48 ≤ d.toNat) (hd1 : d.toNat ≤ 57) {r : List UInt8} (f : Bool) (hc : Lib.cut s [32] = ([d], r, f)) (ht : 1 ≤ s.length) :
    Calls Tryz.prog 272 #[.pointer (some ⟨b, 0, none⟩)] w fun e w' => e = .returned (.int .i64 ((d.toNat : Int) - 48)) ∧ Ln W b (s.drop 1) cs w' ∧ Kp b w w' := by
  have CW := Lib.hid (lineWord h hm hs f hc ht)
  have CM := Lib.hid mustYes
  have hdec : Utf8.decode (str [d]) 0 = (d.toNat, 1) := dec_asc [d] 0 d.toNat rfl (by omega)
  have hne : (!(str [d]).toList.isEmpty) = true := by rw [ByteArray.toList_eq, str_data]; rfl
  have hsz : (str [d]).size = 1 := by rw [str_size]; rfl
  clear h hm hc
  have h1 : (48 : Int) ≤ (d.toNat : Int) := by omega
  have h2 : (d.toNat : Int) ≤ 57 := by omega
  go_enter Tryz.func272, Tryz.ntmps272
  go_wp2_with (go_at_call 225; ((with_reducible refine (CW.out).mono ?_)); rintro e w1 ⟨rfl, hl, hkb⟩; have HL := Lib.hid hl; have HKB := Lib.hid hkb; clear hl hkb)
  have P1 := Lib.hid (It.start w1 (str [d]))
  go_loopw [4, 5, 6] (fun v4 _ _ wr => ∃ pos : Nat, (pos = 0 ∧ v4 = .int .i64 0 ∨ pos = 1 ∧ v4 = .int .i64 ((d.toNat : Int) - 48)) ∧ It w1 w1.heap.size (str [d]) pos wr)
    (fun _ _ _ wr => 1 - wr.iterPos w1.heap.size)
  case atStart => exact ⟨0, .inl ⟨rfl, rfl⟩, P1.out⟩
  case round =>
    obtain ⟨pos, hv, hp⟩ := hrel
    rcases hv with ⟨rfl, rfl⟩ | ⟨rfl, rfl⟩
    · have hnx := fun ty => Lib.run_next_any_at (P := Tryz.prog) wr w1.heap.size (str [d]) 0 ty hp.it (by rw [hsz]; omega)
      rw [hdec] at hnx
      dsimp only at hnx
      have hpn2 := hp.next (0 + 1)
      obtain ⟨wI, hwI⟩ : ∃ x, x = wr.iterAt w1.heap.size (str [d]) (0 + 1) := ⟨_, rfl⟩
      rw [← hwI] at hpn2 hnx
      have PI := Lib.hid hpn2
      have HPOS := Lib.hid hp.pos
      clear hp hdec hpn2 hwI hsz
      go_wp2_with (go_at_call 227; ((with_reducible refine (CM.out _).mono ?_)); rintro e w2 ⟨rfl, rfl⟩)
      refine ⟨⟨1, .inr ⟨rfl, rfl⟩, PI.out⟩, ?_⟩
      rw [PI.out.pos, HPOS.out]
      omega
    · have kn := fun ty => Lib.run_next_end_at (P := Tryz.prog) wr w1.heap.size (str [d]) 1 ty hp.it (by rw [hsz]; omega)
      have HP := Lib.hid hp
      clear hp
      go_wp2_with (go_at_call 227; ((with_reducible refine (CM.out _).mono ?_)); rintro e w2 ⟨rfl, rfl⟩)
      go_ret
      exact ⟨rfl, HL.out.world HP.out.below, HKB.out.trans (Kp.below HP.out.below)⟩

set_option maxHeartbeats 4000000 in
set_option maxRecDepth 100000 in
theorem lineText {W w : World} {b : Nat} {s : List UInt8} {cs : List Value} (h : Ln W b s cs w) {c : UInt8} (hc0 : c ≠ 34) (hc1 : c ≠ 92) (hc2 : c.toNat < 128) {t : List UInt8} (hs : s = 34 :: c :: 34 :: t) (hT : Lib.Utf8Tabs 3 4 w) (hp : pars [34, c, 34] = some [c]) :
    Calls Tryz.prog 273 #[.pointer (some ⟨b, 0, none⟩)] w fun e w' => ∃ q d, e = .returned (.slice q 1 d) ∧ OB w' q d [c] ∧ Ln W b t cs w' ∧ Kp b w w' := by
  have CM := Lib.hid mustYes
  have hd0 : Utf8.decode (str s) 0 = (34, 1) := dec_asc _ _ _ (by rw [hs]; rfl) (by omega)
  have hd1 : Utf8.decode (str s) 1 = (c.toNat, 1) := dec_asc _ _ _ (by rw [hs]; rfl) (by omega)
  have hd2 : Utf8.decode (str s) 2 = (34, 1) := dec_asc _ _ _ (by rw [hs]; rfl) (by omega)
  have hsz : 3 ≤ (str s).size := by rw [str_size, hs]; simp
  have q0 : ((c.toNat : Int) == 34) = false := by
    have : c.toNat ≠ 34 := fun e => hc0 (UInt8.toNat_inj.1 e)
    simp; omega
  have q1 : ((c.toNat : Int) == 92) = false := by
    have : c.toNat ≠ 92 := fun e => hc1 (UInt8.toNat_inj.1 e)
    simp; omega
  have c0 := h.c0
  have f0 := h.f 0
  have hsz' : (3 : Int) ≤ ((str s).size : Int) := by omega
  have hcut : (str s).extract 3 (str s).size = str t := by rw [ends_str _ s 3 rfl, hs]; rfl
  have hcut0 : (str s).extract 0 3 = str [34, c, 34] := by rw [cut_str, hs]; rfl
  have HL := Lib.hid h
  have HT := Lib.hid hT
  have HP := Lib.hid hp
  obtain ⟨S, hS⟩ : ∃ S, S = str s := ⟨_, rfl⟩
  rw [← hS] at hd0 hd1 hd2 hsz c0 hsz' hcut hcut0
  have HS := Lib.hid hS
  clear h hT hp hS hs
  go_enter Tryz.func273, Tryz.ntmps273
  go_wp2
  have P1 := Lib.hid (It.start w S)
  go_loopw [3, 4, 5, 6] (fun v3 v4 _ _ wr => ∃ pos : Nat, v3 = .int .i64 0 ∧ v4 = .bool false ∧ pos ≤ 2 ∧ It w w.heap.size S pos wr)
    (fun _ _ _ _ wr => 3 - wr.iterPos w.heap.size)
  case atStart => exact ⟨0, rfl, rfl, by omega, P1.out⟩
  case round =>
    obtain ⟨pos, rfl, rfl, hle, hp⟩ := hrel
    have hnx := fun ty => Lib.run_next_any_at (P := Tryz.prog) wr w.heap.size S pos ty hp.it (by omega)
    have hpn2 := hp.next (pos + 1)
    obtain ⟨wI, hwI⟩ : ∃ x, x = wr.iterAt w.heap.size S (pos + 1) := ⟨_, rfl⟩
    have HPOS := Lib.hid hp.pos
    have h3 : pos = 0 ∨ pos = 1 ∨ pos = 2 := by omega
    rcases h3 with rfl | rfl | rfl
    · rw [hd0] at hnx
      dsimp only at hnx
      rw [← hwI] at hpn2 hnx
      have PI := Lib.hid hpn2
      clear hp hd0 hd1 hd2 hpn2 hwI hsz
      go_wp2
      refine ⟨⟨0 + 1, rfl, rfl, by omega, PI.out⟩, ?_⟩
      rw [PI.out.pos, HPOS.out]
      omega
    · rw [hd1] at hnx
      dsimp only at hnx
      rw [← hwI] at hpn2 hnx
      have PI := Lib.hid hpn2
      clear hp hd0 hd1 hd2 hpn2 hwI hsz
      go_wp2
      refine ⟨⟨1 + 1, rfl, rfl, by omega, PI.out⟩, ?_⟩
      rw [PI.out.pos, HPOS.out]
      omega
    · rw [hd2] at hnx
      dsimp only at hnx
      rw [← hwI] at hpn2 hnx
      have PI := Lib.hid hpn2
      clear hp hd0 hd1 hd2 hpn2 hwI hsz
      have hlI : Ln W b s cs wI := HL.out.world PI.out.below
      have cI : wI.cell? ⟨b, 0, none⟩ = some (.string S) := by rw [HS.out]; exact hlI.c0
      have CP : Hid (Calls Tryz.prog 308 #[.string (str [34, c, 34])] wI fun e w' => (∃ q d, e = .returned (.tuple #[.slice q 1 d, .int .i64 0]) ∧ OB w' q d [c]) ∧ Below wI.heap.size wI w') := Lib.hid ((parW0 wI [34, c, 34] (by simp) (Utf8Tabs_below HT.out PI.out.below)).mono fun e w' ⟨h, hb⟩ => by rw [HP.out] at h; obtain ⟨_, q, d, rfl, ho⟩ := h; exact ⟨⟨q, d, rfl, OB.of_own ho⟩, hb⟩)
      have HLI := Lib.hid hlI
      clear hlI
      go_wp2_with first
        | (go_at_call 308; ((with_reducible refine (CP.out).mono ?_)); rintro e w2 ⟨⟨q, d, rfl, hib⟩, hb⟩; have c2 : w2.cell? ⟨b, 0, none⟩ = some (.string S) := (by rw [HS.out]; exact (HLI.out.world hb).c0); have f2 : w2.frozen? ⟨b, 0, none⟩ = false := (HLI.out.world hb).f 0; have HIB := Lib.hid hib; have HB := Lib.hid hb; clear hib hb)
        | (go_at_call 227; ((with_reducible refine (CM.out _).mono ?_)); rintro e w2 ⟨rfl, rfl⟩)
      go_ret
      refine ⟨q, d, rfl, ((HLI.out.world HB.out).keeps 0 _).bytes _ _ _ HIB.out, ?_⟩
      refine ⟨(HLI.out.world HB.out).rest t, ((Kp.below PI.out.below).trans (Kp.below HB.out)).trans ((HLI.out.world HB.out).keeps 0 _)⟩
end Go.Proofs.YtmbiiemlepfoaaaGreatDoor
