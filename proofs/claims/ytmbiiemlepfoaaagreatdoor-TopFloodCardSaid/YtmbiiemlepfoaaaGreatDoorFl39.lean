/- The walks of law20: Fine, Step, Lay. The walk of the reference's Bound. -/
import Derived.Test.YtmbiiemlepfoaaaGreatDoorFl15
import Derived.Test.YtmbiiemlepfoaaaGreatDoorFl19
import Derived.Test.YtmbiiemlepfoaaaGreatDoorFl12
import Derived.Test.YtmbiiemlepfoaaaGreatDoorFl34
import Derived.Test.YtmbiiemlepfoaaaGreatDoorFl37
import Derived.Test.YtmbiiemlepfoaaaGreatDoorFl38
import Derived.Test.YtmbiiemlepfoaaaGreatDoorFl20
import Derived.Test.YtmbiiemlepfoaaaGreatDoorFl21
import Derived.Test.YtmbiiemlepfoaaaGreatDoorFl22

namespace Go.Proofs.YtmbiiemlepfoaaaGreatDoor
open Go.RowKit
set_option linter.unusedVariables false
def fineO (x : OpV) : Bool := decide (x.op.key.length ≤ 60) && decide (x.op.val.length ≤ 60)
def fineB (tb : List Nat) (L : List OpV) (most : Int) : Bool := decide (tb.length ≤ 200) && decide ((L.length : Int) ≤ most) && L.all fineO
set_option maxHeartbeats 2000000 in
set_option maxRecDepth 100000 in
theorem flFine (w : World) {p : Option Addr} {c : Nat} {tb : List Nat} {q : Option Addr} {d : Nat} {L : List OpV} (hL : IsFl w q d L) (most : Int) : Calls Tryz.prog 13 #[.slice p tb.length c, .slice q L.length d, .int .i64 most] w fun e w' => e = .returned (.bool (fineB tb L most)) ∧ Below w.heap.size w w' := by
  by_cases h1 : (tb.length : Int) > 200
  · have hR : fineB tb L most = false := by unfold fineB; rw [decide_eq_false (by omega)]; rfl
    rw [hR]
    go_enter Tryz.func13, Tryz.ntmps13
    go_wp2
    go_ret
    exact ⟨rfl, Below.refl _ _⟩
  · by_cases h2 : (L.length : Int) > most
    · have hR : fineB tb L most = false := by unfold fineB; rw [decide_eq_false (p := (L.length : Int) ≤ most) (by omega), Bool.and_false]; rfl
      rw [hR]
      go_enter Tryz.func13, Tryz.ntmps13
      go_wp2
      go_ret
      exact ⟨rfl, Below.refl _ _⟩
    · have hR : fineB tb L most = L.all fineO := by unfold fineB; rw [decide_eq_true (by omega), decide_eq_true (by omega)]; rfl
      rw [hR]
      obtain ⟨n, hn⟩ : ∃ n, L.length = n := ⟨_, rfl⟩
      obtain ⟨R, hR2⟩ : ∃ R, L.all fineO = R := ⟨_, rfl⟩
      rw [hR2]
      rw [hn] at h2 ⊢
      have hmx : n ≤ 9223372036854775807 := by have h1 := hL.cap; have h2 := hL.big; unfold maxLen at h2; omega
      have HL := Lib.hid hL
      have HN := Lib.hid hn
      have HR := Lib.hid hR2
      clear hL hn hR hR2
      go_enter Tryz.func13, Tryz.ntmps13
      go_wp2
      go_loopw [20] (fun v20 wr => ∃ i : Nat, v20 = .int .i64 (i : Int) ∧ i ≤ n ∧ Below w.heap.size w wr ∧ Hid ((L.take i).all fineO = true)) (fun v20 _ => n - (intOf v20).toNat)
      case atStart => exact ⟨0, rfl, by omega, Below.refl _ _, rfl⟩
      case round =>
        obtain ⟨i, rfl, hi, hb, HI⟩ := hrel
        have HB := Lib.hid hb
        by_cases hlt : i < n
        · obtain ⟨x, hx⟩ : ∃ x, L[i]? = some x := ⟨_, List.getElem?_eq_getElem (by rw [HN.out]; exact hlt)⟩
          obtain ⟨b, o, rfl, hbl, hcell⟩ := HL.out.cells (by rw [HN.out]; omega)
          obtain ⟨e0, e1, e2⟩ := hcell i x hx
          have c0 := (hb.cell (p := ⟨b, o + i * 3, none⟩) hbl).trans e0
          have c1 := (hb.cell (p := ⟨b, o + i * 3 + 1, none⟩) hbl).trans e1
          have c2 := (hb.cell (p := ⟨b, o + i * 3 + 2, none⟩) hbl).trans e2
          have g1 : (i : Int) < (n : Int) := by omega
          have hnx : (L.take (i + 1)).all fineO = fineO x := by
            rw [List.take_add_one, hx, List.all_append, HI.out]
            simp
          have hbad : fineO x = false → R = false := fun h => by
            rw [← HR.out, List.all_eq_false]
            exact ⟨x, List.mem_of_getElem? hx, by rw [h]; simp⟩
          by_cases hk : (x.op.key.length : Int) > 60
          · have hf := hbad (by unfold fineO; rw [decide_eq_false (by omega)]; rfl)
            have HF := Lib.hid hf
            clear e0 e1 e2 hcell hnx hbad hf hx
            go_wp2
            go_ret
            exact ⟨by rw [HF.out]; rfl, (HB.out.alloc HB.out.size _)⟩
          · by_cases hv : (x.op.val.length : Int) > 60
            · have hf := hbad (by unfold fineO; rw [decide_eq_false (p := x.op.val.length ≤ 60) (by omega), Bool.and_false])
              have HF := Lib.hid hf
              clear e0 e1 e2 hcell hnx hbad hf hx
              go_wp2
              go_ret
              exact ⟨by rw [HF.out]; rfl, (HB.out.alloc HB.out.size _)⟩
            · have hf : fineO x = true := by unfold fineO; rw [decide_eq_true (by omega), decide_eq_true (by omega)]; rfl
              rw [hf] at hnx
              have HX := Lib.hid hnx
              clear e0 e1 e2 hcell hnx hbad hf hx
              go_wp2
              go_roundw
              case rel => exact ⟨i + 1, congrArg (Value.int .i64) (by omega), by omega, HB.out.alloc HB.out.size _, HX⟩
              case measure => simp [intOf]; omega
        · have hin : i = n := by omega
          subst hin
          have hRt : R = true := by
            have h1 := HI.out
            rw [List.take_of_length_le (by rw [HN.out]; exact Nat.le_refl _), HR.out] at h1
            exact h1
          have HRT := Lib.hid hRt
          clear hRt
          have g1 : ¬ (i : Int) < (i : Int) := by omega
          go_wp2
          go_ret
          exact ⟨by rw [HRT.out]; rfl, HB.out⟩
def StepR (D : Nat → Prop) (H : List UInt8 → Nat) (o : Op) (n : Option N) (x : List PairT) (mb : Option Nat) (vi c : Nat) (w : World) (e : Ending) (w' : World) : Prop :=
  ∃ v q d, e = .returned (.tuple #[v, .slice q (stepX o x).length d, .bool true]) ∧ NodeAt w' D (stepN H o n) v ∧ IsRs w' D q d (stepX o x) ∧ Met w' mb vi c ∧ w.grownBy w' mb
set_option maxHeartbeats 4000000 in
set_option maxRecDepth 100000 in
theorem flDel (w : World) (D : Nat → Prop) (hD : ∀ j, w.heap.size ≤ j → D j) {mb : Option Nat} (ho : Off D mb) (hm2 : mb ≠ some 2) {vi c : Nat} (hm : Met w mb vi c) (hvi : vi < 999980000000) (hci : c < 999980000000) {pt : Option Addr} {ct : Nat} {tb : List Nat} {D0 : Nat → Prop} (ht : IsVs w D0 pt ct (tb.map uv)) (ho0 : Off D0 mb) (htb : ∀ y ∈ tb, y < 18446744073709551616)
    {xp : Option Addr} {xc : Nat} {x : List PairT} (hx : IsRs w D xp xc x) {n : Option N} {v : Value} (hn : NodeAt w D n v) {t : T} (inv : Inv (tabM tb) n t x) (hs : ∀ p ∈ x, p.1.length ≤ 1000000 ∧ p.2.length ≤ 1000000) (hl : x.length < 1000000) {kp vp : Option Addr} {kc vc : Nat} {k u : List UInt8} (hk : IsD w (fun j => mb ≠ some j) kp kc k) (hv : IsD w (fun j => mb ≠ some j) vp vc u) (hkl : k.length ≤ 1000000) (hul : u.length ≤ 1000000) (h2 : 2 < w.heap.size) (hT : TabAt 2 Lib.deBruijn32tab w) :
    Calls Tryz.prog 17 #[v, .slice xp x.length xc, .slice pt tb.length ct, .agg #[.bool true, .slice kp k.length kc, .slice vp u.length vc], .pointer (mptr mb)] w (StepR D (tabM tb) ⟨true, k, u⟩ n x mb (vi + (deleSO (tabM tb k) k n 0).1) (c + (deleSO (tabM tb k) k n 0).2) w) := by
  have hht := tabM_lt htb
  have told := told_ok hht inv ⟨true, k, u⟩
  unfold toldN at told
  simp only [if_true] at told
  obtain ⟨W2, hW2⟩ : ∃ z, z = w.alloc (.cells #[.bool true, .slice kp k.length kc, .slice vp u.length vc] 45) := ⟨_, rfl⟩
  have hB2 : Below w.heap.size w W2 := by rw [hW2]; exact (Below.refl _ w).alloc (Nat.le_refl _) _
  have hG2 := grown_of_below hB2 mb
  have hmw : mb ≠ some w.heap.size := fun e => Nat.lt_irrefl _ (hm.lt _ e)
  have r2 : W2.heap[w.heap.size]? = some (.cells #[.bool true, .slice kp k.length kc, .slice vp u.length vc] 45) := by rw [hW2]; exact heap_alloc_new _ _
  have HC := Lib.hid (show ∀ w', W2.grownBy w' mb → w'.cell? ⟨w.heap.size, 0, none⟩ = some (.bool true) ∧ w'.cell? ⟨w.heap.size, 1, none⟩ = some (.slice kp k.length kc) ∧ w'.cell? ⟨w.heap.size, 2, none⟩ = some (.slice vp u.length vc) from fun w' g => by
    have r' := grown_row g r2 hmw
    exact ⟨cell_of_row w' _ 0 _ _ (0, 0) r', cell_of_row w' _ 1 _ _ (0, 0) r', cell_of_row w' _ 2 _ _ (0, 0) r'⟩)
  obtain ⟨R, hR⟩ : ∃ R, hasL k x = R := ⟨_, rfl⟩
  have UP : ∀ {w'}, W2.grownBy w' mb → w.grownBy w' mb := fun g => grown_trans hG2 g
  have KB := Lib.hid (show ∀ w', W2.grownBy w' mb → (convert 22 9 (.slice kp k.length kc)).run Tryz.prog w' = .ok (.string (str k)) w' ∧ (convert 22 9 (.slice vp u.length vc)).run Tryz.prog w' = .ok (.string (str u)) w' from fun w' g => ⟨(hk.grown (Off.ne mb) (UP g)).b.convert Tryz.underlying22 Tryz.underlying5 Tryz.underlying9, (hv.grown (Off.ne mb) (UP g)).b.convert Tryz.underlying22 Tryz.underlying5 Tryz.underlying9⟩)
  have C52 := Lib.hid (show ∀ w', W2.grownBy w' mb → Calls Tryz.prog 52 #[.slice xp x.length xc, .string (str k)] w' (fun e w'' => ∃ v, e = .returned (.tuple #[v, .bool R]) ∧ Below w'.heap.size w' w'') from fun w' g => by
    have := ref04Get w' (hx.grown ho (UP g)) (by omega) k
    rwa [hR] at this)
  have C14 := Lib.hid (show ∀ w', W2.grownBy w' mb → Calls Tryz.prog 14 #[.slice pt tb.length ct, .string (str k)] w' _ from fun w' g => ref19Hash w' (ht.grown ho0 (UP g)) hkl)
  obtain ⟨V, hV⟩ : ∃ V, V = vi + (deleSO (tabM tb k) k n 0).1 := ⟨_, rfl⟩
  obtain ⟨C, hC⟩ : ∃ C, C = c + (deleSO (tabM tb k) k n 0).2 := ⟨_, rfl⟩
  have C53 := Lib.hid (show ∀ w', Below W2.heap.size W2 w' → Calls Tryz.prog 53 #[v, .int .u64 (tabM tb k : Int), .slice kp k.length kc, .pointer (mptr mb)] w' (fun e w'' => ∃ y, e = .returned (.tuple #[y, .bool R]) ∧ NodeAt w'' D (stepN (tabM tb) ⟨true, k, u⟩ n) y ∧ Met w'' mb V C ∧ w'.grownBy w'' mb) from fun w' g => by
    have hb := hB2.trans (g.mono hB2.size)
    have hg := grown_of_below hb mb
    refine (pruneDelete hht w' D (fun j hj => hD j (Nat.le_trans hg.size hj)) ho hm2 (vi := vi) (c := c) (hm.below hb) hvi hci (hk.grown (Off.ne mb) hg) (NodeAt.grownO hn ho hg) inv.lay inv.asc hs hl (Nat.lt_of_lt_of_le h2 hg.size) (tab_grown hT h2 hm2 hg)).mono ?_
    rintro e w'' ⟨y, rfl, h1, h3, h4⟩
    refine ⟨y, by rw [told, hR], h1, by rw [hV, hC]; exact h3, h4⟩)
  have C54 := Lib.hid (show ∀ w', W2.grownBy w' mb → Calls Tryz.prog 54 #[.slice xp x.length xc, .string (str k)] w' (RsR D (withoutL k x) w') from fun w' g => ref04Without w' (fun j hj => hD j (Nat.le_trans (UP g).size hj)) (hx.grown ho (UP g)) (by omega) k)
  have HG := Lib.hid hG2
  have HG2 := Lib.hid (grown_rfl W2 mb)
  obtain ⟨k0, k1, k2⟩ := HC.out _ HG2.out
  obtain ⟨kb, kv⟩ := KB.out _ HG2.out
  obtain ⟨hh, hhh⟩ : ∃ z, tabM tb k = z := ⟨_, rfl⟩
  rw [hhh] at C14
  rw [hhh] at C53
  rw [← hV, ← hC]
  have hst : stepX ⟨true, k, u⟩ x = withoutL k x := rfl
  unfold StepR
  rw [hst]
  generalize stepN (tabM tb) ⟨true, k, u⟩ n = sn at *
  generalize withoutL k x = sx at *
  clear hm ht hx hn inv hk hv hs hT hD hht told htb hG2 hB2 r2 hR UP hV hC hhh hst
  have kb' := kb
  rw [hW2] at kb'
  go_enter Tryz.func17, Tryz.ntmps17
  go_wp2_with fail
  clear kb'
  rw [← hW2]
  clear hW2
  go_wp2_with first
    | (go_at_call 52; ((with_reducible refine (C52.out _ HG2.out).mono ?_)); rintro e w3 ⟨v3, rfl, hb3⟩; have HB3 := Lib.hid hb3; have HG3 := Lib.hid (grown_of_below hb3 mb); clear hb3)
    | (go_at_call 14; ((with_reducible refine (C14.out _ HG3.out).mono ?_)); rintro e w4 ⟨rfl, m4, rfl⟩; have HB4 := Lib.hid (below_drewNA HB3.out m4); have HG4 := Lib.hid (grown_of_below HB4.out mb); generalize w3.drewN m4 = W4 at *; obtain ⟨k0, k1, k2⟩ := HC.out _ HG4.out)
    | (go_at_call 53; ((with_reducible refine (C53.out _ HB4.out).mono ?_)); rintro e w5 ⟨y5, rfl, hn5, hm5, hg5⟩; have HG5 := Lib.hid (grown_trans HG4.out hg5); have HN5 := Lib.hid hn5; have HM5 := Lib.hid hm5; clear hn5 hm5 hg5)
    | (go_at_call 54; ((with_reducible refine (C54.out _ HG5.out).mono ?_)); rintro e w6 ⟨q6, d6, rfl, hr6, hb6⟩; have HR6 := Lib.hid hr6; have HB6 := Lib.hid hb6; clear hr6 hb6)
    | fail
  refine bodyPost_ret (v := .tuple #[y5, .slice q6 sx.length d6, .bool true]) (results_tmp3 (t := 10) (u := 11) (v := 12) rfl _ _ _) rfl ?_
  exact ⟨_, _, _, rfl, NodeAt.below HN5.out HB6.out, HR6.out, HM5.out.below HB6.out, grown_trans HG.out (grown_trans HG5.out (grown_of_below HB6.out mb))⟩
set_option maxHeartbeats 4000000 in
set_option maxRecDepth 100000 in
theorem flPut (w : World) (D : Nat → Prop) (hD : ∀ j, w.heap.size ≤ j → D j) {mb : Option Nat} (ho : Off D mb) (hm2 : mb ≠ some 2) {vi c : Nat} (hm : Met w mb vi c) (hvi : vi < 999980000000) (hci : c < 999980000000) {pt : Option Addr} {ct : Nat} {tb : List Nat} {D0 : Nat → Prop} (ht : IsVs w D0 pt ct (tb.map uv)) (ho0 : Off D0 mb) (htb : ∀ y ∈ tb, y < 18446744073709551616)
    {xp : Option Addr} {xc : Nat} {x : List PairT} (hx : IsRs w D xp xc x) {n : Option N} {v : Value} (hn : NodeAt w D n v) {t : T} (inv : Inv (tabM tb) n t x) (hs : ∀ p ∈ x, p.1.length ≤ 1000000 ∧ p.2.length ≤ 1000000) (hl : x.length < 1000000) {kp vp : Option Addr} {kc vc : Nat} {k u : List UInt8} (hk : IsD w (fun j => mb ≠ some j) kp kc k) (hv : IsD w (fun j => mb ≠ some j) vp vc u) (hkl : k.length ≤ 1000000) (hul : u.length ≤ 1000000) (h2 : 2 < w.heap.size) (hT : TabAt 2 Lib.deBruijn32tab w) :
    Calls Tryz.prog 17 #[v, .slice xp x.length xc, .slice pt tb.length ct, .agg #[.bool false, .slice kp k.length kc, .slice vp u.length vc], .pointer (mptr mb)] w (StepR D (tabM tb) ⟨false, k, u⟩ n x mb (vi + (intoSO (tabM tb k) k n 0).1) (c + (intoSO (tabM tb k) k n 0).2) w) := by
  have hht := tabM_lt htb
  have told := told_ok hht inv ⟨false, k, u⟩
  unfold toldN at told
  simp only [Bool.false_eq_true, if_false] at told
  obtain ⟨W2, hW2⟩ : ∃ z, z = w.alloc (.cells #[.bool false, .slice kp k.length kc, .slice vp u.length vc] 45) := ⟨_, rfl⟩
  have hB2 : Below w.heap.size w W2 := by rw [hW2]; exact (Below.refl _ w).alloc (Nat.le_refl _) _
  have hG2 := grown_of_below hB2 mb
  have hmw : mb ≠ some w.heap.size := fun e => Nat.lt_irrefl _ (hm.lt _ e)
  have r2 : W2.heap[w.heap.size]? = some (.cells #[.bool false, .slice kp k.length kc, .slice vp u.length vc] 45) := by rw [hW2]; exact heap_alloc_new _ _
  have HC := Lib.hid (show ∀ w', W2.grownBy w' mb → w'.cell? ⟨w.heap.size, 0, none⟩ = some (.bool false) ∧ w'.cell? ⟨w.heap.size, 1, none⟩ = some (.slice kp k.length kc) ∧ w'.cell? ⟨w.heap.size, 2, none⟩ = some (.slice vp u.length vc) from fun w' g => by
    have r' := grown_row g r2 hmw
    exact ⟨cell_of_row w' _ 0 _ _ (0, 0) r', cell_of_row w' _ 1 _ _ (0, 0) r', cell_of_row w' _ 2 _ _ (0, 0) r'⟩)
  obtain ⟨R, hR⟩ : ∃ R, hasL k x = R := ⟨_, rfl⟩
  have UP : ∀ {w'}, W2.grownBy w' mb → w.grownBy w' mb := fun g => grown_trans hG2 g
  have KB := Lib.hid (show ∀ w', W2.grownBy w' mb → (convert 22 9 (.slice kp k.length kc)).run Tryz.prog w' = .ok (.string (str k)) w' ∧ (convert 22 9 (.slice vp u.length vc)).run Tryz.prog w' = .ok (.string (str u)) w' from fun w' g => ⟨(hk.grown (Off.ne mb) (UP g)).b.convert Tryz.underlying22 Tryz.underlying5 Tryz.underlying9, (hv.grown (Off.ne mb) (UP g)).b.convert Tryz.underlying22 Tryz.underlying5 Tryz.underlying9⟩)
  have C52 := Lib.hid (show ∀ w', W2.grownBy w' mb → Calls Tryz.prog 52 #[.slice xp x.length xc, .string (str k)] w' (fun e w'' => ∃ v, e = .returned (.tuple #[v, .bool R]) ∧ Below w'.heap.size w' w'') from fun w' g => by
    have := ref04Get w' (hx.grown ho (UP g)) (by omega) k
    rwa [hR] at this)
  have C14 := Lib.hid (show ∀ w', W2.grownBy w' mb → Calls Tryz.prog 14 #[.slice pt tb.length ct, .string (str k)] w' _ from fun w' g => ref19Hash w' (ht.grown ho0 (UP g)) hkl)
  obtain ⟨V, hV⟩ : ∃ V, V = vi + (intoSO (tabM tb k) k n 0).1 := ⟨_, rfl⟩
  obtain ⟨C, hC⟩ : ∃ C, C = c + (intoSO (tabM tb k) k n 0).2 := ⟨_, rfl⟩
  have hfo : fitO n := by
    cases n with
    | none => exact trivial
    | some m =>
      have h1 := inv.fit hht (fun p hp => hs p hp) m rfl
      exact ⟨h1.1, by have := h1.2; omega⟩
  have C55 := Lib.hid (show ∀ w', Below W2.heap.size W2 w' → Calls Tryz.prog 55 #[v, .int .u64 (tabM tb k : Int), pairV kp kc k vp vc u, .pointer (mptr mb)] w' (fun e w'' => ∃ y, e = .returned (.tuple #[y, .bool (!R)]) ∧ NodeAt w'' D (stepN (tabM tb) ⟨false, k, u⟩ n) y ∧ Met w'' mb V C ∧ w'.grownBy w'' mb) from fun w' g => by
    have hb := hB2.trans (g.mono hB2.size)
    have hg := grown_of_below hb mb
    refine (graftPut w' D (fun j hj => hD j (Nat.le_trans hg.size hj)) ho hm2 (vi := vi) (c := c) (hm.below hb) ⟨hk.grown (Off.ne mb) hg, hv.grown (Off.ne mb) hg, hkl, hul⟩ (NodeAt.grownO hn ho hg) hfo (hht k) hvi hci (Nat.lt_of_lt_of_le h2 hg.size) (tab_grown hT h2 hm2 hg)).mono ?_
    rintro e w'' ⟨y, a, rfl, h1, h3, h4⟩
    refine ⟨ifp y a, by rw [told, hR], h1, by rw [hV, hC]; exact h3, h4⟩)
  have C56 := Lib.hid (show ∀ w', W2.grownBy w' mb → Calls Tryz.prog 56 #[.slice xp x.length xc, .agg #[.string (str k), .string (str u)]] w' (RsR D (putL (k, u) x) w') from fun w' g => ref04Put w' (fun j hj => hD j (Nat.le_trans (UP g).size hj)) (hx.grown ho (UP g)) (by omega) (fun p hp => (hs p hp).1) k u hkl)
  have HG := Lib.hid hG2
  have HG2 := Lib.hid (grown_rfl W2 mb)
  obtain ⟨k0, k1, k2⟩ := HC.out _ HG2.out
  obtain ⟨kb, kv⟩ := KB.out _ HG2.out
  obtain ⟨hh, hhh⟩ : ∃ z, tabM tb k = z := ⟨_, rfl⟩
  rw [hhh] at C14
  rw [hhh] at C55
  rw [← hV, ← hC]
  have hst : stepX ⟨false, k, u⟩ x = putL (k, u) x := rfl
  unfold StepR
  rw [hst]
  generalize stepN (tabM tb) ⟨false, k, u⟩ n = sn at *
  generalize putL (k, u) x = sx at *
  clear hm ht hx hn inv hk hv hs hT hD hht told htb hG2 hB2 r2 hR UP hV hC hhh hst
  cases R
  all_goals
    have kb' := kb
    rw [hW2] at kb'
    go_enter Tryz.func17, Tryz.ntmps17
    go_wp2_with fail
    clear kb'
    rw [← hW2]
    clear hW2
    go_wp2_with first
      | (go_at_call 52; ((with_reducible refine (C52.out _ HG2.out).mono ?_)); rintro e w3 ⟨v3, rfl, hb3⟩; have HB3 := Lib.hid hb3; have HG3 := Lib.hid (grown_of_below hb3 mb); clear hb3)
      | (go_at_call 14; ((with_reducible refine (C14.out _ HG3.out).mono ?_)); rintro e w4 ⟨rfl, m4, rfl⟩; have HB4 := Lib.hid (below_drewNA HB3.out m4); have HG4 := Lib.hid (grown_of_below HB4.out mb); generalize w3.drewN m4 = W4 at *; obtain ⟨k0, k1, k2⟩ := HC.out _ HG4.out)
      | (go_at_call 55; ((with_reducible refine (C55.out _ HB4.out).mono ?_)); rintro e w5 ⟨y5, rfl, hn5, hm5, hg5⟩; have HG5 := Lib.hid (grown_trans HG4.out hg5); obtain ⟨k0, k1, k2⟩ := HC.out _ HG5.out; obtain ⟨kb, kv⟩ := KB.out _ HG5.out; have HN5 := Lib.hid hn5; have HM5 := Lib.hid hm5; clear hn5 hm5 hg5)
      | (go_at_call 56; ((with_reducible refine (C56.out _ HG5.out).mono ?_)); rintro e w6 ⟨q6, d6, rfl, hr6, hb6⟩; have HR6 := Lib.hid hr6; have HB6 := Lib.hid hb6; clear hr6 hb6)
      | fail
    refine bodyPost_ret (v := .tuple #[y5, .slice q6 sx.length d6, .bool true]) (results_tmp3 (t := 10) (u := 11) (v := 12) rfl _ _ _) rfl ?_
    exact ⟨_, _, _, rfl, NodeAt.below HN5.out HB6.out, HR6.out, HM5.out.below HB6.out, grown_trans HG.out (grown_trans HG5.out (grown_of_below HB6.out mb))⟩
set_option maxHeartbeats 2000000 in
set_option maxRecDepth 100000 in
theorem flLay (w : World) {D : Nat → Prop} {pt : Option Addr} {ct : Nat} {tb : List Nat} {D0 : Nat → Prop} (ht : IsVs w D0 pt ct (tb.map uv)) (htb : ∀ y ∈ tb, y < 18446744073709551616) {xp : Option Addr} {xc : Nat} {x : List PairT} (hx : IsRs w D xp xc x) {n : Option N} {v : Value} (hn : NodeAt w D n v) {t : T} (inv : Inv (tabM tb) n t x) (hs : ∀ p ∈ x, p.1.length ≤ 1000000 ∧ p.2.length ≤ 1000000) (hl : x.length < 1000000) :
    Calls Tryz.prog 18 #[.slice pt tb.length ct, .slice xp x.length xc, v] w (TrueR w) := by
  have hht := tabM_lt htb
  have C59 := Lib.hid (refEntries w (D := fun j => w.heap.size ≤ j) (fun _ h => h) ht hx (by omega) (fun p hp => (hs p hp).1))
  have C58 := Lib.hid (show ∀ w' q c, Below w.heap.size w w' → IsEs w' (fun j => w.heap.size ≤ j) (tabM tb) q c x → Calls Tryz.prog 58 #[.slice q x.length c, .int .i64 0] w' (LayR (fun j => w.heap.size ≤ j) (layR (tabM tb) 13 x 0) w') from fun w' q c hb he => layWalk hht 13 x 0 rfl w' (fun j hj => Nat.le_trans hb.size hj) he (by omega) (fun p hp => (hs p hp).1) inv.asc (fun _ _ _ _ j hj => absurd hj (Nat.not_lt_zero _)))
  have C57 := Lib.hid (show ∀ w' vs, Below w.heap.size w w' → RN.At w' (fun j => w.heap.size ≤ j) (layR (tabM tb) 13 x 0) vs → Calls Tryz.prog 57 #[v, .agg vs.toArray] w' (TrueR w') from fun w' vs hb hr => sameAny (lay_agrO inv.lay inv.asc) w' (NodeAt.below hn hb) hr fun m e => by
    have h1 := inv.fit hht (fun p hp => hs p hp) m e
    exact ⟨h1.1, by have := h1.2; omega⟩)
  generalize layR (tabM tb) 13 x 0 = r at *
  clear ht hx hn inv hs hht htb
  go_enter Tryz.func18, Tryz.ntmps18
  go_wp2_with first
    | (go_at_call 59; ((with_reducible refine (C59.out).mono ?_)); rintro e w2 ⟨q2, c2, rfl, he2, hb2⟩; have HB2 := Lib.hid hb2; have HE2 := Lib.hid he2; clear hb2 he2)
    | (go_at_call 58; ((with_reducible refine (C58.out _ _ _ HB2.out HE2.out).mono ?_)); rintro e w3 ⟨vs3, rfl, hr3, hb3⟩; have HB3 := Lib.hid (HB2.out.trans (hb3.mono HB2.out.size)); have HR3 := Lib.hid hr3; clear hr3 hb3)
    | (go_at_call 57; ((with_reducible refine (C57.out _ _ HB3.out HR3.out).mono ?_)); rintro e w4 ⟨rfl, hb4⟩; have HB4 := Lib.hid (HB3.out.trans (hb4.mono HB3.out.size)); clear hb4)
    | fail
  go_ret
  exact ⟨rfl, HB4.out⟩
end Go.Proofs.YtmbiiemlepfoaaaGreatDoor
namespace Go.Proofs.YtmbiiemlepfoaaaGreatDoor
open Go.RowKit
def boundN (h : Nat) : Nat := 16 + blen ((h + 1) ^ 6)
set_option maxHeartbeats 1000000 in
set_option maxRecDepth 100000 in
theorem refBound (w : World) (h : Nat) (hh : h ≤ 1048576) : Calls Tryz.prog 16 #[.int .i64 (h : Int)] w fun e w' => e = .returned (.int .i64 (boundN h : Int)) ∧ Below w.heap.size w w' := by
  go_enter Tryz.func16, Tryz.ntmps16
  go_wp2
  go_loopw [3, 4] (fun v3 v4 wr => ∃ (D : List Nat) (q : Option Addr) (d i : Nat), v3 = .slice q D.length d ∧ v4 = .int .i64 i ∧ i ≤ 6 ∧ wr.ownsRow w.heap.size 3 1 (.slice q D.length d) D.length (D.map ivN) ∧ Below w.heap.size w wr ∧ Hid (∀ x ∈ D, x < 65536) ∧ Hid (val D = (h + 1) ^ i) ∧ D.length ≤ 1 + 2 * i)
    (fun _ v4 _ => 6 - (intOf v4).toNat)
  case atStart => exact ⟨[1], some ⟨w.heap.size, 0, none⟩, 1, 0, rfl, rfl, by omega, World.ownsRow_lit w #[.int .i64 1] 1 (Nat.le_refl _) (by unfold maxLen; decide) rfl, (Below.refl _ _).alloc (Nat.le_refl _) _, by intro x hx; simp at hx; omega, rfl, by simp⟩
  case round =>
    obtain ⟨D, q, d, i, rfl, rfl, hi, hown, hbel, HD, HV, hl⟩ := hrel
    have HBEL := Lib.hid hbel
    have hs := hbel.size
    have hin := IsN.own hown
    clear hown hbel
    by_cases h1 : i < 6
    · have g1 : (i : Int) < 6 := by omega
      have ht := timesN wr (h + 1) hin HD.out (by omega) (by omega)
      have e1 : ((h + 1 : Nat) : Int) = (h : Int) + 1 := by omega
      rw [e1] at ht
      have HT := Lib.hid ht
      clear ht hin e1
      go_wp2_with fail
      refine HT.out.mono ?_
      rintro e w2 ⟨v, rfl, R, hown2, hd2, hv2, hl2, hbel2⟩
      obtain ⟨q2, d2, rfl⟩ := own_sliceN hown2
      have HO2 : Hid (w2.ownsRow w.heap.size 3 1 (.slice q2 R.length d2) R.length (R.map ivN)) := by
        refine ⟨hown2.1, ?_⟩
        rcases hown2.2 with hh | ⟨g, cap, cur, x1, x2, x3⟩
        · exact .inl hh
        · exact .inr ⟨g, cap, cur, x1, by omega, x3⟩
      have HB2 : Hid (Below w.heap.size w w2) := HBEL.out.trans (hbel2.mono hs)
      have HV2 : Hid (val R = (h + 1) ^ (i + 1)) := by show val R = _; rw [hv2, HV.out, Nat.pow_succ]
      have HD2 : Hid (∀ x ∈ R, x < 65536) := hd2
      clear hown2 hbel2 hv2 hd2
      go_wp2
      go_roundw
      case rel => exact ⟨R, q2, d2, i + 1, rfl, by go_num, by omega, HO2.out, HB2.out, HD2, HV2, by omega⟩
      case measure => simp [intOf]; omega
    · obtain rfl : i = 6 := by omega
      have hlen := lengthN wr hin HD.out (by omega)
      rw [HV.out] at hlen
      have hb : blen ((h + 1) ^ 6) ≤ 126 := blen_le (Nat.lt_of_le_of_lt (Nat.pow_le_pow_left (by omega : h + 1 ≤ 1048577) 6) (by decide))
      have hfin : ((boundN h : Nat) : Int) = 17 + ((blen ((h + 1) ^ 6) : Nat) : Int) - 1 := by unfold boundN; omega
      generalize blen ((h + 1) ^ 6) = L at *
      have HL := Lib.hid hlen
      have HF := Lib.hid hfin
      clear hlen hin hfin
      go_wp2_with fail
      refine HL.out.mono ?_
      rintro e w2 ⟨rfl, rfl⟩
      go_wp2
      go_ret
      exact ⟨by rw [HF.out]; rfl, HBEL.out⟩
theorem bound_log (n : Nat) : boundN n = 17 + Nat.log2 ((n + 1) ^ 6) := by
  unfold boundN
  have h : (n + 1) ^ 6 ≠ 0 := by have := Nat.pow_pos (n := 6) (show 0 < n + 1 from by omega); omega
  unfold blen
  rw [if_neg h]
  omega
end Go.Proofs.YtmbiiemlepfoaaaGreatDoor
