/- The walk of MeterCounts. Printed by wip/tools/gen_counts.py. -/
import Derived.Test.YtegmcfnaiclmeaaMCounts
namespace Go.Proofs.Ytegmcfnaiclmeaa
open Go.RowKit

theorem IsB.convN {P : Program} {w : World} {p : Option Addr} {c : Nat} {l : List UInt8} (h : IsB w p c l) {src e dst : TypeId} (hs : P.underlying src = some (.slice e)) (he : P.underlying e = some (.int .u8)) (hd : P.underlying dst = some .string) (k : Nat) :
    (Go.convert src dst (.slice p l.length c)).run P (w.drewN k) = .ok (.string (str l)) (w.drewN k) := (h.drewN k).convert hs he hd
theorem less_swap (a b : List UInt8) : lessB b a = (Lib.compareBytes a b == 1) := by
  unfold lessB
  rw [cmp_swap b a, Bool.eq_iff_iff, beq_iff_eq, beq_iff_eq]
  omega

set_option maxHeartbeats 1000000 in
set_option maxRecDepth 100000 in
theorem counts_many (w : World) {p : Option Addr} {c : Nat} {L : List (Option Addr × Nat × List UInt8)} (n : Int) (hl : 100 < L.length) :
    Calls Try.prog 5 #[.slice p L.length c, .int .i64 n] w fun e w' => e = .returned (.bool true) ∧ Below w.heap.size w w' := by
  have g : (100 : Int) < (L.length : Int) := by omega
  go_enter Try.func5, Try.ntmps5
  go_wp2_with fail
  refine (mAwake w).mono ?_
  rintro e w' ⟨rfl, rfl⟩
  go_wp2
  go_ret
  exact ⟨rfl, Below.refl _ _⟩

set_option maxHeartbeats 8000000 in
set_option maxRecDepth 100000 in
theorem counts_few (w : World) {p : Option Addr} {c : Nat} {L : List (Option Addr × Nat × List UInt8)} (n : Int) (h : IsL w p c L) (hl : L.length ≤ 100) :
    Calls Try.prog 5 #[.slice p L.length c, .int .i64 n] w fun e w' => e = .returned (.bool true) ∧ Below w.heap.size w w' := by
  have g0 : ¬ (100 : Int) < (L.length : Int) := by omega
  have H := Lib.hid h
  have hh := fun W => refHeld W n
  have hb := fun W => refBound W (held n) (held_le n)
  have hwi := fun W b (v c : Nat) => within W b v c n
  have hd : ∀ v c : Int, withinB v c n = (decide (v ≤ (boundN (held n) : Int)) && decide (c ≤ v)) := fun _ _ => rfl
  generalize boundN (held n) = B at *
  generalize held n = hn at *
  have HH := Lib.hid hh
  have HBD := Lib.hid hb
  have HWI := Lib.hid hwi
  have HD := Lib.hid hd
  have HN := fun W => Lib.hid (within_nil W n)
  clear h hh hb hwi hd
  go_enter Try.func5, Try.ntmps5
  go_wp2
  go_loopw [7, 8, 9] (fun v7 v8 v9 wr => ∃ j v : Nat, v7 = .int .i64 v ∧ v8 = .int .i64 j ∧ v9 = .int .i64 ((j : Int) + 1) ∧ (j + 1 ≤ L.length ∨ j = 0) ∧ v ≤ j ∧ Met wr w.heap.size v j ∧ Below w.heap.size w wr)
    (fun _ v8 _ _ => L.length - (intOf v8).toNat)
  case atStart => exact ⟨0, 0, rfl, rfl, rfl, .inr rfl, Nat.le_refl _, heap_alloc_new w _, (Below.refl _ _).alloc (Nat.le_refl _) _⟩
  case round =>
    obtain ⟨j, v, rfl, rfl, rfl, hj, hv, hm, hbel⟩ := hrel
    have HM := Lib.hid hm
    have HBEL := Lib.hid hbel
    clear hm hbel
    by_cases h1 : j + 1 < L.length
    · have g1 : (j : Int) + 1 < (L.length : Int) := by omega
      obtain ⟨b, o, rfl, hb, hc⟩ := H.out.cells (by omega)
      obtain ⟨⟨qa, ca, a⟩, hxa⟩ : ∃ x, L[j]? = some x := ⟨_, List.getElem?_eq_getElem (by omega)⟩
      obtain ⟨⟨qb, cb, bb⟩, hxb⟩ : ∃ x, L[j + 1]? = some x := ⟨_, List.getElem?_eq_getElem h1⟩
      have k1 : wr.cell? ⟨b, o + j, none⟩ = some (.slice qa a.length ca) := (HBEL.out.cell (p := ⟨b, o + j, none⟩) hb).trans (hc _ _ hxa)
      have k2 : wr.cell? ⟨b, o + (j + 1), none⟩ = some (.slice qb bb.length cb) := (HBEL.out.cell (p := ⟨b, o + (j + 1), none⟩) hb).trans (hc _ _ hxb)
      have A0 := Lib.hid (H.out.bytes _ (List.mem_of_getElem? hxa))
      have B0 := Lib.hid (H.out.bytes _ (List.mem_of_getElem? hxb))
      clear hc hxa hxb
      have n1 : (0 : Int) ≤ (j : Int) + 1 - 1 := by omega
      have n2 : (j : Int) + 1 - 1 < (L.length : Int) := by omega
      by_cases h50 : a.length ≤ 50 ∧ bb.length ≤ 50
      · obtain ⟨h5a, h5b⟩ := h50
        have g5a : ¬ (50 : Int) < (a.length : Int) := by omega
        have g5b : ¬ (50 : Int) < (bb.length : Int) := by omega
        have ka := fun k => (A0.out.below HBEL.out).convN (P := Try.prog) Try.underlying31 Try.underlying5 Try.underlying9 k
        have kb := fun k => (B0.out.below HBEL.out).convN (P := Try.prog) Try.underlying31 Try.underlying5 Try.underlying9 k
        have lab : lessB a bb = (Lib.compareBytes a bb == -1) := rfl
        have lba := less_swap a bb
        have cr := cmp_range a bb
        have hS : ∀ (k : Nat) (x : Value), Below w.heap.size w ((wr.drewN k).setCell ⟨w.heap.size, 1, none⟩ x) := fun k x => (below_drewN HBEL.out k).setCell (p := ⟨w.heap.size, 1, none⟩) (Nat.le_refl _) x
        have cm := fun k => comparePtr (wr.drewN k) w.heap.size v j (by omega) (HM.out.drewN k) (A0.out.below (hS k _)) (B0.out.below (hS k _))
        have cn := fun k => compareNil ((wr.drewN k).setCell ⟨w.heap.size, 1, none⟩ (.int .i64 ((j : Int) + 1))) (A0.out.below (hS k _)) (B0.out.below (hS k _))
        dsimp only at cm cn
        generalize Lib.compareBytes a bb = x at *
        have CM := Lib.hid cm
        have CN := Lib.hid cn
        have LAB := Lib.hid lab
        have LBA := Lib.hid lba
        have HS : Hid (∀ (k : Nat) (x : Value), Below w.heap.size w ((wr.drewN k).setCell ⟨w.heap.size, 1, none⟩ x)) := hS
        clear cm cn lab lba hS
        rcases cr with rfl | rfl | rfl
        · have E1 : Hid (lessB a bb = true) := LAB.out
          have E2 : Hid (lessB bb a = false) := LBA.out
          go_wp2_with fail
          go_quiet (fail)
          go_wp2_with fail
          refine (refLess _ _ _ (by rw [str_size]; omega) (by rw [str_size]; omega)).mono ?_
          rintro e w' ⟨he, n1, rfl⟩
          rw [str_data, str_data, E1.out] at he
          subst he
          go_wp2_with fail
          refine (refLess _ _ _ (by rw [str_size]; omega) (by rw [str_size]; omega)).mono ?_
          rintro e w' ⟨he, n2, rfl⟩
          rw [str_data, str_data, E2.out] at he
          subst he
          go_wp2_with fail
          refine (CM.out _).mono ?_
          rintro e w' ⟨rfl, rfl⟩
          go_wp2_with fail
          refine (CN.out _).mono ?_
          rintro e w' ⟨rfl, rfl⟩
          have HM1 := Lib.hid (HM.out.drewN (nq + n1 + n2)).set1
          by_cases hev : ((a.length : Int) % 2 == 0) = true
          · go_wp2_with fail
            refine (visitPtr _ w.heap.size v (j + 1) (by omega) HM1.out).mono ?_
            rintro e w' ⟨rfl, rfl⟩
            go_wp2_with fail
            refine (visitNil _).mono ?_
            rintro e w' ⟨rfl, rfl⟩
            go_wp2
            go_roundw
            case rel => exact ⟨j + 1, v + 1, by go_num, by go_num, by go_num, .inl (by omega), by omega, HM1.out.set0, (HS.out _ _).setCell (p := ⟨w.heap.size, 0, none⟩) (Nat.le_refl _) _⟩
            case measure => simp [intOf]; omega
          · have hev2 : ((a.length : Int) % 2 == 0) = false := by simpa using hev
            go_wp2
            go_roundw
            case rel => exact ⟨j + 1, v, by go_num, by go_num, by go_num, .inl (by omega), by omega, HM1.out, HS.out _ _⟩
            case measure => simp [intOf]; omega
        · have E1 : Hid (lessB a bb = false) := LAB.out
          have E2 : Hid (lessB bb a = false) := LBA.out
          go_wp2_with fail
          go_quiet (fail)
          go_wp2_with fail
          refine (refLess _ _ _ (by rw [str_size]; omega) (by rw [str_size]; omega)).mono ?_
          rintro e w' ⟨he, n1, rfl⟩
          rw [str_data, str_data, E1.out] at he
          subst he
          go_wp2_with fail
          refine (refLess _ _ _ (by rw [str_size]; omega) (by rw [str_size]; omega)).mono ?_
          rintro e w' ⟨he, n2, rfl⟩
          rw [str_data, str_data, E2.out] at he
          subst he
          go_wp2_with fail
          refine (CM.out _).mono ?_
          rintro e w' ⟨rfl, rfl⟩
          go_wp2_with fail
          refine (CN.out _).mono ?_
          rintro e w' ⟨rfl, rfl⟩
          have HM1 := Lib.hid (HM.out.drewN (nq + n1 + n2)).set1
          by_cases hev : ((a.length : Int) % 2 == 0) = true
          · go_wp2_with fail
            refine (visitPtr _ w.heap.size v (j + 1) (by omega) HM1.out).mono ?_
            rintro e w' ⟨rfl, rfl⟩
            go_wp2_with fail
            refine (visitNil _).mono ?_
            rintro e w' ⟨rfl, rfl⟩
            go_wp2
            go_roundw
            case rel => exact ⟨j + 1, v + 1, by go_num, by go_num, by go_num, .inl (by omega), by omega, HM1.out.set0, (HS.out _ _).setCell (p := ⟨w.heap.size, 0, none⟩) (Nat.le_refl _) _⟩
            case measure => simp [intOf]; omega
          · have hev2 : ((a.length : Int) % 2 == 0) = false := by simpa using hev
            go_wp2
            go_roundw
            case rel => exact ⟨j + 1, v, by go_num, by go_num, by go_num, .inl (by omega), by omega, HM1.out, HS.out _ _⟩
            case measure => simp [intOf]; omega
        · have E1 : Hid (lessB a bb = false) := LAB.out
          have E2 : Hid (lessB bb a = true) := LBA.out
          go_wp2_with fail
          go_quiet (fail)
          go_wp2_with fail
          refine (refLess _ _ _ (by rw [str_size]; omega) (by rw [str_size]; omega)).mono ?_
          rintro e w' ⟨he, n1, rfl⟩
          rw [str_data, str_data, E1.out] at he
          subst he
          go_wp2_with fail
          refine (refLess _ _ _ (by rw [str_size]; omega) (by rw [str_size]; omega)).mono ?_
          rintro e w' ⟨he, n2, rfl⟩
          rw [str_data, str_data, E2.out] at he
          subst he
          go_wp2_with fail
          refine (CM.out _).mono ?_
          rintro e w' ⟨rfl, rfl⟩
          go_wp2_with fail
          refine (CN.out _).mono ?_
          rintro e w' ⟨rfl, rfl⟩
          have HM1 := Lib.hid (HM.out.drewN (nq + n1 + n2)).set1
          by_cases hev : ((a.length : Int) % 2 == 0) = true
          · go_wp2_with fail
            refine (visitPtr _ w.heap.size v (j + 1) (by omega) HM1.out).mono ?_
            rintro e w' ⟨rfl, rfl⟩
            go_wp2_with fail
            refine (visitNil _).mono ?_
            rintro e w' ⟨rfl, rfl⟩
            go_wp2
            go_roundw
            case rel => exact ⟨j + 1, v + 1, by go_num, by go_num, by go_num, .inl (by omega), by omega, HM1.out.set0, (HS.out _ _).setCell (p := ⟨w.heap.size, 0, none⟩) (Nat.le_refl _) _⟩
            case measure => simp [intOf]; omega
          · have hev2 : ((a.length : Int) % 2 == 0) = false := by simpa using hev
            go_wp2
            go_roundw
            case rel => exact ⟨j + 1, v, by go_num, by go_num, by go_num, .inl (by omega), by omega, HM1.out, HS.out _ _⟩
            case measure => simp [intOf]; omega
      · by_cases h5a : a.length ≤ 50
        · have g5a : ¬ (50 : Int) < (a.length : Int) := by omega
          have g5b : (50 : Int) < (bb.length : Int) := by omega
          go_wp2_with fail
          go_quiet (fail)
          go_wp2_with fail
          refine (mAwake _).mono ?_
          rintro e w' ⟨rfl, rfl⟩
          go_wp2
          go_ret
          exact ⟨rfl, below_drewN HBEL.out _⟩
        · have g5a : (50 : Int) < (a.length : Int) := by omega
          go_wp2_with fail
          go_quiet (fail)
          go_wp2_with fail
          refine (mAwake _).mono ?_
          rintro e w' ⟨rfl, rfl⟩
          go_wp2
          go_ret
          exact ⟨rfl, below_drewN HBEL.out _⟩
    · have g1 : ¬ (j : Int) + 1 < (L.length : Int) := by omega
      by_cases hvB : v ≤ B
      · have gB : decide (v ≤ B) = true := by simpa using hvB
        have gI : decide ((v : Int) ≤ (B : Int)) = true := by simpa using hvB
        by_cases hjv : j ≤ v
        · have gJ : decide (j ≤ v) = true := by simpa using hjv
          have gJI : decide ((j : Int) ≤ (v : Int)) = true := by simpa using hjv
          have GI := Lib.hid gI
          have GJI := Lib.hid gJI
          clear gI gJI
          go_wp2_with fail
          refine (HH.out _).mono ?_
          rintro e w' ⟨rfl, rfl⟩
          go_wp2_with fail
          refine (HBD.out _).mono ?_
          rintro e W2 ⟨rfl, hb2⟩
          have hm2 := HM.out.below hb2
          have HM2 := Lib.hid hm2
          have hw2 := HWI.out W2 _ _ _ hm2.c0 hm2.c1
          rw [HD.out, GI.out, GJI.out] at hw2
          have HW2 := Lib.hid hw2
          have HB2 : Hid (Below w.heap.size w W2) := HBEL.out.trans (hb2.mono HBEL.out.size)
          have c0 := hm2.c0
          have c1 := hm2.c1
          clear hw2 hm2 hb2
          go_wp2_with fail
          refine HW2.out.mono ?_
          rintro e w' ⟨rfl, k, rfl⟩
          go_wp2_with fail
          refine (HN _).out.mono ?_
          rintro e w' ⟨rfl, k2, rfl⟩
          go_wp2_with fail
          refine (mAwake _).mono ?_
          rintro e w' ⟨rfl, rfl⟩
          go_wp2
          go_ret
          exact ⟨rfl, below_drewN HB2.out _⟩
        · have gJ : decide (j ≤ v) = false := by simpa using hjv
          have gJI : decide ((j : Int) ≤ (v : Int)) = false := by simpa using hjv
          have GI := Lib.hid gI
          have GJI := Lib.hid gJI
          clear gI gJI
          go_wp2_with fail
          refine (HH.out _).mono ?_
          rintro e w' ⟨rfl, rfl⟩
          go_wp2_with fail
          refine (HBD.out _).mono ?_
          rintro e W2 ⟨rfl, hb2⟩
          have hm2 := HM.out.below hb2
          have HM2 := Lib.hid hm2
          have hw2 := HWI.out W2 _ _ _ hm2.c0 hm2.c1
          rw [HD.out, GI.out, GJI.out] at hw2
          have HW2 := Lib.hid hw2
          have HB2 : Hid (Below w.heap.size w W2) := HBEL.out.trans (hb2.mono HBEL.out.size)
          have c0 := hm2.c0
          have c1 := hm2.c1
          clear hw2 hm2 hb2
          go_wp2_with fail
          refine HW2.out.mono ?_
          rintro e w' ⟨rfl, k, rfl⟩
          go_wp2_with fail
          refine (HN _).out.mono ?_
          rintro e w' ⟨rfl, k2, rfl⟩
          go_wp2_with fail
          refine (mAwake _).mono ?_
          rintro e w' ⟨rfl, rfl⟩
          go_wp2
          go_ret
          exact ⟨rfl, below_drewN HB2.out _⟩
      · have gB : decide (v ≤ B) = false := by simpa using hvB
        have gI : decide ((v : Int) ≤ (B : Int)) = false := by simpa using hvB
        have GI := Lib.hid gI
        clear gI
        go_wp2_with fail
        refine (HH.out _).mono ?_
        rintro e w' ⟨rfl, rfl⟩
        go_wp2_with fail
        refine (HBD.out _).mono ?_
        rintro e W2 ⟨rfl, hb2⟩
        have hm2 := HM.out.below hb2
        have HM2 := Lib.hid hm2
        have hw2 := HWI.out W2 _ _ _ hm2.c0 hm2.c1
        rw [HD.out, GI.out] at hw2
        have HW2 := Lib.hid hw2
        have HB2 : Hid (Below w.heap.size w W2) := HBEL.out.trans (hb2.mono HBEL.out.size)
        have c0 := hm2.c0
        have c1 := hm2.c1
        clear hw2 hm2 hb2
        go_wp2_with fail
        refine HW2.out.mono ?_
        rintro e w' ⟨rfl, k, rfl⟩
        go_wp2_with fail
        refine (HN _).out.mono ?_
        rintro e w' ⟨rfl, k2, rfl⟩
        go_wp2_with fail
        refine (mAwake _).mono ?_
        rintro e w' ⟨rfl, rfl⟩
        go_wp2
        go_ret
        exact ⟨rfl, below_drewN HB2.out _⟩

theorem meterCounts_calls (w : World) {p : Option Addr} {c : Nat} {L : List (Option Addr × Nat × List UInt8)} (n : Int) (h : IsL w p c L) :
    Calls Try.prog 5 #[.slice p L.length c, .int .i64 n] w fun e w' => e = .returned (.bool true) ∧ Below w.heap.size w w' := by
  by_cases hl : L.length ≤ 100
  · exact counts_few w n h hl
  · exact counts_many w n (by omega)
end Go.Proofs.Ytegmcfnaiclmeaa
