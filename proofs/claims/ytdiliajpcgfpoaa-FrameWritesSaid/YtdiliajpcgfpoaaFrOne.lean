/- The walk of FrameOne. -/
import Derived.Test.YtdiliajpcgfpoaaFrAwake
import Derived.Test.YtdiliajpcgfpoaaRefTake
import Derived.Deep.RegionWith
import Derived.Deep.DeepCutAuto
namespace Go.Proofs.Ytdiliajpcgfpoaa
open Go.RowKit

theorem one_number {l : List UInt8} {n : Nat} {l1 : List UInt8} {e : Nat} (h : numOp l 0 = (n, l1, e)) (he : endE l1 e = 0) : enc n = l ∧ n < 18446744073709551616 := by
  unfold numOp at h
  rw [if_pos rfl] at h
  obtain ⟨a, b, c, hd⟩ : ∃ a b c, dec l = (a, b, c) := ⟨_, _, _, rfl⟩
  rw [hd] at h
  simp only [Prod.mk.injEq] at h
  obtain ⟨rfl, rfl, rfl⟩ := h
  unfold endE at he
  split at he
  · cases he
  · rename_i h1
    subst he
    have hl : (l.drop b).length = 0 := by
      rcases Nat.eq_zero_or_pos (l.drop b).length with h | h
      · exact h
      · exact absurd ⟨rfl, h⟩ h1
    obtain ⟨h2, h3, h4, h5⟩ := dec_back hd
    rw [List.length_drop] at hl
    rw [List.take_of_length_le (by omega)] at h4
    exact ⟨h4.symm, h5⟩
theorem one_text {l : List UInt8} {m : Nat} {t l1 : List UInt8} {e : Nat} (h : textOp l 0 m = (t, l1, e)) (he : endE l1 e = 0) : enc t.length ++ t = l := by
  rw [textOp_zero] at h
  obtain ⟨a, b, c, hd⟩ : ∃ a b c, dec l = (a, b, c) := ⟨_, _, _, rfl⟩
  rw [hd] at h
  dsimp only at h
  have hle : ¬ (e ≠ 0) := fun h2 => by
    unfold endE at he
    split at he <;> omega
  have he0 : e = 0 := by omega
  have hl1 : l1.length = 0 := by
    unfold endE at he
    split at he
    · cases he
    · rename_i h1
      rcases Nat.eq_zero_or_pos l1.length with h | h
      · exact h
      · exact absurd ⟨he0, h⟩ h1
  split at h
  · rename_i hc
    subst hc
    obtain ⟨h2, h3, h4, h5⟩ := dec_back hd
    split at h
    · simp only [Prod.mk.injEq] at h; omega
    · split at h
      · simp only [Prod.mk.injEq] at h; omega
      · simp only [Prod.mk.injEq] at h
        obtain ⟨rfl, rfl, _⟩ := h
        rw [List.length_drop] at hl1
        rename_i h6
        have h7 : (l.drop b).length = a := by omega
        have h8 : (l.drop b).take a = l.drop b := List.take_of_length_le (by omega)
        rw [h8, h7, ← h4]
        exact List.take_append_drop b l
  · simp only [Prod.mk.injEq] at h
    obtain ⟨_, _, h9⟩ := h
    omega


theorem conv_of {w : World} {p : Option Addr} {c : Nat} {l : List UInt8} (h : IsB w p c l) : (Go.convert 23 9 (.slice p l.length c)).run Try.prog w = .ok (.string (str l)) w :=
  h.convert (P := Try.prog) Try.underlying23 Try.underlying5 Try.underlying9
theorem rdEndQ (w : World) {g : Nat} {l : List UInt8} {e : Nat} (h : Rd w g l e) : Calls Try.prog 16 #[.pointer (some ⟨g, 0, none⟩)] w fun en w' => en = .returned (.int .i64 (endE l e : Int)) ∧ w' = w :=
  (rdEnd w h).mono fun _ _ ⟨h, h'⟩ => ⟨h, h'.symm⟩
theorem below_one {w w1 : World} {q : Option Addr} {d : Nat} {l : List UInt8} (h : NumR w.drew w1 q d l) : Below w.heap.size w w1 := (Below.refl _ w).drew.trans h.below

set_option maxHeartbeats 2000000 in
set_option maxRecDepth 100000 in
theorem frameOne_few (w : World) {p : Option Addr} {c : Nat} {l : List UInt8} (h : IsB w p c l) (hl : l.length ≤ 200) : Calls Try.prog 6 #[.slice p l.length c] w fun e w' => e = .returned (.bool true) ∧ Below w.heap.size w w' := by
  have g0 : ¬ (200 : Int) < (l.length : Int) := by omega
  have H := Lib.hid h
  have HNEW := Lib.hid (newReader w h (by omega))
  obtain ⟨n, l1, e1, hno⟩ : ∃ a b c, numOp l 0 = (a, b, c) := ⟨_, _, _, rfl⟩
  obtain ⟨t, l2, e2, hto⟩ : ∃ a b c, textOp l 0 1000 = (a, b, c) := ⟨_, _, _, rfl⟩
  have ON : Hid (endE l1 e1 = 0 → enc n = l ∧ n < 18446744073709551616) := one_number hno
  have OT : Hid (endE l2 e2 = 0 → enc t.length ++ t = l) := one_text hto
  have HNO := Lib.hid hno
  have HTO := Lib.hid hto
  clear h hno hto
  go_enter Try.func6, Try.ntmps6
  go_wp2_with fail
  refine HNEW.out.mono ?_
  rintro e w1 ⟨g, rfl, hge, hrd, hbel⟩
  have HNEW2 := Lib.hid (newReader w1 (H.out.below hbel) (by omega))
  have RD := Lib.hid hrd
  have HB1 : Hid (Below w.heap.size w w1) := hbel
  clear HNEW hrd hbel
  go_wp2_with fail
  refine HNEW2.out.mono ?_
  rintro e w2 ⟨g2, rfl, hge2, hrd2, hbel2⟩
  have hlt := RD.out.lt
  have hnum := rdNumber w2 (RD.out.below hbel2)
  rw [HNO.out] at hnum
  dsimp only at hnum
  have HNUM := Lib.hid hnum
  have RG := Lib.hid (RD.out.below hbel2)
  have RT := Lib.hid hrd2
  have HB2 : Hid (Below w.heap.size w w2) := HB1.out.trans (hbel2.mono HB1.out.size)
  have HNE : Hid (g2 ≠ g) := by show g2 ≠ g; omega
  have HGE : Hid (w.heap.size ≤ g ∧ w.heap.size ≤ g2) := ⟨hge, by have := HB1.out.size; omega⟩
  clear hnum hrd2 hbel2 HNEW2 RD HB1 hge hge2 hlt
  go_wp2_with fail
  refine HNUM.out.mono ?_
  rintro e w3 ⟨rfl, hrd, hgr⟩
  have R1 := Lib.hid (hrd.below (Below.refl _ w3).drew)
  have R1N : Hid (∀ k, Rd (w3.drewN k) g l1 e1) := fun k => hrd.below (below_drewN (Below.refl _ w3) k)
  have RT3 := Lib.hid (RT.out.other RG.out HNE.out hgr)
  have HB3 : Hid (Below w.heap.size w w3) := HB2.out.trans (below_grown hgr HGE.out.1 HB2.out.size)
  clear HNUM hrd hgr RT RG HB2
  go_upto_region 7 with fail
  go_cut [33] (fun v33 wx => v33 = .bool false ∧ Below w3.heap.size w3 wx)
  case first =>
    have HEND := Lib.hid (rdEnd _ R1.out)
    by_cases he : endE l1 e1 = 0
    · obtain ⟨hen, hn64⟩ := ON.out he
      have hnn := fun w => frNumber w n hn64
      rw [hen] at hnn
      rw [he] at HEND
      have HNN := Lib.hid hnn
      have kb0 := conv_of (H.out.below HB3.out.drew)
      clear hen hnn he
      go_region_with (first
        | (go_at_call 16; refine HEND.out.mono ?_; rintro e w' ⟨rfl, rfl⟩)
        | (go_at_call 8; refine (HNN.out _).mono ?_; rintro e w' ⟨q, d, rfl, hn⟩; have hl := hn.str; have kb := conv_of (H.out.below (HB3.out.trans ((below_one hn).mono HB3.out.size)))))
      all_goals (go_wp2_with fail; go_meet; exact ⟨rfl, below_one (by assumption)⟩)
    · obtain ⟨x, hx⟩ : ∃ x, endE l1 e1 = x := ⟨_, rfl⟩
      have hendq := fun k => rdEndQ _ (R1N.out k)
      rw [hx] at he hendq
      have HQ := Lib.hid hendq
      have gx : ((x : Int) == 0) = false := by simp; omega
      clear hx he hendq HEND
      go_quiet ((go_at_call 16; exact Calls.quiet_of_same (HQ.out _)))
      all_goals (go_wp2_with fail; go_meet; exact ⟨rfl, below_drewN (Below.refl _ w3) _⟩)
  case rest =>
    obtain ⟨rfl, hb⟩ := hcut
    have HBC : Hid (Below w.heap.size w wc) := HB3.out.trans (hb.mono HB3.out.size)
    have hrt := RT3.out.below hb
    have htx := rdText wc 1000 1000 (by omega) (by omega) (by omega) hrt
    rw [HTO.out] at htx
    dsimp only at htx
    have HTX := Lib.hid htx
    clear htx hrt hb R1 RT3 HB3
    go_wp2_with fail
    refine HTX.out.mono ?_
    rintro e w4 ⟨q4, d4, rfl, hob, hrd, hgr⟩
    dsimp only at hob hrd
    have OB4 := Lib.hid hob.isB
    have R4 := Lib.hid (hrd.below (Below.refl _ w4).drew)
    have R4N : Hid (∀ k, Rd (w4.drewN k) g2 l2 e2) := fun k => hrd.below (below_drewN (Below.refl _ w4) k)
    have HB4 : Hid (Below w.heap.size w w4) := HBC.out.trans (below_grown hgr HGE.out.2 HBC.out.size)
    clear HTX hob hrd hgr HBC
    go_upto_region 10 with fail
    go_cut [46] (fun v46 wx => v46 = .bool false ∧ Below w4.heap.size w4 wx)
    case first =>
      have HEND := Lib.hid (rdEnd _ R4.out)
      by_cases he : endE l2 e2 = 0
      · have het := OT.out he
        have htl : t.length ≤ 200 := by
          have := congrArg List.length het
          rw [List.length_append] at this
          omega
        have hnn := frText w4.drew (OB4.out.below (Below.refl _ w4).drew) (by omega)
        rw [het] at hnn
        rw [he] at HEND
        have HNN := Lib.hid hnn
        have kb0 := conv_of (H.out.below HB4.out.drew)
        clear het hnn he htl
        go_region_with (first
          | (go_at_call 16; refine HEND.out.mono ?_; rintro e w' ⟨rfl, rfl⟩)
          | (go_at_call 13; refine HNN.out.mono ?_; rintro e w' ⟨q, d, rfl, hn⟩; have hl := hn.str; have kb := conv_of (H.out.below (HB4.out.trans ((below_one hn).mono HB4.out.size)))))
        all_goals (go_wp2_with fail; go_meet; exact ⟨rfl, below_one (by assumption)⟩)
      · obtain ⟨x, hx⟩ : ∃ x, endE l2 e2 = x := ⟨_, rfl⟩
        have hendq := fun k => rdEndQ _ (R4N.out k)
        rw [hx] at he hendq
        have HQ := Lib.hid hendq
        have gx : ((x : Int) == 0) = false := by simp; omega
        clear hx he hendq HEND
        go_quiet ((go_at_call 16; exact Calls.quiet_of_same (HQ.out _)))
        all_goals (go_wp2_with fail; go_meet; exact ⟨rfl, below_drewN (Below.refl _ w4) _⟩)
    case rest =>
      obtain ⟨rfl, hb⟩ := hcut
      have HBD := Lib.hid (HB4.out.trans (hb.mono HB4.out.size))
      clear hb
      go_wp2_with fail
      refine (awake _).mono ?_
      rintro e w' ⟨rfl, hbel⟩
      have HB5 := Lib.hid (HBD.out.trans (hbel.mono HBD.out.size))
      clear hbel
      go_wp2
      go_ret
      exact ⟨rfl, HB5.out⟩

set_option maxHeartbeats 1000000 in
set_option maxRecDepth 100000 in
theorem frameOne_law (w : World) {p : Option Addr} {c : Nat} {l : List UInt8} (h : IsB w p c l) : Calls Try.prog 6 #[.slice p l.length c] w fun e w' => e = .returned (.bool true) ∧ Below w.heap.size w w' := by
  by_cases hl : l.length ≤ 200
  · exact frameOne_few w h hl
  · have g0 : (200 : Int) < (l.length : Int) := by omega
    go_enter Try.func6, Try.ntmps6
    go_wp2_with fail
    refine (awake _).mono ?_
    rintro e w' ⟨rfl, hbel⟩
    have HB := Lib.hid hbel
    clear hbel
    go_wp2
    go_ret
    exact ⟨rfl, HB.out⟩
end Go.Proofs.Ytdiliajpcgfpoaa
