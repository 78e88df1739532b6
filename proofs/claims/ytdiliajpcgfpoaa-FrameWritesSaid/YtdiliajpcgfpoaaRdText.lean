/- The walk of a reader's Text. -/
import Derived.Test.YtdiliajpcgfpoaaRdTake
namespace Go.Proofs.Ytdiliajpcgfpoaa
open Go.RowKit

def textOp (l : List UInt8) (e m : Nat) : List UInt8 × List UInt8 × Nat :=
  if (numOp l e).2.2 = 0 then
    (if m < (numOp l e).1 then ([], l, 4) else if (numOp l e).2.1.length < (numOp l e).1 then ([], l, 3) else ((numOp l e).2.1.take (numOp l e).1, (numOp l e).2.1.drop (numOp l e).1, 0))
  else ([], (numOp l e).2.1, (numOp l e).2.2)

theorem numOp_len (l : List UInt8) (e : Nat) : (numOp l e).2.1.length ≤ l.length := by
  unfold numOp
  split
  · simp
  · exact Nat.le_refl _

set_option maxHeartbeats 2000000 in
set_option maxRecDepth 100000 in
theorem rdText (w : World) {g : Nat} {l : List UInt8} {e : Nat} (n : Int) (m : Nat) (hm : max n 0 = (m : Int)) (hm63 : m ≤ 9223372036854775807) (hl : l.length ≤ 140737488355328) (h : Rd w g l e) :
    Calls Try.prog 17 #[.pointer (some ⟨g, 0, none⟩), .int .i64 n] w fun en w' => ∃ q d, en = .returned (.slice q (textOp l e m).1.length d) ∧ TakeR w w' g q d (textOp l e m) := by
  obtain ⟨q, d, c0, c1, f0, f1, ob⟩ := h.cells
  have hnum := rdNumber w h
  have hop : textOp l e m = if (numOp l e).2.2 = 0 then
      (if m < (numOp l e).1 then ([], l, 4) else if (numOp l e).2.1.length < (numOp l e).1 then ([], l, 3) else ((numOp l e).2.1.take (numOp l e).1, (numOp l e).2.1.drop (numOp l e).1, 0))
    else ([], (numOp l e).2.1, (numOp l e).2.2) := rfl
  have hnl := numOp_len l e
  obtain ⟨x, l1, e1, hno⟩ : ∃ x l1 e1, numOp l e = (x, l1, e1) := ⟨_, _, _, rfl⟩
  rw [hno] at hop hnum hnl
  dsimp only at hop hnum hnl
  have hx : e1 = 0 → x < 18446744073709551616 := fun he1 => by
    unfold numOp at hno
    split at hno
    · simp only [Prod.mk.injEq] at hno
      obtain ⟨rfl, _, h3⟩ := hno
      obtain ⟨a, b, c, hd⟩ : ∃ a b c, dec l = (a, b, c) := ⟨_, _, _, rfl⟩
      rw [hd] at h3 ⊢
      dsimp only at h3 ⊢
      rw [h3, he1] at hd
      exact (dec_back hd).2.2.2
    · simp only [Prod.mk.injEq] at hno
      omega
  have HNUM := Lib.hid hnum
  have HOP := Lib.hid hop
  have OB0 := Lib.hid ob
  have HX : Hid (e1 = 0 → x < 18446744073709551616) := hx
  have H := Lib.hid h
  clear hop hnum hno ob hx h
  go_enter Try.func17, Try.ntmps17
  go_wp2_with fail
  refine HNUM.out.mono ?_
  rintro en w1 ⟨rfl, hrd, hgr⟩
  obtain ⟨q1, d1, k0, k1, z0, z1, ob1⟩ := hrd.cells
  have RD := Lib.hid hrd
  have GR : Hid (w.grownBy w1 (some g)) := hgr
  have OB1 := Lib.hid ob1
  have OB0' := Lib.hid (H.out.bytes OB0.out hgr)
  clear hrd hgr ob1 c0 c1 f0 f1
  by_cases he1 : e1 = 0
  · have hx64 := HX.out he1
    subst he1
    by_cases hmx : m < x
    · have hfin : Hid (textOp l e m = ([], l, 4)) := by show textOp l e m = _; rw [HOP.out, if_pos rfl, if_pos hmx]
      have g1 : (m : Int) < (x : Int) := by omega
      have hfail := rdFail w1 4 RD.out
      have hf : failE 0 4 = 4 := rfl
      rw [hf] at hfail
      have HF := Lib.hid hfail
      clear hfail hf hmx
      go_wp2_with fail
      refine HF.out.mono ?_
      rintro en w2 ⟨rfl, hrd, hgr⟩
      obtain ⟨q2, d2, k0, k1, z0, z1, ob2⟩ := hrd.cells
      have hb2 := RD.out.bytes OB0'.out hgr
      have hset := hrd.set_b hb2
      have HSET := Lib.hid hset
      have GR2 : Hid (w.grownBy w2 (some g)) := grown_trans GR.out hgr
      have RD2 := Lib.hid hrd
      have OB2 := Lib.hid hb2
      clear hrd hgr ob2 hb2 hset
      go_wp2
      go_ret
      rw [hfin.out]
      exact ⟨none, 0, rfl, OB.nil_ _, HSET.out.1, grown_trans GR2.out HSET.out.2⟩
    · by_cases hlx : l1.length < x
      · have hfin : Hid (textOp l e m = ([], l, 3)) := by show textOp l e m = _; rw [HOP.out, if_pos rfl, if_neg hmx, if_pos hlx]
        have g1 : ¬ (m : Int) < (x : Int) := by omega
        have g2 : (l1.length : Int) < (x : Int) := by omega
        have hfail := rdFail w1 3 RD.out
        have hf : failE 0 3 = 3 := rfl
        rw [hf] at hfail
        have HF := Lib.hid hfail
        clear hfail hf hmx hlx
        go_wp2_with fail
        refine HF.out.mono ?_
        rintro en w2 ⟨rfl, hrd, hgr⟩
        obtain ⟨q2, d2, k0, k1, z0, z1, ob2⟩ := hrd.cells
        have hb2 := RD.out.bytes OB0'.out hgr
        have hset := hrd.set_b hb2
        have HSET := Lib.hid hset
        have GR2 : Hid (w.grownBy w2 (some g)) := grown_trans GR.out hgr
        clear hrd hgr ob2 hb2 hset
        go_wp2
        go_ret
        rw [hfin.out]
        exact ⟨none, 0, rfl, OB.nil_ _, HSET.out.1, grown_trans GR2.out HSET.out.2⟩
      · have htk : takeOp l1 0 x = (l1.take x, l1.drop x, 0) := by unfold takeOp; rw [if_pos rfl, if_neg hlx]
        have hfin : Hid (textOp l e m = takeOp l1 0 x) := by show textOp l e m = _; rw [HOP.out, if_pos rfl, if_neg hmx, if_neg hlx, htk]
        have g1 : ¬ (m : Int) < (x : Int) := by omega
        have g2 : ¬ (l1.length : Int) < (x : Int) := by omega
        have htake := rdTake w1 (x : Int) x (by omega) (by omega) RD.out
        have HT := Lib.hid htake
        clear htake htk hmx hlx
        go_wp2_with fail
        refine HT.out.mono ?_
        rintro en w2 ⟨q2, d2, rfl, ht1, ht2, ht3⟩
        have T1 := Lib.hid ht1
        have T2 := Lib.hid ht2
        have T3 : Hid (w1.grownBy w2 (some g)) := ht3
        clear ht1 ht2 ht3
        go_wp2
        go_ret
        rw [hfin.out]
        exact ⟨q2, d2, rfl, T1.out, T2.out, grown_trans GR.out T3.out⟩
  · have hfin : Hid (textOp l e m = ([], l1, e1)) := by show textOp l e m = _; rw [HOP.out, if_neg he1]
    have g1 : ((e1 : Int) != 0) = true := by rw [bne_iff_ne]; omega
    clear he1
    go_wp2
    go_ret
    rw [hfin.out]
    exact ⟨none, 0, rfl, OB.nil_ _, RD.out, GR.out⟩
end Go.Proofs.Ytdiliajpcgfpoaa
