/- The walk of a reader's Number. -/
import Derived.Test.YtdiliajpcgfpoaaNumber
namespace Go.Proofs.Ytdiliajpcgfpoaa
open Go.RowKit

def numOp (l : List UInt8) (e : Nat) : Nat × List UInt8 × Nat := if e = 0 then ((dec l).1, l.drop (dec l).2.1, (dec l).2.2) else (0, l, e)
theorem decGo_le : ∀ (l : List UInt8) (acc k : Nat), (decGo acc k l).2.1 ≤ k + l.length
  | [], _, _ => by simp [decGo]
  | c :: r, acc, k => by
    unfold decGo
    split
    · simp
    · split
      · simp
      · have := decGo_le r (acc * 128 + c.toNat % 128) (k + 1)
        rw [List.length_cons]
        omega
theorem dec_le (l : List UInt8) : (dec l).2.1 ≤ l.length := by
  unfold dec
  cases l with
  | nil => simp
  | cons c r =>
    simp only
    split
    · simp
    · have := decGo_le (c :: r) 0 0
      omega

set_option maxHeartbeats 1000000 in
set_option maxRecDepth 100000 in
theorem rdNumber (w : World) {g : Nat} {l : List UInt8} {e : Nat} (h : Rd w g l e) :
    Calls Try.prog 15 #[.pointer (some ⟨g, 0, none⟩)] w fun en w' => en = .returned (.int .u64 ((numOp l e).1 : Int)) ∧ Rd w' g (numOp l e).2.1 (numOp l e).2.2 ∧ w.grownBy w' (some g) := by
  obtain ⟨q, d, c0, c1, f0, f1, ob⟩ := h.cells
  by_cases he : e = 0
  · subst he
    have hop : numOp l 0 = ((dec l).1, l.drop (dec l).2.1, (dec l).2.2) := rfl
    have hnum := number w ob.isB
    have hle := dec_le l
    have hfail := fun e' => rdFail w e' h
    obtain ⟨n, s, e', hdec⟩ : ∃ n s e', dec l = (n, s, e') := ⟨_, _, _, rfl⟩
    rw [hdec] at hop hnum hle
    dsimp only at hop hnum hle
    have hf0 : failE 0 e' = e' := rfl
    have HOP := Lib.hid hop
    have HNUM := Lib.hid hnum
    have HFAIL := Lib.hid (hfail e')
    clear hop hnum hdec hfail ob h
    go_enter Try.func15, Try.ntmps15
    go_wp2_with fail
    refine HNUM.out.mono ?_
    rintro en w' ⟨rfl, rfl⟩
    go_wp2_with fail
    refine HFAIL.out.mono ?_
    rintro en w1 ⟨rfl, hrd, hgr⟩
    rw [hf0] at hrd
    obtain ⟨q1, d1, k0, k1, z0, z1, ob1⟩ := hrd.cells
    have hd := ob1.drop s hle
    have hcap := ob1.cap
    have RD := Lib.hid hrd
    have GR : Hid (w.grownBy w1 (some g)) := hgr
    have hls : (l.drop s).length = l.length - s := List.length_drop
    by_cases hds : d1 = s
    · rw [if_pos hds] at hd
      have OB1 := Lib.hid hd
      have LS := Lib.hid hls
      subst hds
      clear hrd hgr ob1 hd c0 c1 f0 f1 hf0 hls
      go_wp2
      go_ret
      have hset := RD.out.set_b OB1.out
      rw [LS.out] at hset
      rw [HOP.out]
      have e0 : d1 - d1 = 0 := Nat.sub_self _
      have e1 : l.length - d1 = 0 := by omega
      rw [e0, e1] at hset
      exact ⟨rfl, hset.1, grown_trans GR.out hset.2⟩
    · rw [if_neg hds] at hd
      have OB1 := Lib.hid hd
      have LS := Lib.hid hls
      clear hrd hgr ob1 hd c0 c1 f0 f1 hf0 hls
      go_wp2
      go_ret
      have hset := RD.out.set_b OB1.out
      rw [LS.out] at hset
      rw [HOP.out]
      exact ⟨rfl, hset.1, grown_trans GR.out hset.2⟩
  · have hop : numOp l e = (0, l, e) := by unfold numOp; rw [if_neg he]
    have HOP := Lib.hid hop
    have H := Lib.hid h
    have g1 : ((e : Int) == 0) = false := by rw [beq_eq_false_iff_ne]; omega
    have g2 : ((e : Int) != 0) = true := by rw [bne_iff_ne]; omega
    clear hop h he
    go_enter Try.func15, Try.ntmps15
    go_wp2
    go_ret
    exact ⟨by rw [HOP.out]; rfl, by rw [HOP.out]; exact H.out, grown_refl _ _⟩
end Go.Proofs.Ytdiliajpcgfpoaa
