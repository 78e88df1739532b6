/- The walk of a reader's Take. -/
import Derived.Test.YtdiliajpcgfpoaaRdNum
namespace Go.Proofs.Ytdiliajpcgfpoaa
open Go.RowKit

def takeOp (l : List UInt8) (e m : Nat) : List UInt8 × List UInt8 × Nat := if e = 0 then (if l.length < m then ([], l, 3) else (l.take m, l.drop m, 0)) else ([], l, e)

/-- What Take, Text hand back. -/
structure TakeR (w w' : World) (g : Nat) (q : Option Addr) (d : Nat) (r : List UInt8 × List UInt8 × Nat) : Prop where
  ob : OB w' q d r.1
  rd : Rd w' g r.2.1 r.2.2
  grown : w.grownBy w' (some g)

set_option maxHeartbeats 2000000 in
set_option maxRecDepth 100000 in
theorem rdTake (w : World) {g : Nat} {l : List UInt8} {e : Nat} (n : Int) (m : Nat) (hm : max n 0 = (m : Int)) (hl : l.length ≤ 140737488355328) (h : Rd w g l e) :
    Calls Try.prog 20 #[.pointer (some ⟨g, 0, none⟩), .int .i64 n] w fun en w' => ∃ q d, en = .returned (.slice q (takeOp l e m).1.length d) ∧ TakeR w w' g q d (takeOp l e m) := by
  obtain ⟨q, d, c0, c1, f0, f1, ob⟩ := h.cells
  by_cases he : e = 0
  · subst he
    by_cases hlm : l.length < m
    · have hop : takeOp l 0 m = ([], l, 3) := by unfold takeOp; rw [if_pos rfl, if_pos hlm]
      have hfail := rdFail w 3 h
      have hf : failE 0 3 = 3 := rfl
      rw [hf] at hfail
      have HOP := Lib.hid hop
      have HF := Lib.hid hfail
      have g1 : (l.length : Int) < (m : Int) := by omega
      clear hop hfail hf ob h hlm
      go_enter Try.func20, Try.ntmps20
      go_wp2_with fail
      refine HF.out.mono ?_
      rintro en w1 ⟨rfl, hrd, hgr⟩
      obtain ⟨q1, d1, k0, k1, z0, z1, ob1⟩ := hrd.cells
      have RD := Lib.hid hrd
      have GR : Hid (w.grownBy w1 (some g)) := hgr
      clear hrd hgr ob1
      go_wp2
      go_ret
      rw [HOP.out]
      exact ⟨none, 0, rfl, OB.nil_ _, RD.out, GR.out⟩
    · have hop : takeOp l 0 m = (l.take m, l.drop m, 0) := by unfold takeOp; rw [if_pos rfl, if_neg hlm]
      have HOP := Lib.hid hop
      have g1 : ¬ (l.length : Int) < (m : Int) := by omega
      have hcap := ob.cap
      have hmd : m ≤ d := by omega
      have htk : (l.take m).length = m := by rw [List.length_take]; omega
      have hcl := clone w (ob.isB.take m) (by omega)
      rw [htk] at hcl
      have HCL := Lib.hid hcl
      have HT := Lib.hid htk
      have OB0 := Lib.hid ob
      have H := Lib.hid h
      have hlm2 : m ≤ l.length := by omega
      clear hop hcl htk ob h hlm
      go_enter Try.func20, Try.ntmps20
      go_wp2_with fail
      refine HCL.out.mono ?_
      rintro en w1 ⟨v, rfl, hown, hbel⟩
      rw [HT.out] at hown
      obtain ⟨q1, d1, rfl⟩ := own_slice hown
      have hown' : w1.ownsRow w.heap.size 5 1 (.slice q1 (l.take m).length d1) (l.take m).length ((l.take m).map bv) := by rw [HT.out]; exact hown
      have o1 := OB.of_own hown'
      have rd1 := H.out.below hbel
      have od1 := (OB0.out.below hbel).drop m hlm2
      have hlt := H.out.lt
      have k0 := (hbel.cell (p := ⟨g, 0, none⟩) hlt).trans c0
      have k1 := (hbel.cell (p := ⟨g, 1, none⟩) hlt).trans c1
      have z0 := (hbel.frozen (p := ⟨g, 0, none⟩) hlt).trans f0
      have hls : (l.drop m).length = l.length - m := List.length_drop
      have O1 := Lib.hid o1
      have R1 := Lib.hid rd1
      have LS := Lib.hid hls
      have GB : Hid (w.grownBy w1 (some g)) := grown_below hbel
      clear hown hown' hbel o1 rd1 hls
      by_cases hds : d = m
      · rw [if_pos hds] at od1
        have OD := Lib.hid od1
        have e1 : l.length - d = 0 := by omega
        subst hds
        clear od1
        go_wp2
        go_ret
        have hset := R1.out.set_b OD.out
        rw [LS.out, Nat.sub_self, e1] at hset
        rw [HOP.out]
        exact ⟨q1, d1, by dsimp only; rw [HT.out]; rfl, R1.out.bytes O1.out hset.2, hset.1, grown_trans GB.out hset.2⟩
      · rw [if_neg hds] at od1
        have OD := Lib.hid od1
        clear od1
        go_wp2
        go_ret
        have hset := R1.out.set_b OD.out
        rw [LS.out] at hset
        rw [HOP.out]
        exact ⟨q1, d1, by dsimp only; rw [HT.out]; rfl, R1.out.bytes O1.out hset.2, hset.1, grown_trans GB.out hset.2⟩
  · have hop : takeOp l e m = ([], l, e) := by unfold takeOp; rw [if_neg he]
    have HOP := Lib.hid hop
    have H := Lib.hid h
    have g1 : ((e : Int) == 0) = false := by rw [beq_eq_false_iff_ne]; omega
    have g2 : ((e : Int) != 0) = true := by rw [bne_iff_ne]; omega
    clear hop h he ob
    go_enter Try.func20, Try.ntmps20
    go_wp2
    go_ret
    rw [HOP.out]
    exact ⟨none, 0, rfl, OB.nil_ _, H.out, grown_refl _ _⟩
end Go.Proofs.Ytdiliajpcgfpoaa
