/- The walk of Count. -/
import Derived.Test.YtgbdoccgdkifjaaDoorQuRefB
namespace Go.Proofs.YtgbdoccgdkifjaaDoor
open Go.RowKit
set_option linter.unusedVariables false

/-- The state of a range over a string: the iterator. -/
structure It (W : World) (k : Nat) (s : ByteArray) (pos : Nat) (w : World) : Prop where
  it : w.heap[k]? = some (.stringIter s pos)
  ge : W.heap.size ≤ k
  below : Below W.heap.size W w
theorem It.next {W : World} {k : Nat} {s : ByteArray} {pos : Nat} {w : World} (h : It W k s pos w) (pos' : Nat) : It W k s pos' (w.iterAt k s pos') :=
  ⟨Lib.iterAt_heap w k s pos pos' h.it, h.ge, Lib.below_iterAt h.below h.ge s pos'⟩
theorem It.quiet {W : World} {k : Nat} {s : ByteArray} {pos : Nat} {w w' : World} (h : It W k s pos w) (hb : Below w.heap.size w w') : It W k s pos w' :=
  ⟨(hb.block k (row_ltB h.it)).trans h.it, h.ge, h.below.trans (hb.mono h.below.size)⟩
theorem It.pos {W : World} {k : Nat} {s : ByteArray} {pos : Nat} {w : World} (h : It W k s pos w) : w.iterPos k = pos := by
  unfold World.iterPos
  rw [h.it]
theorem It.start (W : World) (s : ByteArray) : It W W.heap.size s 0 (W.iter s 0) := ⟨World.iter_heap _ _ _, Nat.le_refl _, (Below.refl _ W).alloc (Nat.le_refl _) _⟩

set_option maxHeartbeats 2000000 in
set_option maxRecDepth 100000 in
theorem countW (w : World) {p : Option Addr} {c : Nat} {l : List UInt8} (h : IsB w p c l) (hl : l.length ≤ 1000) (hT : Lib.Utf8Tabs 0 1 w) :
    Calls Tryd.prog 12 #[.slice p l.length c] w fun e w' => e = .returned (.tuple #[.int .i64 (((cnt l).1 : Nat) : Int), .int .i64 (((cnt l).2 : Nat) : Int)]) ∧ Below w.heap.size w w' := by
  have kb := conv_of h
  have HT := Lib.hid hT
  have P1 := Lib.hid (It.start w (str l))
  clear h hT
  go_enter Tryd.func12, Tryd.ntmps12
  go_wp2
  go_loopw [4, 5, 7, 8] (fun v4 v5 _ _ wr => ∃ (pos a b : Nat), v4 = .int .i64 a ∧ v5 = .int .i64 b ∧ pos ≤ l.length ∧ a ≤ pos ∧ b ≤ pos ∧ Hid (a + (cnt (l.drop pos)).1 = (cnt l).1 ∧ b + (cnt (l.drop pos)).2 = (cnt l).2) ∧ It w w.heap.size (str l) pos wr)
    (fun _ _ _ _ wr => l.length - wr.iterPos w.heap.size)
  case atStart => exact ⟨0, 0, 0, rfl, rfl, Nat.zero_le _, Nat.zero_le _, Nat.zero_le _, ⟨Nat.zero_add _, Nat.zero_add _⟩, P1.out⟩
  case round =>
    obtain ⟨pos, a, b, rfl, rfl, hpos, ha, hb, HA, hp⟩ := hrel
    by_cases h1 : pos < l.length
    · obtain ⟨m, hm⟩ : ∃ m, m = l.drop pos := ⟨_, rfl⟩
      have hml : m.length = l.length - pos := by rw [hm, List.length_drop]
      have hm0 : 0 < m.length := by omega
      have hstp := stp_le m hm0
      have hstp1 := stp_pos m
      have hdrop : m.drop (stp m) = l.drop (pos + stp m) := by rw [hm, List.drop_drop]
      have hcs := cnt_step m hm0
      rw [hdrop] at hcs
      rw [← hm] at HA
      have hdec : Utf8.decode (str l) pos = dec m := by rw [decode_dec, str_data, hm]
      have hnx := fun ty => Lib.run_next_any_at (P := Tryd.prog) wr w.heap.size (str l) pos ty hp.it (by rw [str_size]; exact h1)
      rw [hdec] at hnx
      have hex : ((str l).extract pos (str l).size).data.toList = m := by rw [Lib.extract_to_end, str_data, hm]
      have hexs : 0 < ((str l).extract pos (str l).size).size := by
        have : ((str l).extract pos (str l).size).size = m.length := by rw [← hex]; simp
        omega
      have gpos : (pos : Int) < ((str l).size : Int) := by rw [str_size]; omega
      have HSTR : Hid (∀ W, Below w.heap.size w W → Lib.Utf8Tabs 0 1 W) := fun W hW => Utf8Tabs_below HT.out hW
      have HPOS := Lib.hid hp.pos
      have hsn := dec_snd m
      obtain ⟨⟨r, n⟩, hd⟩ : ∃ q, dec m = q := ⟨_, rfl⟩
      have hsi := stray_iff m
      rw [hd] at hnx hsn hsi
      dsimp only at hnx hsn hsi
      subst hsn
      have hpn2 := hp.next (pos + stp m)
      obtain ⟨wI, hwI⟩ : ∃ x, x = wr.iterAt w.heap.size (str l) (pos + stp m) := ⟨_, rfl⟩
      rw [← hwI] at hpn2 hnx
      have PI := Lib.hid hpn2
      by_cases hw : wid m = 0
      · obtain ⟨rfl, hs1⟩ := hsi.2 hw
        rw [if_pos hw] at hcs
        have HCS := Lib.hid hcs
        have HST := Lib.hid (strayYes wI _ hexs (HSTR.out wI PI.out.below) (by rw [hex]; exact hw))
        obtain ⟨n, hn⟩ : ∃ n, n = stp m := ⟨_, rfl⟩
        rw [← hn] at PI HCS hstp hstp1
        clear hp hcs hdrop hdec hex hexs hd hsi hpn2 hwI hw hs1 P1 hn hm
        go_wp2_with fail
        refine HST.out.mono ?_
        rintro e w2 ⟨rfl, hb2⟩
        have P2 := Lib.hid (PI.out.quiet hb2)
        clear hb2
        go_wp2
        go_roundw
        case rel => exact ⟨pos + n, a, b + 1, rfl, by go_num, by omega, by omega, by omega, by show _ ∧ _; have := HA.out; rw [HCS.out] at this; dsimp only at this; omega, P2.out⟩
        case measure => rw [P2.out.pos, HPOS.out]; omega
      · rw [if_neg hw] at hcs
        have HCS := Lib.hid hcs
        have HST := Lib.hid (strayNo wI _ hexs (HSTR.out wI PI.out.below) (by rw [hex]; exact hw))
        obtain ⟨n, hn⟩ : ∃ n, n = stp m := ⟨_, rfl⟩
        rw [← hn] at PI HCS hstp hstp1
        clear hp hcs hdrop hdec hex hexs hd hsi hpn2 hwI hw P1 hn hm
        by_cases hr : r = 65533
        · subst hr
          go_wp2_with fail
          refine HST.out.mono ?_
          rintro e w2 ⟨rfl, hb2⟩
          have P2 := Lib.hid (PI.out.quiet hb2)
          clear hb2
          go_wp2
          go_roundw
          case rel => exact ⟨pos + n, a + 1, b, by go_num, rfl, by omega, by omega, by omega, by show _ ∧ _; have := HA.out; rw [HCS.out] at this; dsimp only at this; omega, P2.out⟩
          case measure => rw [P2.out.pos, HPOS.out]; omega
        · have q0 : ((r : Int) == 65533) = false := by simp; omega
          go_wp2
          go_roundw
          case rel => exact ⟨pos + n, a + 1, b, by go_num, rfl, by omega, by omega, by omega, by show _ ∧ _; have := HA.out; rw [HCS.out] at this; dsimp only at this; omega, PI.out⟩
          case measure => rw [PI.out.pos, HPOS.out]; omega
    · have HP := Lib.hid hp
      have kn := fun ty => Lib.run_next_end_at (P := Tryd.prog) wr w.heap.size (str l) pos ty hp.it (by rw [str_size]; omega)
      have hq : a = (cnt l).1 ∧ b = (cnt l).2 := by
        have := HA.out
        rw [List.drop_of_length_le (by omega)] at this
        exact this
      have HQ := Lib.hid hq
      clear hp hq
      go_wp2
      go_ret2
      rw [← HQ.out.1, ← HQ.out.2]
      exact ⟨rfl, HP.out.below⟩
end Go.Proofs.YtgbdoccgdkifjaaDoor
