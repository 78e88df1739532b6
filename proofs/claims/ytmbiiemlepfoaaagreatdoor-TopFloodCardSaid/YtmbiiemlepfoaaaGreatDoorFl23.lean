/- The walk of Print. Small laws on strings and their bytes, worlds, a range over a string: for seats that do not reach the quote laws' reference. The walk of number. The walk of escape. -/
import Derived.Test.YtmbiiemlepfoaaaGreatDoorFl22
import Derived.Test.YtmbiiemlepfoaaaGreatDoorFl01
import Derived.Lib.IndexBytes

namespace Go.Proofs.YtmbiiemlepfoaaaGreatDoor
open Go.RowKit
set_option linter.unusedVariables false
theorem conv_ofq {w : World} {p : Option Addr} {c : Nat} {l : List UInt8} (h : IsB w p c l) : (Go.convert 22 9 (.slice p l.length c)).run Tryz.prog w = .ok (.string (str l)) w :=
  h.convert (P := Tryz.prog) Tryz.underlying22 Tryz.underlying5 Tryz.underlying9
theorem Bd.iterAt {B b : Nat} {l : List UInt8} {w : World} (h : Bd B b l w) {k : Nat} {s : ByteArray} {pos : Nat} (hk : w.heap[k]? = some (.stringIter s pos)) (pos' : Nat) : Bd B b l (w.iterAt k s pos') := by
  have key : ∀ p, Lib.BuilderAt 178 5 B b p (l.map bv) w → Lib.BuilderAt 178 5 B b p (l.map bv) (w.iterAt k s pos') := by
    rintro p ⟨hB, v, hb, hown, hne⟩
    have hkb : b ≠ k := by
      intro e
      rw [e, hk] at hb
      cases hb
    refine ⟨hB, v, (Lib.iterAt_other w k b s pos' hkb).trans hb, ⟨hown.1, ?_⟩, hne⟩
    rcases hown.2 with hn | ⟨g, cap, cur, hv, hbg, hg, rest⟩
    · exact .inl hn
    · have hkg : g ≠ k := by
        intro e
        rw [e, hk] at hg
        cases hg
      exact .inr ⟨g, cap, cur, hv, hbg, (Lib.iterAt_other w k g s pos' hkg).trans hg, rest⟩
  exact h.elim (fun x => .inl (key _ x)) (fun x => .inr (key _ x))
theorem Bd.below {B b : Nat} {l : List UInt8} {w w' : World} (h : Bd B b l w) (hb : Below w.heap.size w w') : Bd B b l w' := by
  have key : ∀ p, Lib.BuilderAt 178 5 B b p (l.map bv) w → Lib.BuilderAt 178 5 B b p (l.map bv) w' := by
    rintro p ⟨hB, v, hbk, hown, hne⟩
    refine ⟨hB, v, (hb.block b (row_ltB hbk)).trans hbk, ⟨hown.1, ?_⟩, hne⟩
    rcases hown.2 with hn | ⟨g, cap, cur, hv, hbg, hg, rest⟩
    · exact .inl hn
    · exact .inr ⟨g, cap, cur, hv, hbg, (hb.block g (row_ltB hg)).trans hg, rest⟩
  exact h.elim (fun x => .inl (key _ x)) (fun x => .inr (key _ x))
structure Pr (W : World) (b k : Nat) (s : ByteArray) (pos : Nat) (acc : List UInt8) (w : World) : Prop where
  bd : Bd W.heap.size b acc w
  it : w.heap[k]? = some (.stringIter s pos)
  ne : k ≠ b
  ge : W.heap.size ≤ k
  below : Below W.heap.size W w
theorem Pr.next {W : World} {b k : Nat} {s : ByteArray} {pos : Nat} {acc : List UInt8} {w : World} (h : Pr W b k s pos acc w) (pos' : Nat) : Pr W b k s pos' acc (w.iterAt k s pos') :=
  ⟨h.bd.iterAt h.it pos', Lib.iterAt_heap w k s pos pos' h.it, h.ne, h.ge, Lib.below_iterAt h.below h.ge s pos'⟩
theorem Pr.wrote {W : World} {b k : Nat} {s : ByteArray} {pos : Nat} {acc acc' : List UInt8} {w w' : World} (h : Pr W b k s pos acc w) (hw : Wrote w w' W.heap.size b acc') : Pr W b k s pos acc' w' :=
  ⟨hw.bd, hw.others.iter h.it h.ne, h.ne, h.ge, h.below.trans hw.below⟩
theorem Pr.quiet {W : World} {b k : Nat} {s : ByteArray} {pos : Nat} {acc : List UInt8} {w w' : World} (h : Pr W b k s pos acc w) (hb : Below w.heap.size w w') : Pr W b k s pos acc w' :=
  ⟨h.bd.below hb, (hb.block k (row_ltB h.it)).trans h.it, h.ne, h.ge, h.below.trans (hb.mono h.below.size)⟩
theorem Pr.pos {W : World} {b k : Nat} {s : ByteArray} {pos : Nat} {acc : List UInt8} {w : World} (h : Pr W b k s pos acc w) : w.iterPos k = pos := by
  unfold World.iterPos
  rw [h.it]
theorem Pr.size {W : World} {b k : Nat} {s : ByteArray} {pos : Nat} {acc : List UInt8} {w : World} (h : Pr W b k s pos acc w) : W.heap.size ≤ w.heap.size := h.below.size
theorem wRuneZ (w : World) {B b : Nat} {l : List UInt8} (h : Bd B b l w) (z : Int) (r : Nat) (hz : (r : Int) = z) (m : List UInt8) (hr : r ≤ 1114111) (hm : Lib.runeCells z = m.map bv) (hl : l.length ≤ 1000000) (hB : B ≤ w.heap.size) :
    Calls Tryz.prog 277 #[.pointer (some ⟨b, 0, none⟩), .int .i32 z] w fun e w' => (∃ k : Int, e = .returned (.tuple #[.int .i64 k, .nilIface])) ∧ Wrote w w' B b (l ++ m) := by
  subst hz
  exact wRune w h r m hr hm hl hB
theorem index_str (W : World) (l : List UInt8) (pos : Nat) (h : pos < l.length) : (Instr.index 9 (.string (str l)) (.int .i64 (pos : Int))).run Tryz.prog W = .ok (.int .u8 ((bA l pos : Nat) : Int)) W := by
  have h2 : (pos : Int) < ((str l).size : Int) := by rw [str_size]; omega
  rw [run_index_string W _ _ _ _ Tryz.underlying9, dif_pos ⟨by omega, h2⟩]
  congr 2
  have e : (bA l pos : Nat) = (l[pos]'h).toNat := by unfold bA; rw [List.getD_eq_getElem?_getD, List.getElem?_eq_getElem h]; rfl
  rw [e]
  rfl
theorem hex2 (w : World) {B b : Nat} {l : List UInt8} (h : Bd B b l w) (n : Nat) (hn : n < 65536) (hl : l.length ≤ 900000) (hB : B ≤ w.heap.size) :
    Calls Tryz.prog 276 #[.pointer (some ⟨b, 0, none⟩), .int .u32 (n : Int), .int .i64 2] w fun e w' => e = .returned (.tuple #[]) ∧ Wrote w w' B b (l ++ hx n 2) := hexW w h n 2 hn (by decide) hl hB
theorem hex4 (w : World) {B b : Nat} {l : List UInt8} (h : Bd B b l w) (n : Nat) (hn : n < 65536) (hl : l.length ≤ 900000) (hB : B ≤ w.heap.size) :
    Calls Tryz.prog 276 #[.pointer (some ⟨b, 0, none⟩), .int .u32 (n : Int), .int .i64 4] w fun e w' => e = .returned (.tuple #[]) ∧ Wrote w w' B b (l ++ hx n 4) := hexW w h n 4 hn (by decide) hl hB
set_option maxHeartbeats 4000000 in
set_option maxRecDepth 100000 in
theorem printW (w : World) {p : Option Addr} {c : Nat} {l : List UInt8} (h : IsB w p c l) (hl : l.length ≤ 2000) (hT : Lib.Utf8Tabs 3 4 w) :
    Calls Tryz.prog 232 #[.slice p l.length c] w fun e w' => e = .returned (.string (str (qt l))) ∧ Below w.heap.size w w' := by
  have H := Lib.hid h
  have HT := Lib.hid hT
  clear h hT
  go_enter Tryz.func232, Tryz.ntmps232
  go_wp2_with fail
  refine (wByte _ (B := w.heap.size) (b := w.heap.size) (l := []) (Lib.fresh_isBuilder _ _ w) 34 (by simp) (by simp)).mono ?_
  rintro e w1 ⟨rfl, hw1⟩
  have hb1 : Below w.heap.size w w1 := ((Below.refl _ w).alloc (Nat.le_refl _) _).trans hw1.below
  have kb := conv_ofq (H.out.below hb1)
  have P1 : Hid (Pr w w.heap.size w1.heap.size (str l) 0 [34] (w1.iter (str l) 0)) := by
    have hz := hb1.size
    have hlt := hw1.bd.lt
    refine ⟨hw1.bd.below ((Below.refl _ _).alloc (Nat.le_refl _) _), World.iter_heap _ _ _, by omega, hz, hb1.alloc hz _⟩
  have hne : w1.heap.size ≠ w.heap.size := by have := hw1.bd.lt; omega
  clear hw1 hb1
  go_wp2
  go_loopw [5, 6] (fun _ _ wr => ∃ (pos : Nat) (acc : List UInt8), pos ≤ l.length ∧ acc.length ≤ 1 + 6 * pos ∧ Hid (acc ++ body (l.drop pos) = 34 :: body l) ∧ Pr w w.heap.size w1.heap.size (str l) pos acc wr)
    (fun _ _ wr => l.length - wr.iterPos w1.heap.size)
  case atStart => exact ⟨0, [34], Nat.zero_le _, by simp, rfl, P1.out⟩
  case round =>
    obtain ⟨pos, acc, hpos, hacc, HA, hp⟩ := hrel
    by_cases h1 : pos < l.length
    · obtain ⟨m, hm⟩ : ∃ m, m = l.drop pos := ⟨_, rfl⟩
      have hml : m.length = l.length - pos := by rw [hm, List.length_drop]
      have hm0 : 0 < m.length := by omega
      have hstep := body_step m hm0
      have hstp := stp_le m hm0
      have hstp1 := stp_pos m
      have hdrop : m.drop (stp m) = l.drop (pos + stp m) := by rw [hm, List.drop_drop]
      rw [hdrop] at hstep
      rw [← hm, hstep] at HA
      have hdec : Utf8.decode (str l) pos = decq m := by rw [decode_dec, str_data, hm]
      have hnx := fun ty => Lib.run_next_any_at (P := Tryz.prog) wr w1.heap.size (str l) pos ty hp.it (by rw [str_size]; exact h1)
      rw [hdec] at hnx
      have hpn := fun pos' => hp.next pos'
      have hex : ((str l).extract pos (str l).size).data.toList = m := by rw [Lib.extract_to_end, str_data, hm]
      have hexs : 0 < ((str l).extract pos (str l).size).size := by
        have : ((str l).extract pos (str l).size).size = m.length := by rw [← hex]; simp
        omega
      have hb0 : (bA m 0 : Nat) = bA l pos := by rw [hm, bA_drop, Nat.add_zero]
      have gpos : (pos : Int) < ((str l).size : Int) := by rw [str_size]; omega
      have HSTR : Hid (∀ W, Below w.heap.size w W → Lib.Utf8Tabs 3 4 W) := fun W hW => Utf8Tabs_below HT.out hW
      have HPOS := Lib.hid hp.pos
      clear hstep hdrop hdec P1 HT hm hp
      rcases kind m hm0 with ⟨hw, hd, ho, hs⟩ | ⟨r, hw, hd, hr, ho, hs⟩ | ⟨r, hw, hd, hr, hr2, hb, hmx, ho, hc⟩ | ⟨r, hw, hd, hb, ho⟩
      · as_aux_lemma =>
          rw [hd] at hnx
          dsimp only at hnx
          rw [ho, hs] at HA
          have hix : ∀ W, (Instr.index 9 (.string (str l)) (.int .i64 (pos : Int))).run Tryz.prog W = .ok (.int .u8 ((bA m 0 : Nat) : Int)) W := fun W => by
            rw [index_str W l pos h1, hb0]
          have hb256 := bA_lt m 0
          have hpn2 := hpn (pos + 1)
          have HST := fun W (hW : Below w.heap.size w W) => strayYes W _ hexs (HSTR.out W hW) (by rw [hex]; exact hw)
          have HST := Lib.hid HST
          have HB0 := Lib.hid hb0
          have hc2 : hx (bA m 0) 2 = [dig (bA m 0 / 16), dig (bA m 0 % 16)] := by
            show [dig (bA m 0 / 16 ^ 1 % 16), dig (bA m 0 / 16 ^ 0 % 16)] = _
            rw [show bA m 0 / 16 ^ 1 % 16 = bA m 0 / 16 from by omega, show bA m 0 / 16 ^ 0 % 16 = bA m 0 % 16 from by omega]
          have HC2 := Lib.hid hc2
          obtain ⟨c0, hc0⟩ : ∃ c0, c0 = bA m 0 := ⟨_, rfl⟩
          rw [← hc0] at hix hb256 HC2 HA
          clear hpn hex hexs hb0 hw hd ho hs hc2 hc0
          obtain ⟨wI, hwI⟩ : ∃ x, x = wr.iterAt w1.heap.size (str l) (pos + 1) := ⟨_, rfl⟩
          rw [← hwI] at hpn2 hnx
          have PI := Lib.hid hpn2
          clear hpn2 hwI
          go_wp2_with fail
          refine (HST.out _ PI.out.below).mono ?_
          rintro e w2 ⟨rfl, hb2⟩
          have P2 := Lib.hid (PI.out.quiet hb2)
          clear hb2
          go_wp2_with fail
          refine (wStr w2 P2.out.bd ⟨#[92, 120]⟩ (by omega) (by decide) P2.out.size).mono ?_
          rintro e w3 ⟨rfl, hw3⟩
          have P3 := Lib.hid (P2.out.wrote hw3)
          clear hw3
          go_wp2_with fail
          ((with_reducible refine (hex2 w3 P3.out.bd c0 (by omega) (by rw [List.length_append]; simp; omega) P3.out.size).mono ?_))
          rintro e w4 ⟨rfl, hw4⟩
          rw [HC2.out] at hw4
          have P4 := Lib.hid (P3.out.wrote hw4)
          clear hw4
          go_wp2
          go_roundw
          case rel => exact ⟨pos + 1, _, by omega, by simp; omega, by show _ = _; rw [← HA.out]; simp, P4.out⟩
          case measure => rw [P4.out.pos, HPOS.out]; omega
      · as_aux_lemma =>
          rw [hd] at hnx
          dsimp only at hnx
          rw [ho, hs] at HA
          have hpn2 := hpn (pos + 1)
          obtain ⟨wI, hwI⟩ : ∃ x, x = wr.iterAt w1.heap.size (str l) (pos + 1) := ⟨_, rfl⟩
          rw [← hwI] at hpn2 hnx
          have PI := Lib.hid hpn2
          clear hpn hex hexs hb0 hw hd ho hs hpn2 hwI
          rcases hr with rfl | rfl
          · go_wp2_with fail
            refine (wByte wI PI.out.bd 92 (by omega) PI.out.size).mono ?_
            rintro e w2 ⟨rfl, hw2⟩
            have P2 := Lib.hid (PI.out.wrote hw2)
            clear hw2
            go_wp2_with fail
            ((with_reducible refine (wRuneZ w2 P2.out.bd 34 34 rfl [34] (by omega) rfl (by rw [List.length_append]; simp; omega) P2.out.size).mono ?_))
            rintro e w3 ⟨⟨k, rfl⟩, hw3⟩
            have P3 := Lib.hid (P2.out.wrote hw3)
            clear hw3
            go_wp2
            go_roundw
            case rel => exact ⟨pos + 1, _, by omega, by simp; omega, by show _ = _; rw [← HA.out]; simp, P3.out⟩
            case measure => rw [P3.out.pos, HPOS.out]; omega
          · go_wp2_with fail
            refine (wByte wI PI.out.bd 92 (by omega) PI.out.size).mono ?_
            rintro e w2 ⟨rfl, hw2⟩
            have P2 := Lib.hid (PI.out.wrote hw2)
            clear hw2
            go_wp2_with fail
            ((with_reducible refine (wRuneZ w2 P2.out.bd 92 92 rfl [92] (by omega) rfl (by rw [List.length_append]; simp; omega) P2.out.size).mono ?_))
            rintro e w3 ⟨⟨k, rfl⟩, hw3⟩
            have P3 := Lib.hid (P2.out.wrote hw3)
            clear hw3
            go_wp2
            go_roundw
            case rel => exact ⟨pos + 1, _, by omega, by simp; omega, by show _ = _; rw [← HA.out]; simp, P3.out⟩
            case measure => rw [P3.out.pos, HPOS.out]; omega
      · as_aux_lemma =>
          rw [hd] at hnx
          dsimp only at hnx
          rw [ho] at HA
          have hpn2 := hpn (pos + stp m)
          obtain ⟨wI, hwI⟩ : ∃ x, x = wr.iterAt w1.heap.size (str l) (pos + stp m) := ⟨_, rfl⟩
          rw [← hwI] at hpn2 hnx
          have PI := Lib.hid hpn2
          have HST := Lib.hid (fun W (hW : Below w.heap.size w W) => strayNo W _ hexs (HSTR.out W hW) (by rw [hex]; exact hw))
          have htl : (m.take (stp m)).length ≤ 4 := by
            have := Lib.runeCells_le (r : Int)
            rw [hc, List.length_map] at this
            exact this.2
          have htl6 : (m.take (stp m)).length ≤ 6 * stp m := by rw [List.length_take]; omega
          have HC := Lib.hid hc
          have q1 : ((r : Int) == 34) = false := by simp; omega
          have q2 : ((r : Int) == 92) = false := by simp; omega
          have q3 : (32 : Int) ≤ (r : Int) := by omega
          obtain ⟨t, ht⟩ : ∃ t, t = m.take (stp m) := ⟨_, rfl⟩
          rw [← ht] at HA htl htl6 HC
          obtain ⟨n, hn⟩ : ∃ n, n = stp m := ⟨_, rfl⟩
          rw [← hn] at PI htl6 hstp hstp1 HA
          clear hpn hex hexs hb0 hw hd ho hpn2 hwI hc hr hr2 ht hn
          by_cases hrr : r = 65533
          · subst hrr
            have HC65 : Lib.runeCells 65533 = t.map bv := HC.out
            go_wp2_with fail
            refine (HST.out _ PI.out.below).mono ?_
            rintro e w2 ⟨rfl, hb2⟩
            have P2 := Lib.hid (PI.out.quiet hb2)
            clear hb2 q1 q2 q3
            go_wp2_with fail
            ((with_reducible refine (wRuneZ w2 P2.out.bd 65533 65533 rfl t (by omega) HC65 (by omega) P2.out.size).mono ?_))
            rintro e w3 ⟨⟨k, rfl⟩, hw3⟩
            have P3 := Lib.hid (P2.out.wrote hw3)
            clear hw3
            go_wp2
            go_roundw
            case rel => exact ⟨pos + n, _, by omega, by rw [List.length_append]; omega, by show _ = _; rw [← HA.out]; simp, P3.out⟩
            case measure => rw [P3.out.pos, HPOS.out]; omega
          · have q0 : ((r : Int) == 65533) = false := by simp; omega
            by_cases h126 : r ≤ 126
            · have q4 : (r : Int) ≤ 126 := by omega
              go_wp2_with fail
              ((with_reducible refine (wRune wI PI.out.bd r t (by omega) HC.out (by omega) PI.out.size).mono ?_))
              rintro e w3 ⟨⟨k, rfl⟩, hw3⟩
              have P3 := Lib.hid (PI.out.wrote hw3)
              clear hw3
              go_wp2
              go_roundw
              case rel => exact ⟨pos + n, _, by omega, by rw [List.length_append]; omega, by show _ = _; rw [← HA.out]; simp, P3.out⟩
              case measure => rw [P3.out.pos, HPOS.out]; omega
            · have q4 : ¬ (r : Int) ≤ 126 := by omega
              have q5 : (160 : Int) ≤ (r : Int) := by omega
              go_wp2_with fail
              ((with_reducible refine (wRune wI PI.out.bd r t (by omega) HC.out (by omega) PI.out.size).mono ?_))
              rintro e w3 ⟨⟨k, rfl⟩, hw3⟩
              have P3 := Lib.hid (PI.out.wrote hw3)
              clear hw3
              go_wp2
              go_roundw
              case rel => exact ⟨pos + n, _, by omega, by rw [List.length_append]; omega, by show _ = _; rw [← HA.out]; simp, P3.out⟩
              case measure => rw [P3.out.pos, HPOS.out]; omega
      · as_aux_lemma =>
          rw [hd] at hnx
          dsimp only at hnx
          rw [ho] at HA
          have hpn2 := hpn (pos + stp m)
          obtain ⟨wI, hwI⟩ : ∃ x, x = wr.iterAt w1.heap.size (str l) (pos + stp m) := ⟨_, rfl⟩
          rw [← hwI] at hpn2 hnx
          have PI := Lib.hid hpn2
          obtain ⟨n, hn⟩ : ∃ n, n = stp m := ⟨_, rfl⟩
          rw [← hn] at PI hstp hstp1 HA
          have hc4 : hx r 4 = [48, 48, dig (r / 16), dig (r % 16)] := by
            show [dig (r / 16 ^ 3 % 16), dig (r / 16 ^ 2 % 16), dig (r / 16 ^ 1 % 16), dig (r / 16 ^ 0 % 16)] = _
            rw [show r / 16 ^ 3 % 16 = 0 from by omega, show r / 16 ^ 2 % 16 = 0 from by omega, show r / 16 ^ 1 % 16 = r / 16 from by omega, show r / 16 ^ 0 % 16 = r % 16 from by omega]
            rfl
          have HC4 := Lib.hid hc4
          have q0 : ((r : Int) == 65533) = false := by simp; omega
          have q1 : ((r : Int) == 34) = false := by simp; omega
          have q2 : ((r : Int) == 92) = false := by simp; omega
          have q6 : (r : Int) < 160 := by omega
          clear hpn hex hexs hb0 hw hd ho hpn2 hwI hn hc4
          by_cases h32 : r < 32
          · have q3 : (r : Int) < 32 := by omega
            go_wp2_with fail
            refine (wStr wI PI.out.bd ⟨#[92, 117]⟩ (by omega) (by decide) PI.out.size).mono ?_
            rintro e w3 ⟨rfl, hw3⟩
            have P3 := Lib.hid (PI.out.wrote hw3)
            clear hw3
            go_wp2_with fail
            ((with_reducible refine (hex4 w3 P3.out.bd r (by omega) (by rw [List.length_append]; simp; omega) P3.out.size).mono ?_))
            rintro e w4 ⟨rfl, hw4⟩
            rw [HC4.out] at hw4
            have P4 := Lib.hid (P3.out.wrote hw4)
            clear hw4
            go_wp2
            go_roundw
            case rel => exact ⟨pos + n, _, by omega, by simp; omega, by show _ = _; rw [← HA.out]; simp, P4.out⟩
            case measure => rw [P4.out.pos, HPOS.out]; omega
          · have q3 : ¬ (r : Int) < 32 := by omega
            have q4 : ¬ (r : Int) ≤ 126 := by omega
            go_wp2_with fail
            refine (wStr wI PI.out.bd ⟨#[92, 117]⟩ (by omega) (by decide) PI.out.size).mono ?_
            rintro e w3 ⟨rfl, hw3⟩
            have P3 := Lib.hid (PI.out.wrote hw3)
            clear hw3
            go_wp2_with fail
            ((with_reducible refine (hex4 w3 P3.out.bd r (by omega) (by rw [List.length_append]; simp; omega) P3.out.size).mono ?_))
            rintro e w4 ⟨rfl, hw4⟩
            rw [HC4.out] at hw4
            have P4 := Lib.hid (P3.out.wrote hw4)
            clear hw4
            go_wp2
            go_roundw
            case rel => exact ⟨pos + n, _, by omega, by simp; omega, by show _ = _; rw [← HA.out]; simp, P4.out⟩
            case measure => rw [P4.out.pos, HPOS.out]; omega
    · have HP := Lib.hid hp
      have kn := fun ty => Lib.run_next_end_at (P := Tryz.prog) wr w1.heap.size (str l) pos ty hp.it (by rw [str_size]; omega)
      have hacc2 : acc = 34 :: body l := by
        have := HA.out
        rw [List.drop_of_length_le (by omega), body_nil, List.append_nil] at this
        exact this
      have HC := Lib.hid hacc2
      clear hp hacc2
      go_wp2_with fail
      refine (wByte wr HP.out.bd 34 (by omega) HP.out.size).mono ?_
      rintro e w2 ⟨rfl, hw2⟩
      have P2 := Lib.hid (HP.out.wrote hw2)
      clear hw2
      go_wp2_with fail
      refine (Tryz.Builder_String_any w.heap.size w.heap.size (acc ++ [34]) w2 P2.out.bd P2.out.size).mono ?_
      rintro e w3 ⟨rfl, hb3⟩
      have B3 : Hid (Below w.heap.size w w3) := P2.out.below.trans hb3
      have hq : (⟨(acc ++ [34]).toArray⟩ : ByteArray) = str (qt l) := by rw [HC.out]; rfl
      rw [hq]
      clear hb3 hq
      go_wp2
      go_ret
      exact ⟨rfl, B3.out⟩
theorem str_ofq (s : ByteArray) : str s.data.toList = s := by
  obtain ⟨⟨l⟩⟩ := s
  rfl
theorem index_s (W : World) (s : ByteArray) (pos : Nat) (z : Int) (hz : z = (pos : Int)) (h : pos < s.size) : (Instr.index 9 (.string s) (.int .i64 z)).run Tryz.prog W = .ok (.int .u8 ((bA s.data.toList pos : Nat) : Int)) W := by
  subst hz
  have := index_str W s.data.toList pos (by simpa using h)
  rwa [str_ofq] at this
set_option maxRecDepth 100000 in
theorem conv_one (W : World) (x : UInt8) : (Go.convert 22 9 (.slice (some ⟨W.heap.size, 0, none⟩) 1 1)).run Tryz.prog (W.alloc (.cells #[.int .u8 (x.toNat : Int)] 5)) = .ok (.string (str [x])) (W.alloc (.cells #[.int .u8 (x.toNat : Int)] 5)) :=
  conv_ofq (IsB.lit W [x] 5 (0, 0) (by show 1 ≤ maxLen; unfold maxLen; decide))
theorem below_onq {B : Nat} {w w1 w2 : World} (h : Below B w w1) (h' : Below w1.heap.size w1 w2) (hB : B ≤ w.heap.size) : Below B w w2 :=
  h.trans (h'.mono (Nat.le_trans hB h.size))
structure It (W : World) (k : Nat) (s : ByteArray) (pos : Nat) (w : World) : Prop where
  it : w.heap[k]? = some (.stringIter s pos)
  ge : W.heap.size ≤ k
  below : Below W.heap.size W w
theorem It.next {W : World} {k : Nat} {s : ByteArray} {pos : Nat} {w : World} (h : It W k s pos w) (pos' : Nat) : It W k s pos' (w.iterAt k s pos') :=
  ⟨Lib.iterAt_heap w k s pos pos' h.it, h.ge, Lib.below_iterAt h.below h.ge s pos'⟩
theorem It.pos {W : World} {k : Nat} {s : ByteArray} {pos : Nat} {w : World} (h : It W k s pos w) : w.iterPos k = pos := by
  unfold World.iterPos
  rw [h.it]
theorem It.start (W : World) (s : ByteArray) : It W W.heap.size s 0 (W.iter s 0) := ⟨World.iter_heap _ _ _, Nat.le_refl _, (Below.refl _ W).alloc (Nat.le_refl _) _⟩
theorem indexByte_fnd (c : UInt8) : ∀ l : List UInt8, Lib.indexByte l c = match fnd c l with | none => -1 | some k => (k : Int)
  | [] => rfl
  | x :: l => by
    have ih := indexByte_fnd c l
    rw [Lib.indexByte, fnd]
    by_cases h : x = c
    · rw [if_pos (by simpa using h), if_pos h]; rfl
    · rw [if_neg (by simpa using h), if_neg h, ih]
      cases fnd c l with
      | none => rfl
      | some k =>
        simp only [Option.map_some]
        rw [if_neg]
        · simp
        · simp only [beq_iff_eq]; omega
theorem fnd_hex0 : ∀ n < 256, fnd (UInt8.ofNat n) [48, 49, 50, 51, 52, 53, 54, 55, 56, 57, 97, 98, 99, 100, 101, 102] = hexv (UInt8.ofNat n) := by decide +kernel
theorem fnd_hex (c : UInt8) : fnd c [48, 49, 50, 51, 52, 53, 54, 55, 56, 57, 97, 98, 99, 100, 101, 102] = hexv c := by
  have := fnd_hex0 c.toNat c.toNat_lt
  rwa [show UInt8.ofNat c.toNat = c from by simp] at this
theorem or16 (a d : Nat) (ha : a < 4096) (hd : d < 16) : bits .or .u32 ((a * 16 : Nat) : Int) (d : Int) = ((a * 16 + d : Nat) : Int) := by
  rw [u32_or_nat _ _ (by omega) (by omega)]
  have := Nat.two_pow_add_eq_or_of_lt (i := 4) (b := d) (by omega) a
  rw [show a * 16 = 2 ^ 4 * a from by omega, ← this]
theorem idxDigit (W : World) (z : Int) (x : UInt8) (hz : z.toNat.toUInt8 = x) : Calls Tryz.prog 326 #[.string ⟨#[48, 49, 50, 51, 52, 53, 54, 55, 56, 57, 97, 98, 99, 100, 101, 102]⟩, .int .u8 z] W fun e w' => e = .returned (.int .i64 (match hexv x with | none => -1 | some k => (k : Int))) ∧ W = w' := by
  have := Tryz.strings_IndexByte ⟨#[48, 49, 50, 51, 52, 53, 54, 55, 56, 57, 97, 98, 99, 100, 101, 102]⟩ z W
  rw [hz, indexByte_fnd, fnd_hex] at this
  exact this.mono fun _ _ ⟨h1, h2⟩ => ⟨h1, h2.symm⟩
theorem num_cons {a : Nat} {l : List UInt8} {pos : Nat} (h : pos < l.length) : num a (l.drop pos) = match hexv (l.getD pos 0) with | none => none | some d => num (a * 16 + d) (l.drop (pos + 1)) := by
  rw [List.drop_eq_getElem_cons h, num]
  have : l.getD pos 0 = l[pos] := by rw [List.getD_eq_getElem?_getD, List.getElem?_eq_getElem h]; rfl
  rw [this]
  cases hexv l[pos] <;> rfl
def NumRq (r : Option Nat) (e : Ending) : Prop := match r with
  | none => e = .returned (.tuple #[.int .u32 0, .bool false])
  | some n => e = .returned (.tuple #[.int .u32 (n : Int), .bool true])
set_option maxHeartbeats 2000000 in
set_option maxRecDepth 100000 in
theorem numW (w : World) (l : List UInt8) (hl : l.length ≤ 4) :
    Calls Tryz.prog 337 #[.string (str l)] w fun e w' => NumRq (num 0 l) e ∧ Below w.heap.size w w' := by
  have P1 := Lib.hid (It.start w (str l))
  go_enter Tryz.func337, Tryz.ntmps337
  go_wp2
  go_loopw [4, 6, 7] (fun v4 _ _ wr => ∃ (pos a : Nat), v4 = .int .u32 a ∧ pos ≤ l.length ∧ a < 16 ^ pos ∧ Hid (num a (l.drop pos) = num 0 l) ∧ It w w.heap.size (str l) pos wr)
    (fun _ _ _ wr => l.length - wr.iterPos w.heap.size)
  case atStart => exact ⟨0, 0, rfl, Nat.zero_le _, by decide, rfl, P1.out⟩
  case round =>
    obtain ⟨pos, a, rfl, hpos, ha, HA, hp⟩ := hrel
    by_cases h1 : pos < l.length
    · have ha4 : a < 4096 := Nat.lt_of_lt_of_le ha (Nat.pow_le_pow_right (by decide) (show pos ≤ 3 by omega))
      have hnc := num_cons (a := a) h1
      rw [hnc] at HA
      have hdec : Utf8.decode (str l) pos = decq (l.drop pos) := by rw [decode_dec, str_data]
      have hnx := fun ty => Lib.run_next_any_at (P := Tryz.prog) wr w.heap.size (str l) pos ty hp.it (by rw [str_size]; exact h1)
      rw [hdec] at hnx
      have hb0 : bA (l.drop pos) 0 = (l.getD pos 0).toNat := by rw [bA_drop]; rfl
      have HPOS := Lib.hid hp.pos
      generalize l.getD pos 0 = c at *
      by_cases hc : c.toNat < 128
      · have hd : decq (l.drop pos) = (c.toNat, 1) := by
          rcases first (l.drop pos) with ⟨e, e0, hd⟩ | ⟨e, e0, hd⟩ | ⟨r, e, _, hd, _, _, e0⟩ | ⟨r, e, _, hd, _, _, _, e0⟩ | ⟨r, e, _, hd, _, _, e0⟩
          · omega
          · rw [hd, hb0]
          · omega
          · omega
          · omega
        rw [hd] at hnx
        dsimp only at hnx
        have hpn2 := hp.next (pos + 1)
        obtain ⟨wI, hwI⟩ : ∃ x, x = wr.iterAt w.heap.size (str l) (pos + 1) := ⟨_, rfl⟩
        rw [← hwI] at hpn2 hnx
        have PI := Lib.hid hpn2
        have hid := idxDigit wI (c.toNat : Int) c (by simp)
        cases hx : hexv c with
        | none =>
          rw [hx] at HA hid
          dsimp only at HA hid
          have HID := Lib.hid hid
          clear hid hpn2 hwI hd hb0 hdec hnc hp hx P1
          by_cases h126 : c.toNat ≤ 126
          · have q1 : (c.toNat : Int) ≤ 126 := by omega
            have q2 : (c.toNat : Int) < 128 := by omega
            go_wp2_with fail
            refine HID.out.mono ?_
            rintro e w' ⟨rfl, rfl⟩
            go_wp2
            go_ret2
            rw [← HA.out]
            exact ⟨rfl, PI.out.below⟩
          · have q1 : ¬ (c.toNat : Int) ≤ 126 := by omega
            have q2 : (c.toNat : Int) < 128 := by omega
            go_wp2_with fail
            refine HID.out.mono ?_
            rintro e w' ⟨rfl, rfl⟩
            go_wp2
            go_ret2
            rw [← HA.out]
            exact ⟨rfl, PI.out.below⟩
        | some d =>
          have hd16 := hexv_lt hx
          have hor := or16 a d ha4 hd16
          have hor2 : bits .or .u32 ((a : Int) * 16) (d : Int) = ((a * 16 + d : Nat) : Int) := by rw [← hor]; simp
          have HOR := Lib.hid hor2
          clear hor hor2
          rw [hx] at HA hid
          dsimp only at HA hid
          have h126 : c.toNat ≤ 126 := by
            unfold hexv at hx
            split at hx
            · omega
            · split at hx
              · omega
              · cases hx
          have HID := Lib.hid hid
          have q1 : (c.toNat : Int) ≤ 126 := by omega
          have ha2 : a * 16 + d < 16 ^ (pos + 1) := by rw [Nat.pow_succ]; omega
          clear hid hpn2 hwI hd hb0 hdec hnc hp hx P1
          go_wp2_with fail
          refine HID.out.mono ?_
          rintro e w' ⟨rfl, rfl⟩
          go_wp2
          go_roundw
          case rel => exact ⟨pos + 1, a * 16 + d, by rw [HOR.out], by omega, ha2, HA, PI.out⟩
          case measure => rw [PI.out.pos, HPOS.out]; omega
      · have hx : hexv c = none := by unfold hexv; rw [if_neg (by omega), if_neg (by omega)]
        have hr128 : 128 ≤ (decq (l.drop pos)).1 := by
          rcases first (l.drop pos) with ⟨e, e0, hd⟩ | ⟨e, e0, hd⟩ | ⟨r, e, _, hd, _, _, e0⟩ | ⟨r, e, _, hd, _, _, _, e0⟩ | ⟨r, e, _, hd, _, _, e0⟩ <;> rw [hd] <;> dsimp only <;> omega
        have hrm : (decq (l.drop pos)).1 ≤ 1114111 := by
          rcases first (l.drop pos) with ⟨e, e0, hd⟩ | ⟨e, e0, hd⟩ | ⟨r, e, _, hd, _, _, e0⟩ | ⟨r, e, _, hd, _, _, _, e0⟩ | ⟨r, e, _, hd, _, _, e0⟩ <;> rw [hd] <;> dsimp only <;> omega
        rw [hx] at HA
        dsimp only at HA
        obtain ⟨⟨r, n⟩, hd⟩ : ∃ q, decq (l.drop pos) = q := ⟨_, rfl⟩
        rw [hd] at hnx hr128 hrm
        dsimp only at hnx hr128 hrm
        have hpn2 := hp.next (pos + n)
        obtain ⟨wI, hwI⟩ : ∃ x, x = wr.iterAt w.heap.size (str l) (pos + n) := ⟨_, rfl⟩
        rw [← hwI] at hpn2 hnx
        have PI := Lib.hid hpn2
        have HID : Hid (∀ z : Int, Calls Tryz.prog 326 #[.string ⟨#[48, 49, 50, 51, 52, 53, 54, 55, 56, 57, 97, 98, 99, 100, 101, 102]⟩, .int .u8 z] wI fun e w' => (∃ k : Int, e = .returned (.int .i64 k)) ∧ wI = w') := fun z => (idxDigit wI z _ rfl).mono fun _ _ ⟨h1, h2⟩ => ⟨⟨_, h1⟩, h2⟩
        have q1 : ¬ (r : Int) ≤ 126 := by omega
        clear hpn2 hwI hd hb0 hdec hnc hp hx P1
        go_wp2_with fail
        refine (HID.out _).mono ?_
        rintro e w' ⟨⟨k, rfl⟩, rfl⟩
        go_wp2
        go_ret2
        rw [← HA.out]
        exact ⟨rfl, PI.out.below⟩
    · have HP := Lib.hid hp
      have kn := fun ty => Lib.run_next_end_at (P := Tryz.prog) wr w.heap.size (str l) pos ty hp.it (by rw [str_size]; omega)
      have hq : some a = num 0 l := by
        have := HA.out
        rw [List.drop_of_length_le (by omega)] at this
        exact this
      have HQ := Lib.hid hq
      clear hp hq
      go_wp2
      go_ret2
      rw [← HQ.out]
      exact ⟨rfl, HP.out.below⟩
theorem ofInt_toUInt8 {z : Int} {n : Nat} (h : z = (n : Int)) : z.toNat.toUInt8 = UInt8.ofNat n := by subst h; rfl
theorem encode_str (n : Nat) (hn : n < 65536) : Utf8.encode (n : Int) = str (Lib.encodeRune (n : Int)) := by
  unfold Utf8.encode Lib.encodeRune
  by_cases hv : 55296 ≤ n ∧ n ≤ 57343
  · have hvv : Utf8.valid (n : Int) = false := by simp [Utf8.valid]; omega
    rw [hvv, Lib.encodeRuneZ_bad (by omega)]
    simp only [Bool.false_eq_true, if_false, Utf8.runeError]
    rfl
  · have hvv : Utf8.valid (n : Int) = true := by simp [Utf8.valid]; omega
    rw [hvv]
    simp only [if_true, Int.toNat_natCast]
    by_cases h1 : n < 128
    · rw [if_pos h1, Lib.encodeRuneZ_one (by omega) (by omega)]
      rfl
    · rw [if_neg h1]
      by_cases h2 : n < 2048
      · rw [if_pos h2, Lib.encodeRuneZ_two (by omega) (by omega)]
        simp only [List.map_cons, List.map_nil, ofInt_toUInt8 (show (192 : Int) + (n : Int) / 64 = ((192 + n / 64 : Nat) : Int) from by omega), ofInt_toUInt8 (show (128 : Int) + (n : Int) % 64 = ((128 + n % 64 : Nat) : Int) from by omega)]
        rfl
      · rw [if_neg h2, if_pos (by omega), Lib.encodeRuneZ_three (by omega)]
        simp only [List.map_cons, List.map_nil, ofInt_toUInt8 (show (224 : Int) + (n : Int) / 4096 = ((224 + n / 4096 : Nat) : Int) from by omega), ofInt_toUInt8 (show (128 : Int) + (n : Int) / 64 % 64 = ((128 + n / 64 % 64 : Nat) : Int) from by omega), ofInt_toUInt8 (show (128 : Int) + (n : Int) % 64 = ((128 + n % 64 : Nat) : Int) from by omega)]
        rfl
def EscR (r : Option (List UInt8 × Nat)) (e : Ending) : Prop := match r with
  | none => e = .returned (.tuple #[.string ⟨#[]⟩, .int .i64 0])
  | some (t, n) => e = .returned (.tuple #[.string (str t), .int .i64 (n : Int)])
theorem cut_str (l : List UInt8) (a b : Nat) : (str l).extract a b = str ((l.drop a).take (b - a)) := by
  apply ByteArray.ext
  apply Array.toList_inj.1
  rw [str_data]
  simp [str]
set_option maxHeartbeats 2000000 in
set_option maxRecDepth 100000 in
theorem escW (w : World) (l : List UInt8) (hl : l.length ≤ 2000) :
    Calls Tryz.prog 327 #[.string (str l)] w fun e w' => EscR (esc l) e ∧ Below w.heap.size w w' := by
  cases l with
  | nil =>
    have : str [] = ⟨#[]⟩ := rfl
    rw [this]
    go_enter Tryz.func327, Tryz.ntmps327
    go_wp2
    go_ret2
    exact ⟨rfl, Below.refl _ _⟩
  | cons c r =>
    have hlen : (str (c :: r)).size = r.length + 1 := str_size _
    simp only [List.length_cons] at hl
    have hix := fun W => index_s W (str (c :: r)) 0 0 rfl (by omega)
    have hb0 : bA (str (c :: r)).data.toList 0 = c.toNat := rfl
    rw [hb0] at hix
    have hne : (str (c :: r)).toList = c :: r := str_toList _
    have hem : (str (c :: r)).toList.isEmpty = false := by rw [hne]; rfl
    have hcut := cut_str (c :: r)
    have he : esc (c :: r) = if c.toNat = 34 ∨ c.toNat = 92 then some ([c], 1)
      else if c.toNat = 120 then (if 2 ≤ r.length then (num 0 (r.take 2)).map fun n => ([UInt8.ofNat n], 3) else none)
      else if c.toNat = 117 then (if 4 ≤ r.length then (num 0 (r.take 4)).map fun n : Nat => (Lib.encodeRune (n : Int), 5) else none)
      else none := rfl
    have hc1 : (str (c :: r)).extract 0 1 = str [c] := hcut 0 1
    have hc2 : (str (c :: r)).extract 1 3 = str (r.take 2) := hcut 1 3
    have hc4 : (str (c :: r)).extract 1 5 = str (r.take 4) := hcut 1 5
    have hnum2 := numW w (r.take 2) (by rw [List.length_take]; omega)
    have hnum4 := numW w (r.take 4) (by rw [List.length_take]; omega)
    rw [← hc2] at hnum2
    rw [← hc4] at hnum4
    have HN2 := Lib.hid hnum2
    have HN4 := Lib.hid hnum4
    have HC1 := Lib.hid hc1
    obtain ⟨s, hs⟩ : ∃ s, s = str (c :: r) := ⟨_, rfl⟩
    rw [← hs] at hlen hix hem HN2 HN4 HC1 ⊢
    generalize esc (c :: r) = E at *
    obtain ⟨n0, hn0⟩ : ∃ n0, n0 = c.toNat := ⟨_, rfl⟩
    rw [← hn0] at hix he
    have h256 : n0 < 256 := by rw [hn0]; exact c.toNat_lt
    have hsz : (s.size : Int) = (r.length : Int) + 1 := by omega
    have hem2 : s.toList ≠ [] := fun h => by rw [h] at hem; cases hem
    clear hne hb0 hcut hc1 hc2 hc4 hs hn0 hnum2 hnum4 hlen
    by_cases hq : n0 = 34 ∨ n0 = 92
    · rw [if_pos hq] at he
      have HE := Lib.hid he
      have g1 : (1 : Int) ≤ (s.size : Int) := by omega
      clear he
      rcases hq with rfl | rfl
      all_goals
        go_enter Tryz.func327, Tryz.ntmps327
        go_wp2
        go_ret2
        rw [HE.out, HC1.out]
        exact ⟨rfl, Below.refl _ _⟩
    rw [if_neg hq] at he
    have q1 : ((n0 : Int) == 34) = false := by simp; omega
    have q2 : ((n0 : Int) == 92) = false := by simp; omega
    by_cases hx : n0 = 120
    · subst hx
      rw [if_pos rfl] at he
      clear q1 q2 hq
      by_cases h2 : 2 ≤ r.length
      · rw [if_pos h2] at he
        have g1 : ¬ (s.size : Int) ≤ 2 := by omega
        have g2 : (3 : Int) ≤ (s.size : Int) := by omega
        cases hnm : num 0 (r.take 2) with
        | none =>
          rw [hnm] at he HN2
          have HE := Lib.hid he
          clear he hnm
          go_enter Tryz.func327, Tryz.ntmps327
          go_wp2_with fail
          refine HN2.out.mono ?_
          rintro e w2 ⟨he, hb⟩
          obtain rfl : e = .returned (.tuple #[.int .u32 0, .bool false]) := he
          have HB := Lib.hid hb
          clear hb
          go_wp2
          go_ret2
          rw [HE.out]
          exact ⟨rfl, HB.out⟩
        | some n =>
          rw [hnm] at he HN2
          have hn := num_lt _ _ _ hnm
          have hn256 : n < 256 := by
            have : (r.take 2).length ≤ 2 := by rw [List.length_take]; omega
            have h16 : 16 ^ (r.take 2).length ≤ 16 ^ 2 := Nat.pow_le_pow_right (by decide) this
            omega
          have HE := Lib.hid he
          have hkc : ∀ W : World, (Go.convert 22 9 (.slice (some ⟨W.heap.size, 0, none⟩) 1 1)).run Tryz.prog (W.alloc (.cells #[.int .u8 (n : Int)] 5)) = .ok (.string (str [UInt8.ofNat n])) (W.alloc (.cells #[.int .u8 (n : Int)] 5)) := fun W => by
            have := conv_one W (UInt8.ofNat n)
            rwa [UInt8.toNat_ofNat', Nat.mod_eq_of_lt hn256] at this
          have HKC := Lib.hid hkc
          have n256 : (n : Int) < 256 := by omega
          clear he hnm hn hkc
          go_enter Tryz.func327, Tryz.ntmps327
          go_wp2_with fail
          refine HN2.out.mono ?_
          rintro e w2 ⟨he, hb⟩
          obtain rfl : e = .returned (.tuple #[.int .u32 (n : Int), .bool true]) := he
          have HB := Lib.hid hb
          have kc := HKC.out w2
          clear hb
          go_wp2
          go_ret2
          rw [HE.out]
          exact ⟨rfl, HB.out.alloc HB.out.size _⟩
      · rw [if_neg h2] at he
        have g1 : (s.size : Int) ≤ 2 := by omega
        have HE := Lib.hid he
        clear he
        go_enter Tryz.func327, Tryz.ntmps327
        go_wp2
        go_ret2
        rw [HE.out]
        exact ⟨rfl, Below.refl _ _⟩
    rw [if_neg hx] at he
    have q3 : ((n0 : Int) == 120) = false := by simp; omega
    by_cases hu : n0 = 117
    · subst hu
      rw [if_pos rfl] at he
      clear q1 q2 q3 hq hx
      by_cases h4 : 4 ≤ r.length
      · rw [if_pos h4] at he
        have g1 : ¬ (s.size : Int) ≤ 4 := by omega
        have g2 : (5 : Int) ≤ (s.size : Int) := by omega
        cases hnm : num 0 (r.take 4) with
        | none =>
          rw [hnm] at he HN4
          have HE := Lib.hid he
          clear he hnm
          go_enter Tryz.func327, Tryz.ntmps327
          go_wp2_with fail
          refine HN4.out.mono ?_
          rintro e w2 ⟨he, hb⟩
          obtain rfl : e = .returned (.tuple #[.int .u32 0, .bool false]) := he
          have HB := Lib.hid hb
          clear hb
          go_wp2
          go_ret2
          rw [HE.out]
          exact ⟨rfl, HB.out⟩
        | some n =>
          rw [hnm] at he HN4
          have hn := num_lt _ _ _ hnm
          have hn6 : n < 65536 := by
            have : (r.take 4).length ≤ 4 := by rw [List.length_take]; omega
            have h16 : 16 ^ (r.take 4).length ≤ 16 ^ 4 := Nat.pow_le_pow_right (by decide) this
            omega
          have HE := Lib.hid he
          have HN6 : Hid (n < 65536) := hn6
          have n6 : IntKind.i32.wrap (n : Int) = (n : Int) := IntWalk.i32_in _ (by omega)
          clear he hnm hn hn6
          go_enter Tryz.func327, Tryz.ntmps327
          go_wp2_with fail
          refine HN4.out.mono ?_
          rintro e w2 ⟨he, hb⟩
          obtain rfl : e = .returned (.tuple #[.int .u32 (n : Int), .bool true]) := he
          have HB := Lib.hid hb
          clear hb
          go_wp2
          go_ret2
          rw [HE.out, encode_str n HN6.out]
          exact ⟨rfl, HB.out⟩
      · rw [if_neg h4] at he
        have g1 : (s.size : Int) ≤ 4 := by omega
        have HE := Lib.hid he
        clear he
        go_enter Tryz.func327, Tryz.ntmps327
        go_wp2
        go_ret2
        rw [HE.out]
        exact ⟨rfl, Below.refl _ _⟩
    rw [if_neg hu] at he
    have q4 : ((n0 : Int) == 117) = false := by simp; omega
    have HE := Lib.hid he
    clear he
    go_enter Tryz.func327, Tryz.ntmps327
    go_wp2
    go_ret2
    rw [HE.out]
    exact ⟨rfl, Below.refl _ _⟩
end Go.Proofs.YtmbiiemlepfoaaaGreatDoor
