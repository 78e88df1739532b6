/- The walk of Print. -/
import Derived.Test.YtgbdoccgdkifjaaDoorQuStray
import Derived.Test.YtgbdoccgdkifjaaDoorQuKind
import Derived.Lib.IndexBytes
namespace Go.Proofs.YtgbdoccgdkifjaaDoor
open Go.RowKit
set_option linter.unusedVariables false

theorem conv_of {w : World} {p : Option Addr} {c : Nat} {l : List UInt8} (h : IsB w p c l) : (Go.convert 22 9 (.slice p l.length c)).run Tryd.prog w = .ok (.string (str l)) w :=
  h.convert (P := Tryd.prog) Tryd.underlying22 Tryd.underlying5 Tryd.underlying9
theorem Bd.iterAt {B b : Nat} {l : List UInt8} {w : World} (h : Bd B b l w) {k : Nat} {s : ByteArray} {pos : Nat} (hk : w.heap[k]? = some (.stringIter s pos)) (pos' : Nat) : Bd B b l (w.iterAt k s pos') := by
  have key : ∀ p, Lib.BuilderAt 38 5 B b p (l.map bv) w → Lib.BuilderAt 38 5 B b p (l.map bv) (w.iterAt k s pos') := by
    rintro p ⟨hB, v, hb, hown, hne⟩
    have hkb : b ≠ k := by
      intro e
      rw [e, hk] at hb
      cases hb
    refine ⟨hB, v, (Lib.iterAt_other w k b s pos' hkb).trans hb, ⟨hown.1, ?_⟩, hne⟩
    rcases hown.2 with hn | ⟨g, cap, cur, hv, hbg, hg, rest⟩
    · exact .inl hn
    · have hkg : g ≠ k := by
        intro e
        rw [e, hk] at hg
        cases hg
      exact .inr ⟨g, cap, cur, hv, hbg, (Lib.iterAt_other w k g s pos' hkg).trans hg, rest⟩
  exact h.elim (fun x => .inl (key _ x)) (fun x => .inr (key _ x))
/-- Behind a call that makes memory alone. -/
theorem Bd.below {B b : Nat} {l : List UInt8} {w w' : World} (h : Bd B b l w) (hb : Below w.heap.size w w') : Bd B b l w' := by
  have key : ∀ p, Lib.BuilderAt 38 5 B b p (l.map bv) w → Lib.BuilderAt 38 5 B b p (l.map bv) w' := by
    rintro p ⟨hB, v, hbk, hown, hne⟩
    refine ⟨hB, v, (hb.block b (row_ltB hbk)).trans hbk, ⟨hown.1, ?_⟩, hne⟩
    rcases hown.2 with hn | ⟨g, cap, cur, hv, hbg, hg, rest⟩
    · exact .inl hn
    · exact .inr ⟨g, cap, cur, hv, hbg, (hb.block g (row_ltB hg)).trans hg, rest⟩
  exact h.elim (fun x => .inl (key _ x)) (fun x => .inr (key _ x))
/-- The state of the printing: the builder, the iterator. -/
structure Pr (W : World) (b k : Nat) (s : ByteArray) (pos : Nat) (acc : List UInt8) (w : World) : Prop where
  bd : Bd W.heap.size b acc w
  it : w.heap[k]? = some (.stringIter s pos)
  ne : k ≠ b
  ge : W.heap.size ≤ k
  below : Below W.heap.size W w
theorem Pr.next {W : World} {b k : Nat} {s : ByteArray} {pos : Nat} {acc : List UInt8} {w : World} (h : Pr W b k s pos acc w) (pos' : Nat) : Pr W b k s pos' acc (w.iterAt k s pos') :=
  ⟨h.bd.iterAt h.it pos', Lib.iterAt_heap w k s pos pos' h.it, h.ne, h.ge, Lib.below_iterAt h.below h.ge s pos'⟩
theorem Pr.wrote {W : World} {b k : Nat} {s : ByteArray} {pos : Nat} {acc acc' : List UInt8} {w w' : World} (h : Pr W b k s pos acc w) (hw : Wrote w w' W.heap.size b acc') : Pr W b k s pos acc' w' :=
  ⟨hw.bd, hw.others.iter h.it h.ne, h.ne, h.ge, h.below.trans hw.below⟩
theorem Pr.quiet {W : World} {b k : Nat} {s : ByteArray} {pos : Nat} {acc : List UInt8} {w w' : World} (h : Pr W b k s pos acc w) (hb : Below w.heap.size w w') : Pr W b k s pos acc w' :=
  ⟨h.bd.below hb, (hb.block k (row_ltB h.it)).trans h.it, h.ne, h.ge, h.below.trans (hb.mono h.below.size)⟩
theorem Pr.pos {W : World} {b k : Nat} {s : ByteArray} {pos : Nat} {acc : List UInt8} {w : World} (h : Pr W b k s pos acc w) : w.iterPos k = pos := by
  unfold World.iterPos
  rw [h.it]
theorem Pr.size {W : World} {b k : Nat} {s : ByteArray} {pos : Nat} {acc : List UInt8} {w : World} (h : Pr W b k s pos acc w) : W.heap.size ≤ w.heap.size := h.below.size

theorem wRuneZ (w : World) {B b : Nat} {l : List UInt8} (h : Bd B b l w) (z : Int) (r : Nat) (hz : (r : Int) = z) (m : List UInt8) (hr : r ≤ 1114111) (hm : Lib.runeCells z = m.map bv) (hl : l.length ≤ 1000000) (hB : B ≤ w.heap.size) :
    Calls Tryd.prog 19 #[.pointer (some ⟨b, 0, none⟩), .int .i32 z] w fun e w' => (∃ k : Int, e = .returned (.tuple #[.int .i64 k, .nilIface])) ∧ Wrote w w' B b (l ++ m) := by
  subst hz
  exact wRune w h r m hr hm hl hB
theorem index_str (W : World) (l : List UInt8) (pos : Nat) (h : pos < l.length) : (Instr.index 9 (.string (str l)) (.int .i64 (pos : Int))).run Tryd.prog W = .ok (.int .u8 ((bA l pos : Nat) : Int)) W := by
  have h2 : (pos : Int) < ((str l).size : Int) := by rw [str_size]; omega
  rw [run_index_string W _ _ _ _ Tryd.underlying9, dif_pos ⟨by omega, h2⟩]
  congr 2
  have e : (bA l pos : Nat) = (l[pos]'h).toNat := by unfold bA; rw [List.getD_eq_getElem?_getD, List.getElem?_eq_getElem h]; rfl
  rw [e]
  rfl
theorem hex2 (w : World) {B b : Nat} {l : List UInt8} (h : Bd B b l w) (n : Nat) (hn : n < 65536) (hl : l.length ≤ 900000) (hB : B ≤ w.heap.size) :
    Calls Tryd.prog 18 #[.pointer (some ⟨b, 0, none⟩), .int .u32 (n : Int), .int .i64 2] w fun e w' => e = .returned (.tuple #[]) ∧ Wrote w w' B b (l ++ hx n 2) := hexW w h n 2 hn (by decide) hl hB
theorem hex4 (w : World) {B b : Nat} {l : List UInt8} (h : Bd B b l w) (n : Nat) (hn : n < 65536) (hl : l.length ≤ 900000) (hB : B ≤ w.heap.size) :
    Calls Tryd.prog 18 #[.pointer (some ⟨b, 0, none⟩), .int .u32 (n : Int), .int .i64 4] w fun e w' => e = .returned (.tuple #[]) ∧ Wrote w w' B b (l ++ hx n 4) := hexW w h n 4 hn (by decide) hl hB

set_option maxHeartbeats 4000000 in
set_option maxRecDepth 100000 in
theorem printW (w : World) {p : Option Addr} {c : Nat} {l : List UInt8} (h : IsB w p c l) (hl : l.length ≤ 2000) (hT : Lib.Utf8Tabs 0 1 w) :
    Calls Tryd.prog 10 #[.slice p l.length c] w fun e w' => e = .returned (.string (str (qt l))) ∧ Below w.heap.size w w' := by
  have H := Lib.hid h
  have HT := Lib.hid hT
  clear h hT
  go_enter Tryd.func10, Tryd.ntmps10
  go_wp2_with fail
  refine (wByte _ (B := w.heap.size) (b := w.heap.size) (l := []) (Lib.fresh_isBuilder _ _ w) 34 (by simp) (by simp)).mono ?_
  rintro e w1 ⟨rfl, hw1⟩
  have hb1 : Below w.heap.size w w1 := ((Below.refl _ w).alloc (Nat.le_refl _) _).trans hw1.below
  have kb := conv_of (H.out.below hb1)
  have P1 : Hid (Pr w w.heap.size w1.heap.size (str l) 0 [34] (w1.iter (str l) 0)) := by
    have hz := hb1.size
    have hlt := hw1.bd.lt
    refine ⟨hw1.bd.below ((Below.refl _ _).alloc (Nat.le_refl _) _), World.iter_heap _ _ _, by omega, hz, hb1.alloc hz _⟩
  have hne : w1.heap.size ≠ w.heap.size := by have := hw1.bd.lt; omega
  clear hw1 hb1
  go_wp2
  go_loopw [5, 6] (fun _ _ wr => ∃ (pos : Nat) (acc : List UInt8), pos ≤ l.length ∧ acc.length ≤ 1 + 6 * pos ∧ Hid (acc ++ body (l.drop pos) = 34 :: body l) ∧ Pr w w.heap.size w1.heap.size (str l) pos acc wr)
    (fun _ _ wr => l.length - wr.iterPos w1.heap.size)
  case atStart => exact ⟨0, [34], Nat.zero_le _, by simp, rfl, P1.out⟩
  case round =>
    obtain ⟨pos, acc, hpos, hacc, HA, hp⟩ := hrel
    by_cases h1 : pos < l.length
    · obtain ⟨m, hm⟩ : ∃ m, m = l.drop pos := ⟨_, rfl⟩
      have hml : m.length = l.length - pos := by rw [hm, List.length_drop]
      have hm0 : 0 < m.length := by omega
      have hstep := body_step m hm0
      have hstp := stp_le m hm0
      have hstp1 := stp_pos m
      have hdrop : m.drop (stp m) = l.drop (pos + stp m) := by rw [hm, List.drop_drop]
      rw [hdrop] at hstep
      rw [← hm, hstep] at HA
      have hdec : Utf8.decode (str l) pos = dec m := by rw [decode_dec, str_data, hm]
      have hnx := fun ty => Lib.run_next_any_at (P := Tryd.prog) wr w1.heap.size (str l) pos ty hp.it (by rw [str_size]; exact h1)
      rw [hdec] at hnx
      have hpn := fun pos' => hp.next pos'
      have hex : ((str l).extract pos (str l).size).data.toList = m := by rw [Lib.extract_to_end, str_data, hm]
      have hexs : 0 < ((str l).extract pos (str l).size).size := by
        have : ((str l).extract pos (str l).size).size = m.length := by rw [← hex]; simp
        omega
      have hb0 : (bA m 0 : Nat) = bA l pos := by rw [hm, bA_drop, Nat.add_zero]
      have gpos : (pos : Int) < ((str l).size : Int) := by rw [str_size]; omega
      have HSTR : Hid (∀ W, Below w.heap.size w W → Lib.Utf8Tabs 0 1 W) := fun W hW => Utf8Tabs_below HT.out hW
      have HPOS := Lib.hid hp.pos
      clear hstep hdrop hdec P1 HT hm hp
      rcases kind m hm0 with ⟨hw, hd, ho, hs⟩ | ⟨r, hw, hd, hr, ho, hs⟩ | ⟨r, hw, hd, hr, hr2, hb, hmx, ho, hc⟩ | ⟨r, hw, hd, hb, ho⟩
      · as_aux_lemma =>
          rw [hd] at hnx
          dsimp only at hnx
          rw [ho, hs] at HA
          have hix : ∀ W, (Instr.index 9 (.string (str l)) (.int .i64 (pos : Int))).run Tryd.prog W = .ok (.int .u8 ((bA m 0 : Nat) : Int)) W := fun W => by
            rw [index_str W l pos h1, hb0]
          have hb256 := bA_lt m 0
          have hpn2 := hpn (pos + 1)
          have HST := fun W (hW : Below w.heap.size w W) => strayYes W _ hexs (HSTR.out W hW) (by rw [hex]; exact hw)
          have HST := Lib.hid HST
          have HB0 := Lib.hid hb0
          have hc2 : hx (bA m 0) 2 = [dig (bA m 0 / 16), dig (bA m 0 % 16)] := by
            show [dig (bA m 0 / 16 ^ 1 % 16), dig (bA m 0 / 16 ^ 0 % 16)] = _
            rw [show bA m 0 / 16 ^ 1 % 16 = bA m 0 / 16 from by omega, show bA m 0 / 16 ^ 0 % 16 = bA m 0 % 16 from by omega]
          have HC2 := Lib.hid hc2
          obtain ⟨c0, hc0⟩ : ∃ c0, c0 = bA m 0 := ⟨_, rfl⟩
          rw [← hc0] at hix hb256 HC2 HA
          clear hpn hex hexs hb0 hw hd ho hs hc2 hc0
          obtain ⟨wI, hwI⟩ : ∃ x, x = wr.iterAt w1.heap.size (str l) (pos + 1) := ⟨_, rfl⟩
          rw [← hwI] at hpn2 hnx
          have PI := Lib.hid hpn2
          clear hpn2 hwI
          go_wp2_with fail
          refine (HST.out _ PI.out.below).mono ?_
          rintro e w2 ⟨rfl, hb2⟩
          have P2 := Lib.hid (PI.out.quiet hb2)
          clear hb2
          go_wp2_with fail
          refine (wStr w2 P2.out.bd ⟨#[92, 120]⟩ (by omega) (by decide) P2.out.size).mono ?_
          rintro e w3 ⟨rfl, hw3⟩
          have P3 := Lib.hid (P2.out.wrote hw3)
          clear hw3
          go_wp2_with fail
          ((with_reducible refine (hex2 w3 P3.out.bd c0 (by omega) (by rw [List.length_append]; simp; omega) P3.out.size).mono ?_))
          rintro e w4 ⟨rfl, hw4⟩
          rw [HC2.out] at hw4
          have P4 := Lib.hid (P3.out.wrote hw4)
          clear hw4
          go_wp2
          go_roundw
          case rel => exact ⟨pos + 1, _, by omega, by simp; omega, by show _ = _; rw [← HA.out]; simp, P4.out⟩
          case measure => rw [P4.out.pos, HPOS.out]; omega
      · as_aux_lemma =>
          rw [hd] at hnx
          dsimp only at hnx
          rw [ho, hs] at HA
          have hpn2 := hpn (pos + 1)
          obtain ⟨wI, hwI⟩ : ∃ x, x = wr.iterAt w1.heap.size (str l) (pos + 1) := ⟨_, rfl⟩
          rw [← hwI] at hpn2 hnx
          have PI := Lib.hid hpn2
          clear hpn hex hexs hb0 hw hd ho hs hpn2 hwI
          rcases hr with rfl | rfl
          · go_wp2_with fail
            refine (wByte wI PI.out.bd 92 (by omega) PI.out.size).mono ?_
            rintro e w2 ⟨rfl, hw2⟩
            have P2 := Lib.hid (PI.out.wrote hw2)
            clear hw2
            go_wp2_with fail
            ((with_reducible refine (wRuneZ w2 P2.out.bd 34 34 rfl [34] (by omega) rfl (by rw [List.length_append]; simp; omega) P2.out.size).mono ?_))
            rintro e w3 ⟨⟨k, rfl⟩, hw3⟩
            have P3 := Lib.hid (P2.out.wrote hw3)
            clear hw3
            go_wp2
            go_roundw
            case rel => exact ⟨pos + 1, _, by omega, by simp; omega, by show _ = _; rw [← HA.out]; simp, P3.out⟩
            case measure => rw [P3.out.pos, HPOS.out]; omega
          · go_wp2_with fail
            refine (wByte wI PI.out.bd 92 (by omega) PI.out.size).mono ?_
            rintro e w2 ⟨rfl, hw2⟩
            have P2 := Lib.hid (PI.out.wrote hw2)
            clear hw2
            go_wp2_with fail
            ((with_reducible refine (wRuneZ w2 P2.out.bd 92 92 rfl [92] (by omega) rfl (by rw [List.length_append]; simp; omega) P2.out.size).mono ?_))
            rintro e w3 ⟨⟨k, rfl⟩, hw3⟩
            have P3 := Lib.hid (P2.out.wrote hw3)
            clear hw3
            go_wp2
            go_roundw
            case rel => exact ⟨pos + 1, _, by omega, by simp; omega, by show _ = _; rw [← HA.out]; simp, P3.out⟩
            case measure => rw [P3.out.pos, HPOS.out]; omega
      · as_aux_lemma =>
          rw [hd] at hnx
          dsimp only at hnx
          rw [ho] at HA
          have hpn2 := hpn (pos + stp m)
          obtain ⟨wI, hwI⟩ : ∃ x, x = wr.iterAt w1.heap.size (str l) (pos + stp m) := ⟨_, rfl⟩
          rw [← hwI] at hpn2 hnx
          have PI := Lib.hid hpn2
          have HST := Lib.hid (fun W (hW : Below w.heap.size w W) => strayNo W _ hexs (HSTR.out W hW) (by rw [hex]; exact hw))
          have htl : (m.take (stp m)).length ≤ 4 := by
            have := Lib.runeCells_le (r : Int)
            rw [hc, List.length_map] at this
            exact this.2
          have htl6 : (m.take (stp m)).length ≤ 6 * stp m := by rw [List.length_take]; omega
          have HC := Lib.hid hc
          have q1 : ((r : Int) == 34) = false := by simp; omega
          have q2 : ((r : Int) == 92) = false := by simp; omega
          have q3 : (32 : Int) ≤ (r : Int) := by omega
          obtain ⟨t, ht⟩ : ∃ t, t = m.take (stp m) := ⟨_, rfl⟩
          rw [← ht] at HA htl htl6 HC
          obtain ⟨n, hn⟩ : ∃ n, n = stp m := ⟨_, rfl⟩
          rw [← hn] at PI htl6 hstp hstp1 HA
          clear hpn hex hexs hb0 hw hd ho hpn2 hwI hc hr hr2 ht hn
          by_cases hrr : r = 65533
          · subst hrr
            have HC65 : Lib.runeCells 65533 = t.map bv := HC.out
            go_wp2_with fail
            refine (HST.out _ PI.out.below).mono ?_
            rintro e w2 ⟨rfl, hb2⟩
            have P2 := Lib.hid (PI.out.quiet hb2)
            clear hb2 q1 q2 q3
            go_wp2_with fail
            ((with_reducible refine (wRuneZ w2 P2.out.bd 65533 65533 rfl t (by omega) HC65 (by omega) P2.out.size).mono ?_))
            rintro e w3 ⟨⟨k, rfl⟩, hw3⟩
            have P3 := Lib.hid (P2.out.wrote hw3)
            clear hw3
            go_wp2
            go_roundw
            case rel => exact ⟨pos + n, _, by omega, by rw [List.length_append]; omega, by show _ = _; rw [← HA.out]; simp, P3.out⟩
            case measure => rw [P3.out.pos, HPOS.out]; omega
          · have q0 : ((r : Int) == 65533) = false := by simp; omega
            by_cases h126 : r ≤ 126
            · have q4 : (r : Int) ≤ 126 := by omega
              go_wp2_with fail
              ((with_reducible refine (wRune wI PI.out.bd r t (by omega) HC.out (by omega) PI.out.size).mono ?_))
              rintro e w3 ⟨⟨k, rfl⟩, hw3⟩
              have P3 := Lib.hid (PI.out.wrote hw3)
              clear hw3
              go_wp2
              go_roundw
              case rel => exact ⟨pos + n, _, by omega, by rw [List.length_append]; omega, by show _ = _; rw [← HA.out]; simp, P3.out⟩
              case measure => rw [P3.out.pos, HPOS.out]; omega
            · have q4 : ¬ (r : Int) ≤ 126 := by omega
              have q5 : (160 : Int) ≤ (r : Int) := by omega
              go_wp2_with fail
              ((with_reducible refine (wRune wI PI.out.bd r t (by omega) HC.out (by omega) PI.out.size).mono ?_))
              rintro e w3 ⟨⟨k, rfl⟩, hw3⟩
              have P3 := Lib.hid (PI.out.wrote hw3)
              clear hw3
              go_wp2
              go_roundw
              case rel => exact ⟨pos + n, _, by omega, by rw [List.length_append]; omega, by show _ = _; rw [← HA.out]; simp, P3.out⟩
              case measure => rw [P3.out.pos, HPOS.out]; omega
      · as_aux_lemma =>
          rw [hd] at hnx
          dsimp only at hnx
          rw [ho] at HA
          have hpn2 := hpn (pos + stp m)
          obtain ⟨wI, hwI⟩ : ∃ x, x = wr.iterAt w1.heap.size (str l) (pos + stp m) := ⟨_, rfl⟩
          rw [← hwI] at hpn2 hnx
          have PI := Lib.hid hpn2
          obtain ⟨n, hn⟩ : ∃ n, n = stp m := ⟨_, rfl⟩
          rw [← hn] at PI hstp hstp1 HA
          have hc4 : hx r 4 = [48, 48, dig (r / 16), dig (r % 16)] := by
            show [dig (r / 16 ^ 3 % 16), dig (r / 16 ^ 2 % 16), dig (r / 16 ^ 1 % 16), dig (r / 16 ^ 0 % 16)] = _
            rw [show r / 16 ^ 3 % 16 = 0 from by omega, show r / 16 ^ 2 % 16 = 0 from by omega, show r / 16 ^ 1 % 16 = r / 16 from by omega, show r / 16 ^ 0 % 16 = r % 16 from by omega]
            rfl
          have HC4 := Lib.hid hc4
          have q0 : ((r : Int) == 65533) = false := by simp; omega
          have q1 : ((r : Int) == 34) = false := by simp; omega
          have q2 : ((r : Int) == 92) = false := by simp; omega
          have q6 : (r : Int) < 160 := by omega
          clear hpn hex hexs hb0 hw hd ho hpn2 hwI hn hc4
          by_cases h32 : r < 32
          · have q3 : (r : Int) < 32 := by omega
            go_wp2_with fail
            refine (wStr wI PI.out.bd ⟨#[92, 117]⟩ (by omega) (by decide) PI.out.size).mono ?_
            rintro e w3 ⟨rfl, hw3⟩
            have P3 := Lib.hid (PI.out.wrote hw3)
            clear hw3
            go_wp2_with fail
            ((with_reducible refine (hex4 w3 P3.out.bd r (by omega) (by rw [List.length_append]; simp; omega) P3.out.size).mono ?_))
            rintro e w4 ⟨rfl, hw4⟩
            rw [HC4.out] at hw4
            have P4 := Lib.hid (P3.out.wrote hw4)
            clear hw4
            go_wp2
            go_roundw
            case rel => exact ⟨pos + n, _, by omega, by simp; omega, by show _ = _; rw [← HA.out]; simp, P4.out⟩
            case measure => rw [P4.out.pos, HPOS.out]; omega
          · have q3 : ¬ (r : Int) < 32 := by omega
            have q4 : ¬ (r : Int) ≤ 126 := by omega
            go_wp2_with fail
            refine (wStr wI PI.out.bd ⟨#[92, 117]⟩ (by omega) (by decide) PI.out.size).mono ?_
            rintro e w3 ⟨rfl, hw3⟩
            have P3 := Lib.hid (PI.out.wrote hw3)
            clear hw3
            go_wp2_with fail
            ((with_reducible refine (hex4 w3 P3.out.bd r (by omega) (by rw [List.length_append]; simp; omega) P3.out.size).mono ?_))
            rintro e w4 ⟨rfl, hw4⟩
            rw [HC4.out] at hw4
            have P4 := Lib.hid (P3.out.wrote hw4)
            clear hw4
            go_wp2
            go_roundw
            case rel => exact ⟨pos + n, _, by omega, by simp; omega, by show _ = _; rw [← HA.out]; simp, P4.out⟩
            case measure => rw [P4.out.pos, HPOS.out]; omega
    · have HP := Lib.hid hp
      have kn := fun ty => Lib.run_next_end_at (P := Tryd.prog) wr w1.heap.size (str l) pos ty hp.it (by rw [str_size]; omega)
      have hacc2 : acc = 34 :: body l := by
        have := HA.out
        rw [List.drop_of_length_le (by omega), body_nil, List.append_nil] at this
        exact this
      have HC := Lib.hid hacc2
      clear hp hacc2
      go_wp2_with fail
      refine (wByte wr HP.out.bd 34 (by omega) HP.out.size).mono ?_
      rintro e w2 ⟨rfl, hw2⟩
      have P2 := Lib.hid (HP.out.wrote hw2)
      clear hw2
      go_wp2_with fail
      refine (Tryd.Builder_String_any w.heap.size w.heap.size (acc ++ [34]) w2 P2.out.bd P2.out.size).mono ?_
      rintro e w3 ⟨rfl, hb3⟩
      have B3 : Hid (Below w.heap.size w w3) := P2.out.below.trans hb3
      have hq : (⟨(acc ++ [34]).toArray⟩ : ByteArray) = str (qt l) := by rw [HC.out]; rfl
      rw [hq]
      clear hb3 hq
      go_wp2
      go_ret
      exact ⟨rfl, B3.out⟩
end Go.Proofs.YtgbdoccgdkifjaaDoor
