/- The walk of the reference's Take. -/
import Derived.Test.YtdiliajpcgfpoaaFrRef
import Derived.Test.YtdiliajpcgfpoaaRdText
namespace Go.Proofs.Ytdiliajpcgfpoaa
open Go.RowKit

theorem decGo_err : ∀ (l : List UInt8) (acc k : Nat), (decGo acc k l).2.2 ≠ 0 → (decGo acc k l).1 = 0 ∧ (decGo acc k l).2.1 = 0
  | [], _, _ => fun _ => ⟨rfl, rfl⟩
  | c :: l, acc, k => by
    unfold decGo
    split
    · exact fun _ => ⟨rfl, rfl⟩
    · split
      · exact fun h => absurd rfl h
      · exact decGo_err l _ _
theorem dec_err {l : List UInt8} (h : (dec l).2.2 ≠ 0) : (dec l).1 = 0 ∧ (dec l).2.1 = 0 := by
  rcases l with _ | ⟨c, l⟩
  · exact ⟨rfl, rfl⟩
  · by_cases hc : c.toNat = 128
    · have := dec_form (l := c :: l) (by simp) hc
      rw [this]
      exact ⟨rfl, rfl⟩
    · have := dec_first (l := c :: l) (by simp) hc
      rw [this] at h ⊢
      exact decGo_err _ _ _ h
theorem textOp_zero (l : List UInt8) (m : Nat) : textOp l 0 m = if (dec l).2.2 = 0 then
      (if m < (dec l).1 then ([], l, 4) else if (l.drop (dec l).2.1).length < (dec l).1 then ([], l, 3) else ((l.drop (dec l).2.1).take (dec l).1, (l.drop (dec l).2.1).drop (dec l).1, 0))
    else ([], l, (dec l).2.2) := by
  have h : textOp l 0 m = if (numOp l 0).2.2 = 0 then
      (if m < (numOp l 0).1 then ([], l, 4) else if (numOp l 0).2.1.length < (numOp l 0).1 then ([], l, 3) else ((numOp l 0).2.1.take (numOp l 0).1, (numOp l 0).2.1.drop (numOp l 0).1, 0))
    else ([], (numOp l 0).2.1, (numOp l 0).2.2) := rfl
  have hn : numOp l 0 = ((dec l).1, l.drop (dec l).2.1, (dec l).2.2) := rfl
  rw [h, hn]
  dsimp only
  split
  · rfl
  · rename_i he
    rw [(dec_err he).2]
    rfl

set_option maxHeartbeats 1000000 in
set_option maxRecDepth 100000 in
theorem refTake (w : World) (s : ByteArray) (hs : s.size ≤ 1000000) (n : Int) (m : Nat) (hm : max n 0 = (m : Int)) (hm63 : m ≤ 9223372036854775807) : Calls Try.prog 19 #[.string s, .int .i64 n] w fun e w' =>
    ∃ t r : ByteArray, e = .returned (.tuple #[.string t, .string r, .int .i64 ((textOp s.data.toList 0 m).2.2 : Int)]) ∧ t.data.toList = (textOp s.data.toList 0 m).1 ∧ r.data.toList = (textOp s.data.toList 0 m).2.1 ∧ Below w.heap.size w w' := by
  have hls : s.data.toList.length = s.size := by simp
  have hr := refRead w s hs
  have hop := textOp_zero s.data.toList m
  have hb : (dec s.data.toList).2.2 = 0 → (dec s.data.toList).1 < 2 ^ 64 := fun he => by
    obtain ⟨a, b, c, hd⟩ : ∃ a b c, dec s.data.toList = (a, b, c) := ⟨_, _, _, rfl⟩
    rw [hd] at he ⊢
    dsimp only at he
    subst he
    exact (dec_back hd).2.2.2
  obtain ⟨x, u, e, hd⟩ : ∃ a b c, dec s.data.toList = (a, b, c) := ⟨_, _, _, rfl⟩
  rw [hd] at hr hop hb
  dsimp only at hr hop hb
  have HR := Lib.hid hr
  have HOP := Lib.hid hop
  clear hr hop hd
  go_enter Try.func19, Try.ntmps19
  go_wp2_with fail
  refine HR.out.mono ?_
  rintro e1 w1 ⟨t, rfl, ht, k, rfl⟩
  have htl : t.data.toList.length = t.size := by simp
  have hts : t.size ≤ 1000000 := by rw [← htl, ht, List.length_drop]; omega
  have HT := Lib.hid ht
  clear ht
  by_cases he : e = 0
  · have hx := hb he
    subst he
    clear hb
    rw [if_pos rfl, ← HT.out, htl] at HOP
    by_cases hneg : n < 0
    · have hm0 : m = 0 := by omega
      subst hm0
      by_cases hmx : 0 < x
      · have hfin : Hid (textOp s.data.toList 0 0 = ([], s.data.toList, 4)) := by have := HOP.out; rw [if_pos hmx] at this; exact this
        have g1 : (0 : Int) < (x : Int) := by omega
        clear hmx HOP
        go_wp2
        go_ret3
        rw [hfin.out]
        exact ⟨_, _, rfl, rfl, rfl, below_drewN (Below.refl _ _) _⟩
      · have hx0 : x = 0 := by omega
        subst hx0
        have hfin : Hid (textOp s.data.toList 0 0 = ([], t.data.toList, 0)) := by have := HOP.out; rw [if_neg hmx, if_neg (by omega)] at this; exact this
        have g2 : ¬ (t.size : Int) < ((0 : Nat) : Int) := by omega
        clear hmx HOP
        go_wp2_with fail
        go_quiet (fail)
        go_wp2
        go_ret3
        rw [hfin.out]
        exact ⟨_, _, rfl, by simp, by simp, below_drewN (below_drewN (Below.refl _ _) _) _⟩
    · obtain rfl : n = (m : Int) := by omega
      by_cases hmx : m < x
      · have hfin : Hid (textOp s.data.toList 0 m = ([], s.data.toList, 4)) := by have := HOP.out; rw [if_pos hmx] at this; exact this
        have g1 : (m : Int) < (x : Int) := by omega
        clear hmx HOP
        go_wp2
        go_ret3
        rw [hfin.out]
        exact ⟨_, _, rfl, rfl, rfl, below_drewN (Below.refl _ _) _⟩
      · have g1 : ¬ (m : Int) < (x : Int) := by omega
        by_cases hlx : t.size < x
        · have hfin : Hid (textOp s.data.toList 0 m = ([], s.data.toList, 3)) := by have := HOP.out; rw [if_neg hmx, if_pos hlx] at this; exact this
          have g2 : (t.size : Int) < (x : Int) := by omega
          clear hmx hlx HOP
          go_wp2
          go_ret3
          rw [hfin.out]
          exact ⟨_, _, rfl, rfl, rfl, below_drewN (Below.refl _ _) _⟩
        · have hfin : Hid (textOp s.data.toList 0 m = (t.data.toList.take x, t.data.toList.drop x, 0)) := by have := HOP.out; rw [if_neg hmx, if_neg hlx] at this; exact this
          have g2 : ¬ (t.size : Int) < (x : Int) := by omega
          clear hmx hlx HOP
          go_wp2_with fail
          go_quiet (fail)
          go_wp2
          go_ret3
          rw [hfin.out]
          exact ⟨_, _, rfl, by simp, Lib.extract_to_end _ _, below_drewN (below_drewN (Below.refl _ _) _) _⟩
  · have ge : ¬ (e : Int) = 0 := by omega
    have hfin : Hid (textOp s.data.toList 0 m = ([], s.data.toList, e)) := by have := HOP.out; rw [if_neg he] at this; exact this
    go_wp2
    go_ret3
    rw [hfin.out]
    exact ⟨_, _, rfl, rfl, rfl, below_drewN (Below.refl _ _) _⟩
end Go.Proofs.Ytdiliajpcgfpoaa
