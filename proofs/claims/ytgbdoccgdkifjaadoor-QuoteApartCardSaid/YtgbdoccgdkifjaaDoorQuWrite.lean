/- The walks of the builder's WriteByte, WriteString, WriteRune. -/
import Derived.Test.YtgbdoccgdkifjaaDoorQuBuild
namespace Go.Proofs.YtgbdoccgdkifjaaDoor
open Go.RowKit
set_option linter.unusedVariables false

theorem kind_of {w : World} {B : Nat} {v : Value} {n : Nat} {xs : List Value} (h : w.ownsRow B 5 1 v n xs) : ∀ g, v.ownBlock = some g → ∃ c fz, w.heap[g]? = some (.cells c 5 fz) := by
  intro g hg
  rcases h.2 with ⟨rfl, _⟩ | ⟨k, cap, cur, rfl, _, hk, _⟩
  · simp [Value.ownBlock] at hg
  · simp [Value.ownBlock] at hg
    subst hg
    exact ⟨_, _, hk⟩
theorem own_sl {w : World} {base : Nat} {e : TypeId} {s n : Nat} {v : Value} {xs : List Value} (h : w.ownsRow base e s v n xs) : ∃ p c, v = .slice p n c := by
  rcases h.2 with ⟨rfl, rfl⟩ | ⟨g, cap, cur, rfl, _⟩
  · exact ⟨_, _, rfl⟩
  · exact ⟨_, _, rfl⟩

set_option maxHeartbeats 1000000 in
set_option maxRecDepth 100000 in
theorem wByte (w : World) {B b : Nat} {l : List UInt8} (h : Bd B b l w) (c : UInt8) (hl : l.length ≤ 1000000) (hB : B ≤ w.heap.size) :
    Calls Tryd.prog 15 #[.pointer (some ⟨b, 0, none⟩), .int .u8 (c.toNat : Int)] w fun e w' => e = .returned .nilIface ∧ Wrote w w' B b (l ++ [c]) := by
  obtain ⟨i0, hi, hz0, hz1, hz2⟩ := info_parts info5
  have HC := Lib.hid (check w h)
  clear h
  go_enter Tryd.func15, Tryd.ntmps15
  go_wp2_with fail
  refine HC.out.mono ?_
  rintro e w1 ⟨rfl, hat, hb1, hk1⟩
  obtain ⟨hBb, v, hbk, hown, hne⟩ := hat
  have c1 : w1.cell? ⟨b, 1, none⟩ = some v := by rw [Lib.cell_of_heap hbk]; rfl
  have hs1 := hb1.size
  have HBK := Lib.hid hbk
  have HOWN := Lib.hid hown
  have HNE : Hid (v.ownBlock ≠ some b) := hne
  have HB1 := Lib.hid hb1
  have HK1 : Hid (Lib.OthersKept 5 (some b) w w1) := hk1
  clear HC hbk hown hne hb1 hk1
  go_wp2_with (at_builtin; refine wpList_append_own _ rfl _ _ 22 rfl B 5 i0 (.int .u8 0) 1 1 Tryd.underlying22 hi hz0 hz1 hz2 rfl (by decide) _ _ _ rfl (HOWN.out.alloc _) ⟨w1.heap.size, 0, none⟩ 1 1 [.int .u8 (c.toNat : Int)] rfl rfl ?c1 ?c2 ?c3 ?c4 ?c5 ?_)
  case c1 =>
    intro j u hj
    match j, hj with
    | 0, hj => simp at hj; subst hj; simp [Addr.add]
  case c2 => intro u hu; simp at hu; subst hu; rfl
  case c3 => unfold maxLen; simp; omega
  case c4 => simp; omega
  case c5 => simp; omega
  intro v' w2 hown' hgrow _
  have hlt := row_ltB HBK.out
  have hb2 : w2.heap[b]? = some (.cells #[.pointer (some ⟨b, 0, none⟩), v] 38 (0, 0)) := by
    rw [hgrow.block b (by simp; omega) (fun e => HNE.out e.symm), Lib.alloc_old w1 _ b hlt]
    exact HBK.out
  have d1 : w2.cell? ⟨b, 1, none⟩ = some v := by rw [Lib.cell_of_heap hb2]; rfl
  have f1 : w2.frozen? ⟨b, 1, none⟩ = false := Lib.frozen_of_heap hb2 1
  have hfin : Wrote w (w2.setCell ⟨b, 1, none⟩ v') B b (l ++ [c]) := by
    refine ⟨.inr ?_, ?_, ?_⟩
    · refine Lib.BuilderAt.put hBb hb2 ?_ (by decide)
      simpa [bv] using hown'
    · exact ((HB1.out.alloc (by omega) _).grown hgrow (by simp; omega) (fun k hk => (HOWN.out.lt k hk).1)).setCell (p := ⟨b, 1, none⟩) hBb _
    · exact ((HK1.out.alloc _).grown hgrow (kind_of (HOWN.out.alloc _))).setCell ⟨b, 1, none⟩ rfl _
  have HF := Lib.hid hfin
  obtain ⟨q, d, rfl⟩ := own_sl hown'
  clear hown' hgrow hb2 hfin c1
  go_wp2
  go_ret
  exact ⟨rfl, HF.out⟩

set_option maxHeartbeats 1000000 in
set_option maxRecDepth 100000 in
theorem wStr (w : World) {B b : Nat} {l : List UInt8} (h : Bd B b l w) (s : ByteArray) (hl : l.length ≤ 1000000) (hs : s.size ≤ 1000000) (hB : B ≤ w.heap.size) :
    Calls Tryd.prog 17 #[.pointer (some ⟨b, 0, none⟩), .string s] w fun e w' => e = .returned (.tuple #[.int .i64 s.size, .nilIface]) ∧ Wrote w w' B b (l ++ s.data.toList) := by
  obtain ⟨i0, hi, hz0, hz1, hz2⟩ := info_parts info5
  have HC := Lib.hid (check w h)
  clear h
  go_enter Tryd.func17, Tryd.ntmps17
  go_wp2_with fail
  refine HC.out.mono ?_
  rintro e w1 ⟨rfl, hat, hb1, hk1⟩
  obtain ⟨hBb, v, hbk, hown, hne⟩ := hat
  have c1 : w1.cell? ⟨b, 1, none⟩ = some v := by rw [Lib.cell_of_heap hbk]; rfl
  have hs1 := hb1.size
  have HBK := Lib.hid hbk
  have HOWN := Lib.hid hown
  have HNE : Hid (v.ownBlock ≠ some b) := hne
  have HB1 := Lib.hid hb1
  have HK1 : Hid (Lib.OthersKept 5 (some b) w w1) := hk1
  clear HC hbk hown hne hb1 hk1
  go_wp2_with (at_builtin; refine Lib.wpList_append_own_string _ rfl _ _ 22 9 rfl B 5 i0 Tryd.underlying22 Tryd.underlying9 hi hz0 hz1 hz2 _ _ _ rfl HOWN.out s rfl ?c3 ?c4 ?c5 ?_)
  case c3 => unfold maxLen; simp; omega
  case c4 => simp; omega
  case c5 => omega
  intro v' w2 hown' hgrow _
  have hlt := row_ltB HBK.out
  have hb2 : w2.heap[b]? = some (.cells #[.pointer (some ⟨b, 0, none⟩), v] 38 (0, 0)) := by
    rw [hgrow.block b hlt (fun e => HNE.out e.symm)]
    exact HBK.out
  have d1 : w2.cell? ⟨b, 1, none⟩ = some v := by rw [Lib.cell_of_heap hb2]; rfl
  have f1 : w2.frozen? ⟨b, 1, none⟩ = false := Lib.frozen_of_heap hb2 1
  have hfin : Wrote w (w2.setCell ⟨b, 1, none⟩ v') B b (l ++ s.data.toList) := by
    refine ⟨.inr ?_, ?_, ?_⟩
    · refine Lib.BuilderAt.put hBb hb2 ?_ (by decide)
      rw [List.map_append, List.length_append, List.length_map, List.length_map]
      have : s.size = s.data.toList.length := by simp
      rw [← this]
      have hsc : Lib.strCells s = s.data.toList.map bv := rfl
      rw [hsc] at hown'
      simpa using hown'
    · exact (HB1.out.grown hgrow (by omega) (fun k hk => (HOWN.out.lt k hk).1)).setCell (p := ⟨b, 1, none⟩) hBb _
    · exact (HK1.out.grown hgrow (kind_of HOWN.out)).setCell ⟨b, 1, none⟩ rfl _
  have HF := Lib.hid hfin
  obtain ⟨q, d, rfl⟩ := own_sl hown'
  clear hown' hgrow hb2 hfin c1
  go_wp2
  go_ret2
  exact ⟨rfl, HF.out⟩

set_option maxHeartbeats 1000000 in
set_option maxRecDepth 100000 in
theorem wRune (w : World) {B b : Nat} {l : List UInt8} (h : Bd B b l w) (r : Nat) (m : List UInt8) (hr : r ≤ 1114111) (hm : Lib.runeCells (r : Int) = m.map bv) (hl : l.length ≤ 1000000) (hB : B ≤ w.heap.size) :
    Calls Tryd.prog 19 #[.pointer (some ⟨b, 0, none⟩), .int .i32 (r : Int)] w fun e w' => (∃ k : Int, e = .returned (.tuple #[.int .i64 k, .nilIface])) ∧ Wrote w w' B b (l ++ m) := by
  have HC := Lib.hid (check w h)
  have hk4 := Lib.runeCells_le (r : Int)
  have HM := Lib.hid hm
  clear h hm
  go_enter Tryd.func19, Tryd.ntmps19
  go_wp2_with fail
  refine HC.out.mono ?_
  rintro e w1 ⟨rfl, hat, hb1, hk1⟩
  obtain ⟨hBb, v, hbk, hown, hne⟩ := hat
  rw [List.length_map] at hown
  obtain ⟨q0, d0, rfl⟩ := own_sl hown
  have c1 : w1.cell? ⟨b, 1, none⟩ = some (.slice q0 l.length d0) := by rw [Lib.cell_of_heap hbk]; rfl
  have hs1 := hb1.size
  have HBK := Lib.hid hbk
  have HOWN := Lib.hid hown
  have HNE : Hid (_ ≠ _) := hne
  have HB1 := Lib.hid hb1
  have HK1 : Hid (Lib.OthersKept 5 (some b) w w1) := hk1
  clear HC hbk hown hne hb1 hk1
  go_wp2_with fail
  ((with_reducible refine (Tryd.utf8_AppendRune_plain B _ _ _ (r : Int) (by omega) (by omega) _ HOWN.out (by omega) (by omega)).mono ?_))
  rintro e w2 ⟨v', rfl, hown', o, hgrow⟩
  have hlt := row_ltB HBK.out
  have hb2 : w2.heap[b]? = some (.cells #[.pointer (some ⟨b, 0, none⟩), .slice q0 l.length d0] 38 (0, 0)) := by
    rw [hgrow.block b (by simp; omega) (fun e => HNE.out e.symm), Lib.alloc_old w1 _ b hlt]
    exact HBK.out
  have d1 : w2.cell? ⟨b, 1, none⟩ = some (.slice q0 l.length d0) := by rw [Lib.cell_of_heap hb2]; rfl
  have f1 : w2.frozen? ⟨b, 1, none⟩ = false := Lib.frozen_of_heap hb2 1
  have hfin : Wrote w (w2.setCell ⟨b, 1, none⟩ v') B b (l ++ m) := by
    refine ⟨.inr ?_, ?_, ?_⟩
    · refine Lib.BuilderAt.put hBb hb2 ?_ (by decide)
      rw [HM.out] at hown'
      simpa using hown'
    · exact ((HB1.out.alloc (by omega) _).grown hgrow (by simp; omega) (fun k hk => (HOWN.out.lt k hk).1)).setCell (p := ⟨b, 1, none⟩) hBb _
    · exact ((HK1.out.alloc _).grown hgrow (kind_of (HOWN.out.alloc _))).setCell ⟨b, 1, none⟩ rfl _
  have HF := Lib.hid hfin
  obtain ⟨q, d, rfl⟩ := own_sl hown'
  clear hown' hgrow hb2 hfin c1
  go_wp2
  go_ret2
  exact ⟨⟨_, rfl⟩, HF.out⟩
end Go.Proofs.YtgbdoccgdkifjaaDoor

