/- A strings.Builder of the call's own: what its writing methods leave. The walks of the builder's WriteByte, WriteString, WriteRune. The walks of hex and stray. The decoder's word on a string's bytes; the walk of stray. The walk of Print. Small laws on strings and their bytes, worlds, a range over a string: for seats that do not reach the quote laws' reference. -/
import Derived.Test.YtmbiiemlepfoaaaGreatDoorBa01
import Derived.Test.YtmbiiemlepfoaaaGreatDoorBa16
import Derived.Lib.OthersKept
import Derived.Lib.AppendStr
import Derived.OwnWalk
import Derived.Laws.BitsAllLaws
import Derived.Lib.IndexBytes

/-! A strings.Builder of the call's own: what its writing methods leave. -/
namespace Go.Proofs.YtmbiiemlepfoaaaGreatDoor
open Go.RowKit
set_option linter.unusedVariables false

theorem info5q : (Tryz.prog.info? 5).map (fun i => (i.zero, i.size, i.bytes)) = some (some (.int .u8 0), 1, 1) := by kernel_rfl
theorem infoB : (Tryz.prog.info? 178).map (·.size) = some 2 := by kernel_rfl
/-- A builder that holds bytes. -/
abbrev Bd (B b : Nat) (l : List UInt8) (w : World) : Prop := Lib.IsBuilder 178 5 B b (l.map bv) w
/-- What a write leaves. -/
structure Wrote (w w' : World) (B b : Nat) (l : List UInt8) : Prop where
  bd : Bd B b l w'
  below : Below B w w'
  others : Lib.OthersKept 5 (some b) w w'
theorem Wrote.trans {w w1 w2 : World} {B b : Nat} {l l' : List UInt8} (h : Wrote w w1 B b l) (h' : Wrote w1 w2 B b l') : Wrote w w2 B b l' :=
  ⟨h'.bd, h.below.trans h'.below, h.others.trans h'.others⟩
theorem Bd.lt {B b : Nat} {l : List UInt8} {w : World} (h : Bd B b l w) : b < w.heap.size := by
  rcases h with h | h <;> exact h.lt
theorem row_ltB {w : World} {b : Nat} {o : Obj} (h : w.heap[b]? = some o) : b < w.heap.size := by
  rcases Nat.lt_or_ge b w.heap.size with h1 | h1
  · exact h1
  · rw [Array.getElem?_eq_none h1] at h; cases h
theorem Bd.ge {B b : Nat} {l : List UInt8} {w : World} (h : Bd B b l w) : B ≤ b := by
  rcases h with h | h <;> exact h.1
/-- What copyCheck leaves. -/
structure Check (w w' : World) (B b : Nat) (l : List UInt8) : Prop where
  at_ : Lib.BuilderAt 178 5 B b (.pointer (some ⟨b, 0, none⟩)) (l.map bv) w'
  below : Below B w w'
  others : Lib.OthersKept 5 (some b) w w'

set_option maxHeartbeats 1000000 in
set_option maxRecDepth 100000 in
theorem check (w : World) {B b : Nat} {l : List UInt8} (h : Bd B b l w) :
    Calls Tryz.prog 160 #[.pointer (some ⟨b, 0, none⟩)] w fun e w' => e = .returned (.tuple #[]) ∧ Check w w' B b l := by
  obtain ⟨j, hj, hjs⟩ := Option.map_eq_some_iff.1 infoB
  rcases h with h | h
  · have h0 := h.cell0
    have hz := h.frozen0
    have hsh := h.shape
    have HB := Lib.hid h
    have u1 : ∀ W, W.shape? b = some (178, 2) → (convert 176 360 (.pointer (some ⟨b, 0, none⟩))).run Tryz.prog W = .ok (.pointer (some ⟨b, 0, none⟩)) W := fun W hW =>
      Lib.run_to_unsafe W ⟨b, 0, none⟩ Tryz.underlying176 Tryz.underlying360 hj (by rw [hjs]; decide) hW (Nat.zero_lt_succ 1)
    have u2 : ∀ W, W.shape? b = some (178, 2) → (convert 360 176 (.pointer (some ⟨b, 0, none⟩))).run Tryz.prog W = .ok (.pointer (some ⟨b, 0, none⟩)) W := fun W hW =>
      Lib.run_from_unsafe W ⟨b, 0, none⟩ Tryz.underlying360 Tryz.underlying176 hj hW (by kernel_rfl)
    have v1 := u1 w hsh
    have v2 := u2 w hsh
    clear h u1 u2
    go_enter Tryz.func160, Tryz.ntmps160
    go_wp2
    rw [run_callFunc_extern Tryz.func235 (by kernel_rfl) (by kernel_rfl) (by kernel_rfl) (e := Extern.AbiNoEscape.same) (by kernel_rfl)]
    rw [Lib.run_noEscape]
    simp only [Result.andThen]
    rw [Oper.upon_value]
    go_wp2
    go_end0
    exact ⟨rfl, HB.out.used _, (Below.refl B w).setCell (p := ⟨b, 0, none⟩) HB.out.1 _, (Lib.OthersKept.refl _ _ _).setCell ⟨b, 0, none⟩ rfl _⟩
  · have h0 := h.cell0
    have HB := Lib.hid h
    have hn := Lib.run_neq_ptr_same (P := Tryz.prog) w ⟨b, 0, none⟩ Tryz.underlying176 hj
    clear h
    go_enter Tryz.func160, Tryz.ntmps160
    go_wp2
    go_end0
    exact ⟨rfl, HB.out, Below.refl B _, Lib.OthersKept.refl _ _ _⟩
end Go.Proofs.YtmbiiemlepfoaaaGreatDoor

/-! The walks of the builder's WriteByte, WriteString, WriteRune. -/
namespace Go.Proofs.YtmbiiemlepfoaaaGreatDoor
open Go.RowKit
set_option linter.unusedVariables false

theorem kind_of {w : World} {B : Nat} {v : Value} {n : Nat} {xs : List Value} (h : w.ownsRow B 5 1 v n xs) : ∀ g, v.ownBlock = some g → ∃ c fz, w.heap[g]? = some (.cells c 5 fz) := by
  intro g hg
  rcases h.2 with ⟨rfl, _⟩ | ⟨k, cap, cur, rfl, _, hk, _⟩
  · simp [Value.ownBlock] at hg
  · simp [Value.ownBlock] at hg
    subst hg
    exact ⟨_, _, hk⟩
theorem own_slq {w : World} {base : Nat} {e : TypeId} {s n : Nat} {v : Value} {xs : List Value} (h : w.ownsRow base e s v n xs) : ∃ p c, v = .slice p n c := by
  rcases h.2 with ⟨rfl, rfl⟩ | ⟨g, cap, cur, rfl, _⟩
  · exact ⟨_, _, rfl⟩
  · exact ⟨_, _, rfl⟩

set_option maxHeartbeats 1000000 in
set_option maxRecDepth 100000 in
theorem wByte (w : World) {B b : Nat} {l : List UInt8} (h : Bd B b l w) (c : UInt8) (hl : l.length ≤ 1000000) (hB : B ≤ w.heap.size) :
    Calls Tryz.prog 274 #[.pointer (some ⟨b, 0, none⟩), .int .u8 (c.toNat : Int)] w fun e w' => e = .returned .nilIface ∧ Wrote w w' B b (l ++ [c]) := by
  obtain ⟨i0, hi, hz0, hz1, hz2⟩ := info_parts info5q
  have HC := Lib.hid (check w h)
  clear h
  go_enter Tryz.func274, Tryz.ntmps274
  go_wp2_with fail
  refine HC.out.mono ?_
  rintro e w1 ⟨rfl, hat, hb1, hk1⟩
  obtain ⟨hBb, v, hbk, hown, hne⟩ := hat
  have c1 : w1.cell? ⟨b, 1, none⟩ = some v := by rw [Lib.cell_of_heap hbk]; rfl
  have hs1 := hb1.size
  have HBK := Lib.hid hbk
  have HOWN := Lib.hid hown
  have HNE : Hid (v.ownBlock ≠ some b) := hne
  have HB1 := Lib.hid hb1
  have HK1 : Hid (Lib.OthersKept 5 (some b) w w1) := hk1
  clear HC hbk hown hne hb1 hk1
  go_wp2_with (at_builtin; refine wpList_append_own _ rfl _ _ 22 rfl B 5 i0 (.int .u8 0) 1 1 Tryz.underlying22 hi hz0 hz1 hz2 rfl (by decide) _ _ _ rfl (HOWN.out.alloc _) ⟨w1.heap.size, 0, none⟩ 1 1 [.int .u8 (c.toNat : Int)] rfl rfl ?c1 ?c2 ?c3 ?c4 ?c5 ?_)
  case c1 =>
    intro j u hj
    match j, hj with
    | 0, hj => simp at hj; subst hj; simp [Addr.add]
  case c2 => intro u hu; simp at hu; subst hu; rfl
  case c3 => unfold maxLen; simp; omega
  case c4 => simp; omega
  case c5 => simp; omega
  intro v' w2 hown' hgrow _
  have hlt := row_ltB HBK.out
  have hb2 : w2.heap[b]? = some (.cells #[.pointer (some ⟨b, 0, none⟩), v] 178 (0, 0)) := by
    rw [hgrow.block b (by simp; omega) (fun e => HNE.out e.symm), Lib.alloc_old w1 _ b hlt]
    exact HBK.out
  have d1 : w2.cell? ⟨b, 1, none⟩ = some v := by rw [Lib.cell_of_heap hb2]; rfl
  have f1 : w2.frozen? ⟨b, 1, none⟩ = false := Lib.frozen_of_heap hb2 1
  have hfin : Wrote w (w2.setCell ⟨b, 1, none⟩ v') B b (l ++ [c]) := by
    refine ⟨.inr ?_, ?_, ?_⟩
    · refine Lib.BuilderAt.put hBb hb2 ?_ (by decide)
      simpa [bv] using hown'
    · exact ((HB1.out.alloc (by omega) _).grown hgrow (by simp; omega) (fun k hk => (HOWN.out.lt k hk).1)).setCell (p := ⟨b, 1, none⟩) hBb _
    · exact ((HK1.out.alloc _).grown hgrow (kind_of (HOWN.out.alloc _))).setCell ⟨b, 1, none⟩ rfl _
  have HF := Lib.hid hfin
  obtain ⟨q, d, rfl⟩ := own_slq hown'
  clear hown' hgrow hb2 hfin c1
  go_wp2
  go_ret
  exact ⟨rfl, HF.out⟩

set_option maxHeartbeats 1000000 in
set_option maxRecDepth 100000 in
theorem wStr (w : World) {B b : Nat} {l : List UInt8} (h : Bd B b l w) (s : ByteArray) (hl : l.length ≤ 1000000) (hs : s.size ≤ 1000000) (hB : B ≤ w.heap.size) :
    Calls Tryz.prog 78 #[.pointer (some ⟨b, 0, none⟩), .string s] w fun e w' => e = .returned (.tuple #[.int .i64 s.size, .nilIface]) ∧ Wrote w w' B b (l ++ s.data.toList) := by
  obtain ⟨i0, hi, hz0, hz1, hz2⟩ := info_parts info5q
  have HC := Lib.hid (check w h)
  clear h
  go_enter Tryz.func78, Tryz.ntmps78
  go_wp2_with fail
  refine HC.out.mono ?_
  rintro e w1 ⟨rfl, hat, hb1, hk1⟩
  obtain ⟨hBb, v, hbk, hown, hne⟩ := hat
  have c1 : w1.cell? ⟨b, 1, none⟩ = some v := by rw [Lib.cell_of_heap hbk]; rfl
  have hs1 := hb1.size
  have HBK := Lib.hid hbk
  have HOWN := Lib.hid hown
  have HNE : Hid (v.ownBlock ≠ some b) := hne
  have HB1 := Lib.hid hb1
  have HK1 : Hid (Lib.OthersKept 5 (some b) w w1) := hk1
  clear HC hbk hown hne hb1 hk1
  go_wp2_with (at_builtin; refine Lib.wpList_append_own_string _ rfl _ _ 22 9 rfl B 5 i0 Tryz.underlying22 Tryz.underlying9 hi hz0 hz1 hz2 _ _ _ rfl HOWN.out s rfl ?c3 ?c4 ?c5 ?_)
  case c3 => unfold maxLen; simp; omega
  case c4 => simp; omega
  case c5 => omega
  intro v' w2 hown' hgrow _
  have hlt := row_ltB HBK.out
  have hb2 : w2.heap[b]? = some (.cells #[.pointer (some ⟨b, 0, none⟩), v] 178 (0, 0)) := by
    rw [hgrow.block b hlt (fun e => HNE.out e.symm)]
    exact HBK.out
  have d1 : w2.cell? ⟨b, 1, none⟩ = some v := by rw [Lib.cell_of_heap hb2]; rfl
  have f1 : w2.frozen? ⟨b, 1, none⟩ = false := Lib.frozen_of_heap hb2 1
  have hfin : Wrote w (w2.setCell ⟨b, 1, none⟩ v') B b (l ++ s.data.toList) := by
    refine ⟨.inr ?_, ?_, ?_⟩
    · refine Lib.BuilderAt.put hBb hb2 ?_ (by decide)
      rw [List.map_append, List.length_append, List.length_map, List.length_map]
      have : s.size = s.data.toList.length := by simp
      rw [← this]
      have hsc : Lib.strCells s = s.data.toList.map bv := rfl
      rw [hsc] at hown'
      simpa using hown'
    · exact (HB1.out.grown hgrow (by omega) (fun k hk => (HOWN.out.lt k hk).1)).setCell (p := ⟨b, 1, none⟩) hBb _
    · exact (HK1.out.grown hgrow (kind_of HOWN.out)).setCell ⟨b, 1, none⟩ rfl _
  have HF := Lib.hid hfin
  obtain ⟨q, d, rfl⟩ := own_slq hown'
  clear hown' hgrow hb2 hfin c1
  go_wp2
  go_ret2
  exact ⟨rfl, HF.out⟩

set_option maxHeartbeats 1000000 in
set_option maxRecDepth 100000 in
theorem wRune (w : World) {B b : Nat} {l : List UInt8} (h : Bd B b l w) (r : Nat) (m : List UInt8) (hr : r ≤ 1114111) (hm : Lib.runeCells (r : Int) = m.map bv) (hl : l.length ≤ 1000000) (hB : B ≤ w.heap.size) :
    Calls Tryz.prog 277 #[.pointer (some ⟨b, 0, none⟩), .int .i32 (r : Int)] w fun e w' => (∃ k : Int, e = .returned (.tuple #[.int .i64 k, .nilIface])) ∧ Wrote w w' B b (l ++ m) := by
  have HC := Lib.hid (check w h)
  have hk4 := Lib.runeCells_le (r : Int)
  have HM := Lib.hid hm
  clear h hm
  go_enter Tryz.func277, Tryz.ntmps277
  go_wp2_with fail
  refine HC.out.mono ?_
  rintro e w1 ⟨rfl, hat, hb1, hk1⟩
  obtain ⟨hBb, v, hbk, hown, hne⟩ := hat
  rw [List.length_map] at hown
  obtain ⟨q0, d0, rfl⟩ := own_slq hown
  have c1 : w1.cell? ⟨b, 1, none⟩ = some (.slice q0 l.length d0) := by rw [Lib.cell_of_heap hbk]; rfl
  have hs1 := hb1.size
  have HBK := Lib.hid hbk
  have HOWN := Lib.hid hown
  have HNE : Hid (_ ≠ _) := hne
  have HB1 := Lib.hid hb1
  have HK1 : Hid (Lib.OthersKept 5 (some b) w w1) := hk1
  clear HC hbk hown hne hb1 hk1
  go_wp2_with fail
  ((with_reducible refine (Tryz.utf8_AppendRune_plain B _ _ _ (r : Int) (by omega) (by omega) _ HOWN.out (by omega) (by omega)).mono ?_))
  rintro e w2 ⟨v', rfl, hown', o, hgrow⟩
  have hlt := row_ltB HBK.out
  have hb2 : w2.heap[b]? = some (.cells #[.pointer (some ⟨b, 0, none⟩), .slice q0 l.length d0] 178 (0, 0)) := by
    rw [hgrow.block b (by simp; omega) (fun e => HNE.out e.symm), Lib.alloc_old w1 _ b hlt]
    exact HBK.out
  have d1 : w2.cell? ⟨b, 1, none⟩ = some (.slice q0 l.length d0) := by rw [Lib.cell_of_heap hb2]; rfl
  have f1 : w2.frozen? ⟨b, 1, none⟩ = false := Lib.frozen_of_heap hb2 1
  have hfin : Wrote w (w2.setCell ⟨b, 1, none⟩ v') B b (l ++ m) := by
    refine ⟨.inr ?_, ?_, ?_⟩
    · refine Lib.BuilderAt.put hBb hb2 ?_ (by decide)
      rw [HM.out] at hown'
      simpa using hown'
    · exact ((HB1.out.alloc (by omega) _).grown hgrow (by simp; omega) (fun k hk => (HOWN.out.lt k hk).1)).setCell (p := ⟨b, 1, none⟩) hBb _
    · exact ((HK1.out.alloc _).grown hgrow (kind_of (HOWN.out.alloc _))).setCell ⟨b, 1, none⟩ rfl _
  have HF := Lib.hid hfin
  obtain ⟨q, d, rfl⟩ := own_slq hown'
  clear hown' hgrow hb2 hfin c1
  go_wp2
  go_ret2
  exact ⟨⟨_, rfl⟩, HF.out⟩
end Go.Proofs.YtmbiiemlepfoaaaGreatDoor

/-! The walks of hex and stray. -/
namespace Go.Proofs.YtmbiiemlepfoaaaGreatDoor
open Go.RowKit
set_option linter.unusedVariables false

/-- The digits of a number. -/
def hx (n : Nat) : Nat → List UInt8
  | 0 => []
  | k + 1 => dig (n / 16 ^ k % 16) :: hx n k

theorem and15 (n m : Nat) (hn : n < 65536) : bits .and .u32 ((n : Int) / 2 ^ (4 * m)) 15 = ((n / 16 ^ m % 16 : Nat) : Int) := by
  have e1 : (2 : Nat) ^ (4 * m) = 16 ^ m := by rw [Nat.pow_mul]
  have e2 : ((n : Int) / 2 ^ (4 * m)) = ((n / 16 ^ m : Nat) : Int) := by rw [← e1]; simp
  have e3 : n / 16 ^ m < 4294967296 := Nat.lt_of_le_of_lt (Nat.div_le_self _ _) (by omega)
  rw [e2, show (15 : Int) = ((15 : Nat) : Int) from rfl, u32_and_nat _ _ e3 (by omega)]
  rw [show (15 : Nat) = 2 ^ 4 - 1 from rfl, Nat.and_two_pow_sub_one_eq_mod]
def digits : ByteArray := ⟨#[48, 49, 50, 51, 52, 53, 54, 55, 56, 57, 97, 98, 99, 100, 101, 102]⟩
set_option maxRecDepth 100000 in
theorem index_dig (W : World) (d : Nat) (hd : d < 16) : (Instr.index 9 (.string ⟨#[48, 49, 50, 51, 52, 53, 54, 55, 56, 57, 97, 98, 99, 100, 101, 102]⟩) (.int .u32 (d : Int))).run Tryz.prog W = .ok (.int .u8 ((dig d).toNat : Int)) W := by
  match d, hd with
  | 0, _ | 1, _ | 2, _ | 3, _ | 4, _ | 5, _ | 6, _ | 7, _ | 8, _ | 9, _ | 10, _ | 11, _ | 12, _ | 13, _ | 14, _ | 15, _ => rfl
  | k + 16, h => exact absurd h (by omega)

set_option maxHeartbeats 1000000 in
set_option maxRecDepth 100000 in
theorem hexW (w : World) {B b : Nat} {l : List UInt8} (h : Bd B b l w) (n k : Nat) (hn : n < 65536) (hk : k ≤ 4) (hl : l.length ≤ 900000) (hB : B ≤ w.heap.size) :
    Calls Tryz.prog 276 #[.pointer (some ⟨b, 0, none⟩), .int .u32 (n : Int), .int .i64 (k : Int)] w fun e w' => e = .returned (.tuple #[]) ∧ Wrote w w' B b (l ++ hx n k) := by
  have H : Hid (Wrote w w B b l) := ⟨h, Below.refl _ _, Lib.OthersKept.refl _ _ _⟩
  clear h
  go_enter Tryz.func276, Tryz.ntmps276
  go_wp2
  go_loopw [6] (fun v6 wr => ∃ (j : Nat) (A : List UInt8), v6 = .int .i64 ((j : Int) - 1) ∧ j ≤ k ∧ Hid (A ++ hx n j = hx n k) ∧ A.length ≤ 4 - j ∧ Wrote w wr B b (l ++ A)) (fun v6 _ => (intOf v6 + 1).toNat)
  case atStart => exact ⟨k, [], rfl, Nat.le_refl _, rfl, Nat.zero_le _, by rw [List.append_nil]; exact H.out⟩
  case round =>
    obtain ⟨j, A, rfl, hj, HA, hAl, hw⟩ := hrel
    cases j with
    | zero =>
      have HW := Lib.hid hw
      clear hw
      have e0 : ((0 : Nat) : Int) - 1 = -1 := rfl
      rw [e0]
      go_wp2
      go_end0
      refine ⟨rfl, ?_⟩
      have := HA.out
      rw [show hx n 0 = [] from rfl, List.append_nil] at this
      rw [← this]
      exact HW.out
    | succ m =>
      have e0 : ((m + 1 : Nat) : Int) - 1 = (m : Int) := by omega
      rw [e0]
      have HW := Lib.hid hw
      have hstep : (A ++ [dig (n / 16 ^ m % 16)]) ++ hx n m = hx n k := by
        rw [List.append_assoc]
        exact HA.out
      have HST := Lib.hid hstep
      obtain ⟨dd, hdd⟩ : ∃ dd, dd = n / 16 ^ m % 16 := ⟨_, rfl⟩
      have hlt : dd < 16 := by omega
      have hbits := and15 n m hn
      rw [← hdd] at hbits
      have hix := fun W => index_dig W dd hlt
      have HDD := Lib.hid hdd
      clear hw e0 hstep hdd
      go_wp2_with fail
      refine (wByte wr HW.out.bd (dig dd) (by rw [List.length_append]; omega) (by have := HW.out.below.size; omega)).mono ?_
      rintro e w2 ⟨rfl, h2⟩
      have HW2 := Lib.hid (HW.out.trans h2)
      clear h2 hbits hix
      go_wp2
      go_roundw
      case rel => exact ⟨m, A ++ [dig dd], rfl, by omega, by rw [HDD.out]; exact HST, by rw [List.length_append]; simp; omega, by rw [← List.append_assoc]; exact HW2.out⟩
      case measure => first | (simp [intOf]; done) | (simp [intOf]; omega)
end Go.Proofs.YtmbiiemlepfoaaaGreatDoor

/-! The decoder's word on a string's bytes; the walk of stray. -/
namespace Go.Proofs.YtmbiiemlepfoaaaGreatDoor
open Go.RowKit
set_option linter.unusedVariables false

theorem get_bA (s : ByteArray) (i : Nat) : (s.get! i).toNat = bA s.data.toList i := by
  unfold bA
  by_cases h : i < s.size
  · congr 1
    have h1 : s.get! i = s[i]'h := by
      simp [ByteArray.get!, getElem!_pos, h]
      rfl
    rw [h1, List.getD_eq_getElem?_getD, List.getElem?_eq_getElem (by simpa using h)]
    rfl
  · have h2 : s.data.toList[i]? = none := List.getElem?_eq_none (by simp; omega)
    rw [List.getD_eq_getElem?_getD, h2]
    have h4 : s.data[i]? = none := Array.getElem?_eq_none (Nat.le_of_not_lt h)
    simp only [ByteArray.get!, getElem!_def, h4]
    rfl
theorem decode_dec (s : ByteArray) (i : Nat) : Utf8.decode s i = decq (s.data.toList.drop i) := by
  rw [Lib.decode_at]
  unfold decq
  rw [get_bA, get_bA, get_bA, get_bA, bA_drop, bA_drop, bA_drop, bA_drop, List.length_drop]
  simp
theorem decodeGo_dec (s : ByteArray) (h : 0 < s.size) : Lib.decodeGo s = decq s.data.toList := by
  have : Lib.decodeGo s = if s.size = 0 then (65533, 0) else Utf8.decode s 0 := rfl
  rw [this, if_neg (by omega), decode_dec, List.drop_zero]

set_option maxHeartbeats 1000000 in
set_option maxRecDepth 100000 in
theorem strayYes (w : World) (s : ByteArray) (hs : 0 < s.size) (hT : Lib.Utf8Tabs 3 4 w) (hw : wid s.data.toList = 0) :
    Calls Tryz.prog 275 #[.string s] w fun e w' => e = .returned (.bool true) ∧ Below w.heap.size w w' := by
  have hc := Tryz.utf8_DecodeRuneInString s w hT
  rw [decodeGo_dec s hs] at hc
  obtain ⟨h1, h2⟩ := (stray_iff _).2 hw
  rw [h1, h2] at hc
  have HC := Lib.hid hc
  clear hc h1 h2 hw
  go_enter Tryz.func275, Tryz.ntmps275
  go_wp2_with fail
  refine HC.out.mono ?_
  rintro e w' ⟨rfl, hb⟩
  have HB := Lib.hid hb
  clear hb
  go_wp2
  go_ret
  exact ⟨rfl, HB.out⟩
set_option maxHeartbeats 1000000 in
set_option maxRecDepth 100000 in
theorem strayNo (w : World) (s : ByteArray) (hs : 0 < s.size) (hT : Lib.Utf8Tabs 3 4 w) (hw : wid s.data.toList ≠ 0) :
    Calls Tryz.prog 275 #[.string s] w fun e w' => e = .returned (.bool false) ∧ Below w.heap.size w w' := by
  have hc := Tryz.utf8_DecodeRuneInString s w hT
  rw [decodeGo_dec s hs] at hc
  have hn : ¬ ((decq s.data.toList).1 = 65533 ∧ (decq s.data.toList).2 = 1) := fun h => hw ((stray_iff _).1 h)
  obtain ⟨⟨r, n⟩, hd⟩ : ∃ p, decq s.data.toList = p := ⟨_, rfl⟩
  rw [hd] at hc hn
  dsimp only at hc hn
  have HC := Lib.hid hc
  clear hc hw hd
  by_cases h1 : r = 65533
  · subst h1
    have h2 : ((n : Int) == 1) = false := by
      have : n ≠ 1 := fun e => hn ⟨rfl, e⟩
      simp; omega
    go_enter Tryz.func275, Tryz.ntmps275
    go_wp2_with fail
    refine HC.out.mono ?_
    rintro e w' ⟨rfl, hb⟩
    have HB := Lib.hid hb
    clear hb
    go_wp2
    go_ret
    exact ⟨rfl, HB.out⟩
  · have h2 : ((r : Int) == 65533) = false := by simp; omega
    go_enter Tryz.func275, Tryz.ntmps275
    go_wp2_with fail
    refine HC.out.mono ?_
    rintro e w' ⟨rfl, hb⟩
    have HB := Lib.hid hb
    clear hb
    go_wp2
    go_ret
    exact ⟨rfl, HB.out⟩
end Go.Proofs.YtmbiiemlepfoaaaGreatDoor

/-! The walk of Print. -/
namespace Go.Proofs.YtmbiiemlepfoaaaGreatDoor
open Go.RowKit
set_option linter.unusedVariables false

theorem conv_ofq {w : World} {p : Option Addr} {c : Nat} {l : List UInt8} (h : IsB w p c l) : (Go.convert 22 9 (.slice p l.length c)).run Tryz.prog w = .ok (.string (str l)) w :=
  h.convert (P := Tryz.prog) Tryz.underlying22 Tryz.underlying5 Tryz.underlying9
theorem Bd.iterAt {B b : Nat} {l : List UInt8} {w : World} (h : Bd B b l w) {k : Nat} {s : ByteArray} {pos : Nat} (hk : w.heap[k]? = some (.stringIter s pos)) (pos' : Nat) : Bd B b l (w.iterAt k s pos') := by
  have key : ∀ p, Lib.BuilderAt 178 5 B b p (l.map bv) w → Lib.BuilderAt 178 5 B b p (l.map bv) (w.iterAt k s pos') := by
    rintro p ⟨hB, v, hb, hown, hne⟩
    have hkb : b ≠ k := by
      intro e
      rw [e, hk] at hb
      cases hb
    refine ⟨hB, v, (Lib.iterAt_other w k b s pos' hkb).trans hb, ⟨hown.1, ?_⟩, hne⟩
    rcases hown.2 with hn | ⟨g, cap, cur, hv, hbg, hg, rest⟩
    · exact .inl hn
    · have hkg : g ≠ k := by
        intro e
        rw [e, hk] at hg
        cases hg
      exact .inr ⟨g, cap, cur, hv, hbg, (Lib.iterAt_other w k g s pos' hkg).trans hg, rest⟩
  exact h.elim (fun x => .inl (key _ x)) (fun x => .inr (key _ x))
/-- Behind a call that makes memory alone. -/
theorem Bd.below {B b : Nat} {l : List UInt8} {w w' : World} (h : Bd B b l w) (hb : Below w.heap.size w w') : Bd B b l w' := by
  have key : ∀ p, Lib.BuilderAt 178 5 B b p (l.map bv) w → Lib.BuilderAt 178 5 B b p (l.map bv) w' := by
    rintro p ⟨hB, v, hbk, hown, hne⟩
    refine ⟨hB, v, (hb.block b (row_ltB hbk)).trans hbk, ⟨hown.1, ?_⟩, hne⟩
    rcases hown.2 with hn | ⟨g, cap, cur, hv, hbg, hg, rest⟩
    · exact .inl hn
    · exact .inr ⟨g, cap, cur, hv, hbg, (hb.block g (row_ltB hg)).trans hg, rest⟩
  exact h.elim (fun x => .inl (key _ x)) (fun x => .inr (key _ x))
/-- The state of the printing: the builder, the iterator. -/
structure Pr (W : World) (b k : Nat) (s : ByteArray) (pos : Nat) (acc : List UInt8) (w : World) : Prop where
  bd : Bd W.heap.size b acc w
  it : w.heap[k]? = some (.stringIter s pos)
  ne : k ≠ b
  ge : W.heap.size ≤ k
  below : Below W.heap.size W w
theorem Pr.next {W : World} {b k : Nat} {s : ByteArray} {pos : Nat} {acc : List UInt8} {w : World} (h : Pr W b k s pos acc w) (pos' : Nat) : Pr W b k s pos' acc (w.iterAt k s pos') :=
  ⟨h.bd.iterAt h.it pos', Lib.iterAt_heap w k s pos pos' h.it, h.ne, h.ge, Lib.below_iterAt h.below h.ge s pos'⟩
theorem Pr.wrote {W : World} {b k : Nat} {s : ByteArray} {pos : Nat} {acc acc' : List UInt8} {w w' : World} (h : Pr W b k s pos acc w) (hw : Wrote w w' W.heap.size b acc') : Pr W b k s pos acc' w' :=
  ⟨hw.bd, hw.others.iter h.it h.ne, h.ne, h.ge, h.below.trans hw.below⟩
theorem Pr.quiet {W : World} {b k : Nat} {s : ByteArray} {pos : Nat} {acc : List UInt8} {w w' : World} (h : Pr W b k s pos acc w) (hb : Below w.heap.size w w') : Pr W b k s pos acc w' :=
  ⟨h.bd.below hb, (hb.block k (row_ltB h.it)).trans h.it, h.ne, h.ge, h.below.trans (hb.mono h.below.size)⟩
theorem Pr.pos {W : World} {b k : Nat} {s : ByteArray} {pos : Nat} {acc : List UInt8} {w : World} (h : Pr W b k s pos acc w) : w.iterPos k = pos := by
  unfold World.iterPos
  rw [h.it]
theorem Pr.size {W : World} {b k : Nat} {s : ByteArray} {pos : Nat} {acc : List UInt8} {w : World} (h : Pr W b k s pos acc w) : W.heap.size ≤ w.heap.size := h.below.size

theorem wRuneZ (w : World) {B b : Nat} {l : List UInt8} (h : Bd B b l w) (z : Int) (r : Nat) (hz : (r : Int) = z) (m : List UInt8) (hr : r ≤ 1114111) (hm : Lib.runeCells z = m.map bv) (hl : l.length ≤ 1000000) (hB : B ≤ w.heap.size) :
    Calls Tryz.prog 277 #[.pointer (some ⟨b, 0, none⟩), .int .i32 z] w fun e w' => (∃ k : Int, e = .returned (.tuple #[.int .i64 k, .nilIface])) ∧ Wrote w w' B b (l ++ m) := by
  subst hz
  exact wRune w h r m hr hm hl hB
theorem index_str (W : World) (l : List UInt8) (pos : Nat) (h : pos < l.length) : (Instr.index 9 (.string (str l)) (.int .i64 (pos : Int))).run Tryz.prog W = .ok (.int .u8 ((bA l pos : Nat) : Int)) W := by
  have h2 : (pos : Int) < ((str l).size : Int) := by rw [str_size]; omega
  rw [run_index_string W _ _ _ _ Tryz.underlying9, dif_pos ⟨by omega, h2⟩]
  congr 2
  have e : (bA l pos : Nat) = (l[pos]'h).toNat := by unfold bA; rw [List.getD_eq_getElem?_getD, List.getElem?_eq_getElem h]; rfl
  rw [e]
  rfl
theorem hex2 (w : World) {B b : Nat} {l : List UInt8} (h : Bd B b l w) (n : Nat) (hn : n < 65536) (hl : l.length ≤ 900000) (hB : B ≤ w.heap.size) :
    Calls Tryz.prog 276 #[.pointer (some ⟨b, 0, none⟩), .int .u32 (n : Int), .int .i64 2] w fun e w' => e = .returned (.tuple #[]) ∧ Wrote w w' B b (l ++ hx n 2) := hexW w h n 2 hn (by decide) hl hB
theorem hex4 (w : World) {B b : Nat} {l : List UInt8} (h : Bd B b l w) (n : Nat) (hn : n < 65536) (hl : l.length ≤ 900000) (hB : B ≤ w.heap.size) :
    Calls Tryz.prog 276 #[.pointer (some ⟨b, 0, none⟩), .int .u32 (n : Int), .int .i64 4] w fun e w' => e = .returned (.tuple #[]) ∧ Wrote w w' B b (l ++ hx n 4) := hexW w h n 4 hn (by decide) hl hB

set_option maxHeartbeats 4000000 in
set_option maxRecDepth 100000 in
theorem printW (w : World) {p : Option Addr} {c : Nat} {l : List UInt8} (h : IsB w p c l) (hl : l.length ≤ 2000) (hT : Lib.Utf8Tabs 3 4 w) :
    Calls Tryz.prog 232 #[.slice p l.length c] w fun e w' => e = .returned (.string (str (qt l))) ∧ Below w.heap.size w w' := by
  have H := Lib.hid h
  have HT := Lib.hid hT
  clear h hT
  go_enter Tryz.func232, Tryz.ntmps232
  go_wp2_with fail
  refine (wByte _ (B := w.heap.size) (b := w.heap.size) (l := []) (Lib.fresh_isBuilder _ _ w) 34 (by simp) (by simp)).mono ?_
  rintro e w1 ⟨rfl, hw1⟩
  have hb1 : Below w.heap.size w w1 := ((Below.refl _ w).alloc (Nat.le_refl _) _).trans hw1.below
  have kb := conv_ofq (H.out.below hb1)
  have P1 : Hid (Pr w w.heap.size w1.heap.size (str l) 0 [34] (w1.iter (str l) 0)) := by
    have hz := hb1.size
    have hlt := hw1.bd.lt
    refine ⟨hw1.bd.below ((Below.refl _ _).alloc (Nat.le_refl _) _), World.iter_heap _ _ _, by omega, hz, hb1.alloc hz _⟩
  have hne : w1.heap.size ≠ w.heap.size := by have := hw1.bd.lt; omega
  clear hw1 hb1
  go_wp2
  go_loopw [5, 6] (fun _ _ wr => ∃ (pos : Nat) (acc : List UInt8), pos ≤ l.length ∧ acc.length ≤ 1 + 6 * pos ∧ Hid (acc ++ body (l.drop pos) = 34 :: body l) ∧ Pr w w.heap.size w1.heap.size (str l) pos acc wr)
    (fun _ _ wr => l.length - wr.iterPos w1.heap.size)
  case atStart => exact ⟨0, [34], Nat.zero_le _, by simp, rfl, P1.out⟩
  case round =>
    obtain ⟨pos, acc, hpos, hacc, HA, hp⟩ := hrel
    by_cases h1 : pos < l.length
    · obtain ⟨m, hm⟩ : ∃ m, m = l.drop pos := ⟨_, rfl⟩
      have hml : m.length = l.length - pos := by rw [hm, List.length_drop]
      have hm0 : 0 < m.length := by omega
      have hstep := body_step m hm0
      have hstp := stp_le m hm0
      have hstp1 := stp_pos m
      have hdrop : m.drop (stp m) = l.drop (pos + stp m) := by rw [hm, List.drop_drop]
      rw [hdrop] at hstep
      rw [← hm, hstep] at HA
      have hdec : Utf8.decode (str l) pos = decq m := by rw [decode_dec, str_data, hm]
      have hnx := fun ty => Lib.run_next_any_at (P := Tryz.prog) wr w1.heap.size (str l) pos ty hp.it (by rw [str_size]; exact h1)
      rw [hdec] at hnx
      have hpn := fun pos' => hp.next pos'
      have hex : ((str l).extract pos (str l).size).data.toList = m := by rw [Lib.extract_to_end, str_data, hm]
      have hexs : 0 < ((str l).extract pos (str l).size).size := by
        have : ((str l).extract pos (str l).size).size = m.length := by rw [← hex]; simp
        omega
      have hb0 : (bA m 0 : Nat) = bA l pos := by rw [hm, bA_drop, Nat.add_zero]
      have gpos : (pos : Int) < ((str l).size : Int) := by rw [str_size]; omega
      have HSTR : Hid (∀ W, Below w.heap.size w W → Lib.Utf8Tabs 3 4 W) := fun W hW => Utf8Tabs_below HT.out hW
      have HPOS := Lib.hid hp.pos
      clear hstep hdrop hdec P1 HT hm hp
      rcases kind m hm0 with ⟨hw, hd, ho, hs⟩ | ⟨r, hw, hd, hr, ho, hs⟩ | ⟨r, hw, hd, hr, hr2, hb, hmx, ho, hc⟩ | ⟨r, hw, hd, hb, ho⟩
      · as_aux_lemma =>
          rw [hd] at hnx
          dsimp only at hnx
          rw [ho, hs] at HA
          have hix : ∀ W, (Instr.index 9 (.string (str l)) (.int .i64 (pos : Int))).run Tryz.prog W = .ok (.int .u8 ((bA m 0 : Nat) : Int)) W := fun W => by
            rw [index_str W l pos h1, hb0]
          have hb256 := bA_lt m 0
          have hpn2 := hpn (pos + 1)
          have HST := fun W (hW : Below w.heap.size w W) => strayYes W _ hexs (HSTR.out W hW) (by rw [hex]; exact hw)
          have HST := Lib.hid HST
          have HB0 := Lib.hid hb0
          have hc2 : hx (bA m 0) 2 = [dig (bA m 0 / 16), dig (bA m 0 % 16)] := by
            show [dig (bA m 0 / 16 ^ 1 % 16), dig (bA m 0 / 16 ^ 0 % 16)] = _
            rw [show bA m 0 / 16 ^ 1 % 16 = bA m 0 / 16 from by omega, show bA m 0 / 16 ^ 0 % 16 = bA m 0 % 16 from by omega]
          have HC2 := Lib.hid hc2
          obtain ⟨c0, hc0⟩ : ∃ c0, c0 = bA m 0 := ⟨_, rfl⟩
          rw [← hc0] at hix hb256 HC2 HA
          clear hpn hex hexs hb0 hw hd ho hs hc2 hc0
          obtain ⟨wI, hwI⟩ : ∃ x, x = wr.iterAt w1.heap.size (str l) (pos + 1) := ⟨_, rfl⟩
          rw [← hwI] at hpn2 hnx
          have PI := Lib.hid hpn2
          clear hpn2 hwI
          go_wp2_with fail
          refine (HST.out _ PI.out.below).mono ?_
          rintro e w2 ⟨rfl, hb2⟩
          have P2 := Lib.hid (PI.out.quiet hb2)
          clear hb2
          go_wp2_with fail
          refine (wStr w2 P2.out.bd ⟨#[92, 120]⟩ (by omega) (by decide) P2.out.size).mono ?_
          rintro e w3 ⟨rfl, hw3⟩
          have P3 := Lib.hid (P2.out.wrote hw3)
          clear hw3
          go_wp2_with fail
          ((with_reducible refine (hex2 w3 P3.out.bd c0 (by omega) (by rw [List.length_append]; simp; omega) P3.out.size).mono ?_))
          rintro e w4 ⟨rfl, hw4⟩
          rw [HC2.out] at hw4
          have P4 := Lib.hid (P3.out.wrote hw4)
          clear hw4
          go_wp2
          go_roundw
          case rel => exact ⟨pos + 1, _, by omega, by simp; omega, by show _ = _; rw [← HA.out]; simp, P4.out⟩
          case measure => rw [P4.out.pos, HPOS.out]; omega
      · as_aux_lemma =>
          rw [hd] at hnx
          dsimp only at hnx
          rw [ho, hs] at HA
          have hpn2 := hpn (pos + 1)
          obtain ⟨wI, hwI⟩ : ∃ x, x = wr.iterAt w1.heap.size (str l) (pos + 1) := ⟨_, rfl⟩
          rw [← hwI] at hpn2 hnx
          have PI := Lib.hid hpn2
          clear hpn hex hexs hb0 hw hd ho hs hpn2 hwI
          rcases hr with rfl | rfl
          · go_wp2_with fail
            refine (wByte wI PI.out.bd 92 (by omega) PI.out.size).mono ?_
            rintro e w2 ⟨rfl, hw2⟩
            have P2 := Lib.hid (PI.out.wrote hw2)
            clear hw2
            go_wp2_with fail
            ((with_reducible refine (wRuneZ w2 P2.out.bd 34 34 rfl [34] (by omega) rfl (by rw [List.length_append]; simp; omega) P2.out.size).mono ?_))
            rintro e w3 ⟨⟨k, rfl⟩, hw3⟩
            have P3 := Lib.hid (P2.out.wrote hw3)
            clear hw3
            go_wp2
            go_roundw
            case rel => exact ⟨pos + 1, _, by omega, by simp; omega, by show _ = _; rw [← HA.out]; simp, P3.out⟩
            case measure => rw [P3.out.pos, HPOS.out]; omega
          · go_wp2_with fail
            refine (wByte wI PI.out.bd 92 (by omega) PI.out.size).mono ?_
            rintro e w2 ⟨rfl, hw2⟩
            have P2 := Lib.hid (PI.out.wrote hw2)
            clear hw2
            go_wp2_with fail
            ((with_reducible refine (wRuneZ w2 P2.out.bd 92 92 rfl [92] (by omega) rfl (by rw [List.length_append]; simp; omega) P2.out.size).mono ?_))
            rintro e w3 ⟨⟨k, rfl⟩, hw3⟩
            have P3 := Lib.hid (P2.out.wrote hw3)
            clear hw3
            go_wp2
            go_roundw
            case rel => exact ⟨pos + 1, _, by omega, by simp; omega, by show _ = _; rw [← HA.out]; simp, P3.out⟩
            case measure => rw [P3.out.pos, HPOS.out]; omega
      · as_aux_lemma =>
          rw [hd] at hnx
          dsimp only at hnx
          rw [ho] at HA
          have hpn2 := hpn (pos + stp m)
          obtain ⟨wI, hwI⟩ : ∃ x, x = wr.iterAt w1.heap.size (str l) (pos + stp m) := ⟨_, rfl⟩
          rw [← hwI] at hpn2 hnx
          have PI := Lib.hid hpn2
          have HST := Lib.hid (fun W (hW : Below w.heap.size w W) => strayNo W _ hexs (HSTR.out W hW) (by rw [hex]; exact hw))
          have htl : (m.take (stp m)).length ≤ 4 := by
            have := Lib.runeCells_le (r : Int)
            rw [hc, List.length_map] at this
            exact this.2
          have htl6 : (m.take (stp m)).length ≤ 6 * stp m := by rw [List.length_take]; omega
          have HC := Lib.hid hc
          have q1 : ((r : Int) == 34) = false := by simp; omega
          have q2 : ((r : Int) == 92) = false := by simp; omega
          have q3 : (32 : Int) ≤ (r : Int) := by omega
          obtain ⟨t, ht⟩ : ∃ t, t = m.take (stp m) := ⟨_, rfl⟩
          rw [← ht] at HA htl htl6 HC
          obtain ⟨n, hn⟩ : ∃ n, n = stp m := ⟨_, rfl⟩
          rw [← hn] at PI htl6 hstp hstp1 HA
          clear hpn hex hexs hb0 hw hd ho hpn2 hwI hc hr hr2 ht hn
          by_cases hrr : r = 65533
          · subst hrr
            have HC65 : Lib.runeCells 65533 = t.map bv := HC.out
            go_wp2_with fail
            refine (HST.out _ PI.out.below).mono ?_
            rintro e w2 ⟨rfl, hb2⟩
            have P2 := Lib.hid (PI.out.quiet hb2)
            clear hb2 q1 q2 q3
            go_wp2_with fail
            ((with_reducible refine (wRuneZ w2 P2.out.bd 65533 65533 rfl t (by omega) HC65 (by omega) P2.out.size).mono ?_))
            rintro e w3 ⟨⟨k, rfl⟩, hw3⟩
            have P3 := Lib.hid (P2.out.wrote hw3)
            clear hw3
            go_wp2
            go_roundw
            case rel => exact ⟨pos + n, _, by omega, by rw [List.length_append]; omega, by show _ = _; rw [← HA.out]; simp, P3.out⟩
            case measure => rw [P3.out.pos, HPOS.out]; omega
          · have q0 : ((r : Int) == 65533) = false := by simp; omega
            by_cases h126 : r ≤ 126
            · have q4 : (r : Int) ≤ 126 := by omega
              go_wp2_with fail
              ((with_reducible refine (wRune wI PI.out.bd r t (by omega) HC.out (by omega) PI.out.size).mono ?_))
              rintro e w3 ⟨⟨k, rfl⟩, hw3⟩
              have P3 := Lib.hid (PI.out.wrote hw3)
              clear hw3
              go_wp2
              go_roundw
              case rel => exact ⟨pos + n, _, by omega, by rw [List.length_append]; omega, by show _ = _; rw [← HA.out]; simp, P3.out⟩
              case measure => rw [P3.out.pos, HPOS.out]; omega
            · have q4 : ¬ (r : Int) ≤ 126 := by omega
              have q5 : (160 : Int) ≤ (r : Int) := by omega
              go_wp2_with fail
              ((with_reducible refine (wRune wI PI.out.bd r t (by omega) HC.out (by omega) PI.out.size).mono ?_))
              rintro e w3 ⟨⟨k, rfl⟩, hw3⟩
              have P3 := Lib.hid (PI.out.wrote hw3)
              clear hw3
              go_wp2
              go_roundw
              case rel => exact ⟨pos + n, _, by omega, by rw [List.length_append]; omega, by show _ = _; rw [← HA.out]; simp, P3.out⟩
              case measure => rw [P3.out.pos, HPOS.out]; omega
      · as_aux_lemma =>
          rw [hd] at hnx
          dsimp only at hnx
          rw [ho] at HA
          have hpn2 := hpn (pos + stp m)
          obtain ⟨wI, hwI⟩ : ∃ x, x = wr.iterAt w1.heap.size (str l) (pos + stp m) := ⟨_, rfl⟩
          rw [← hwI] at hpn2 hnx
          have PI := Lib.hid hpn2
          obtain ⟨n, hn⟩ : ∃ n, n = stp m := ⟨_, rfl⟩
          rw [← hn] at PI hstp hstp1 HA
          have hc4 : hx r 4 = [48, 48, dig (r / 16), dig (r % 16)] := by
            show [dig (r / 16 ^ 3 % 16), dig (r / 16 ^ 2 % 16), dig (r / 16 ^ 1 % 16), dig (r / 16 ^ 0 % 16)] = _
            rw [show r / 16 ^ 3 % 16 = 0 from by omega, show r / 16 ^ 2 % 16 = 0 from by omega, show r / 16 ^ 1 % 16 = r / 16 from by omega, show r / 16 ^ 0 % 16 = r % 16 from by omega]
            rfl
          have HC4 := Lib.hid hc4
          have q0 : ((r : Int) == 65533) = false := by simp; omega
          have q1 : ((r : Int) == 34) = false := by simp; omega
          have q2 : ((r : Int) == 92) = false := by simp; omega
          have q6 : (r : Int) < 160 := by omega
          clear hpn hex hexs hb0 hw hd ho hpn2 hwI hn hc4
          by_cases h32 : r < 32
          · have q3 : (r : Int) < 32 := by omega
            go_wp2_with fail
            refine (wStr wI PI.out.bd ⟨#[92, 117]⟩ (by omega) (by decide) PI.out.size).mono ?_
            rintro e w3 ⟨rfl, hw3⟩
            have P3 := Lib.hid (PI.out.wrote hw3)
            clear hw3
            go_wp2_with fail
            ((with_reducible refine (hex4 w3 P3.out.bd r (by omega) (by rw [List.length_append]; simp; omega) P3.out.size).mono ?_))
            rintro e w4 ⟨rfl, hw4⟩
            rw [HC4.out] at hw4
            have P4 := Lib.hid (P3.out.wrote hw4)
            clear hw4
            go_wp2
            go_roundw
            case rel => exact ⟨pos + n, _, by omega, by simp; omega, by show _ = _; rw [← HA.out]; simp, P4.out⟩
            case measure => rw [P4.out.pos, HPOS.out]; omega
          · have q3 : ¬ (r : Int) < 32 := by omega
            have q4 : ¬ (r : Int) ≤ 126 := by omega
            go_wp2_with fail
            refine (wStr wI PI.out.bd ⟨#[92, 117]⟩ (by omega) (by decide) PI.out.size).mono ?_
            rintro e w3 ⟨rfl, hw3⟩
            have P3 := Lib.hid (PI.out.wrote hw3)
            clear hw3
            go_wp2_with fail
            ((with_reducible refine (hex4 w3 P3.out.bd r (by omega) (by rw [List.length_append]; simp; omega) P3.out.size).mono ?_))
            rintro e w4 ⟨rfl, hw4⟩
            rw [HC4.out] at hw4
            have P4 := Lib.hid (P3.out.wrote hw4)
            clear hw4
            go_wp2
            go_roundw
            case rel => exact ⟨pos + n, _, by omega, by simp; omega, by show _ = _; rw [← HA.out]; simp, P4.out⟩
            case measure => rw [P4.out.pos, HPOS.out]; omega
    · have HP := Lib.hid hp
      have kn := fun ty => Lib.run_next_end_at (P := Tryz.prog) wr w1.heap.size (str l) pos ty hp.it (by rw [str_size]; omega)
      have hacc2 : acc = 34 :: body l := by
        have := HA.out
        rw [List.drop_of_length_le (by omega), body_nil, List.append_nil] at this
        exact this
      have HC := Lib.hid hacc2
      clear hp hacc2
      go_wp2_with fail
      refine (wByte wr HP.out.bd 34 (by omega) HP.out.size).mono ?_
      rintro e w2 ⟨rfl, hw2⟩
      have P2 := Lib.hid (HP.out.wrote hw2)
      clear hw2
      go_wp2_with fail
      refine (Tryz.Builder_String_any w.heap.size w.heap.size (acc ++ [34]) w2 P2.out.bd P2.out.size).mono ?_
      rintro e w3 ⟨rfl, hb3⟩
      have B3 : Hid (Below w.heap.size w w3) := P2.out.below.trans hb3
      have hq : (⟨(acc ++ [34]).toArray⟩ : ByteArray) = str (qt l) := by rw [HC.out]; rfl
      rw [hq]
      clear hb3 hq
      go_wp2
      go_ret
      exact ⟨rfl, B3.out⟩
end Go.Proofs.YtmbiiemlepfoaaaGreatDoor

/-! Small laws on strings and their bytes, worlds, a range over a string: for seats that do not reach the quote laws' reference. -/
namespace Go.Proofs.YtmbiiemlepfoaaaGreatDoor
open Go.RowKit
set_option linter.unusedVariables false

theorem str_ofq (s : ByteArray) : str s.data.toList = s := by
  obtain ⟨⟨l⟩⟩ := s
  rfl
theorem index_s (W : World) (s : ByteArray) (pos : Nat) (z : Int) (hz : z = (pos : Int)) (h : pos < s.size) : (Instr.index 9 (.string s) (.int .i64 z)).run Tryz.prog W = .ok (.int .u8 ((bA s.data.toList pos : Nat) : Int)) W := by
  subst hz
  have := index_str W s.data.toList pos (by simpa using h)
  rwa [str_ofq] at this
theorem ret_i64 {a b : Int} (h : a = b) : Ending.returned (.int .i64 a) = .returned (.int .i64 b) := by rw [h]
set_option maxRecDepth 100000 in
theorem conv_one (W : World) (x : UInt8) : (Go.convert 22 9 (.slice (some ⟨W.heap.size, 0, none⟩) 1 1)).run Tryz.prog (W.alloc (.cells #[.int .u8 (x.toNat : Int)] 5)) = .ok (.string (str [x])) (W.alloc (.cells #[.int .u8 (x.toNat : Int)] 5)) :=
  conv_ofq (IsB.lit W [x] 5 (0, 0) (by show 1 ≤ maxLen; unfold maxLen; decide))
theorem cat2 (a b : List UInt8) : str a ++ str b = str (a ++ b) := by
  apply ByteArray.ext
  simp [str]
theorem below_onq {B : Nat} {w w1 w2 : World} (h : Below B w w1) (h' : Below w1.heap.size w1 w2) (hB : B ≤ w.heap.size) : Below B w w2 :=
  h.trans (h'.mono (Nat.le_trans hB h.size))
theorem sz_of (s : ByteArray) : s.data.toList.length = s.size := by simp
theorem empty_of {s : ByteArray} (h : s.size = 0) : s.data.toList = [] := List.eq_nil_of_length_eq_zero (by rw [sz_of]; exact h)
/-- The state of a range over a string: the iterator. -/
structure It (W : World) (k : Nat) (s : ByteArray) (pos : Nat) (w : World) : Prop where
  it : w.heap[k]? = some (.stringIter s pos)
  ge : W.heap.size ≤ k
  below : Below W.heap.size W w
theorem It.next {W : World} {k : Nat} {s : ByteArray} {pos : Nat} {w : World} (h : It W k s pos w) (pos' : Nat) : It W k s pos' (w.iterAt k s pos') :=
  ⟨Lib.iterAt_heap w k s pos pos' h.it, h.ge, Lib.below_iterAt h.below h.ge s pos'⟩
theorem It.quiet {W : World} {k : Nat} {s : ByteArray} {pos : Nat} {w w' : World} (h : It W k s pos w) (hb : Below w.heap.size w w') : It W k s pos w' :=
  ⟨(hb.block k (row_ltB h.it)).trans h.it, h.ge, h.below.trans (hb.mono h.below.size)⟩
theorem It.pos {W : World} {k : Nat} {s : ByteArray} {pos : Nat} {w : World} (h : It W k s pos w) : w.iterPos k = pos := by
  unfold World.iterPos
  rw [h.it]
theorem It.start (W : World) (s : ByteArray) : It W W.heap.size s 0 (W.iter s 0) := ⟨World.iter_heap _ _ _, Nat.le_refl _, (Below.refl _ W).alloc (Nat.le_refl _) _⟩
end Go.Proofs.YtmbiiemlepfoaaaGreatDoor
