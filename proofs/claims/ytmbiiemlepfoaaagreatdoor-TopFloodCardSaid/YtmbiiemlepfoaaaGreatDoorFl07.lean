/- Sets of the numbers from 0 to 31 as numbers: plain Lean, no program. The walks of chunk.At, word.Cut, the bits package's small functions, OnesCount32, OnesCount64, TrailingZeros32. The walk of TrailingZeros32. The walks of OnesCount64, Place, Of. -/
import Derived.Lib.TrailingZeros
import Derived.Test.YtmbiiemlepfoaaaGreatDoorProg
import Derived.Test.YtmbiiemlepfoaaaGreatDoorFl04
import Derived.Lib.Tables
import Derived.Lib.BitFns
import Derived.Shelf.Spec.TrailingZeros
import Derived.Laws.BitsAllLaws
import Derived.Laws.Bits128

namespace Go.Proofs.YtmbiiemlepfoaaaGreatDoor
set_option linter.unusedVariables false
def bitsUp (k m : Nat) : List Nat := (List.range k).filter (m.testBit ·)
abbrev bitsOf (m : Nat) : List Nat := bitsUp 32 m
def cntUp (k m : Nat) : Nat := (bitsUp k m).length
theorem mem_bitsUp {k m i : Nat} : i ∈ bitsUp k m ↔ i < k ∧ m.testBit i = true := by simp [bitsUp]
theorem bitsUp_split (a b m : Nat) : bitsUp (a + b) m = bitsUp a m ++ (bitsUp b (m / 2 ^ a)).map (a + ·) := by
  unfold bitsUp
  rw [List.range_add, List.filter_append, List.filter_map]
  congr 3
  funext i
  simp [Nat.testBit_div_two_pow, Nat.add_comm]
theorem cnt_split (a b m : Nat) : cntUp (a + b) m = cntUp a m + cntUp b (m / 2 ^ a) := by simp [cntUp, bitsUp_split]
theorem bitsUp_congr {k m m' : Nat} (h : ∀ i, i < k → m.testBit i = m'.testBit i) : bitsUp k m = bitsUp k m' := by
  unfold bitsUp
  apply List.filter_congr
  intro i hi
  exact h i (by simpa using hi)
theorem cnt_mod (k m : Nat) : cntUp k (m % 2 ^ k) = cntUp k m := by
  unfold cntUp
  rw [bitsUp_congr (m := m % 2 ^ k) (m' := m) fun i hi => by simp [Nat.testBit_mod_two_pow, hi]]
theorem cnt_le (k m : Nat) : cntUp k m ≤ k := by
  unfold cntUp bitsUp
  have := List.length_filter_le (m.testBit ·) (List.range k)
  simpa using this
theorem cnt_mono {a b : Nat} (h : a ≤ b) (m : Nat) : cntUp a m ≤ cntUp b m := by
  obtain ⟨d, rfl⟩ := Nat.exists_eq_add_of_le h
  rw [cnt_split]; omega
theorem cnt_succ (a m : Nat) : cntUp (a + 1) m = cntUp a m + (if m.testBit a then 1 else 0) := by
  unfold cntUp bitsUp
  rw [List.range_succ, List.filter_append, List.length_append]
  by_cases h : m.testBit a = true <;> simp [h]
theorem cnt_lt {m i : Nat} (hi : i < 32) (h : m.testBit i = true) : cntUp i m < cntUp 32 m := by
  have := cnt_mono (a := i + 1) (b := 32) (by omega) m
  rw [cnt_succ, if_pos h] at this
  omega
theorem bits_at {m : Nat} : ∀ {k i : Nat}, i < k → m.testBit i = true → (bitsUp k m)[cntUp i m]? = some i
  | k, i, hi, h => by
    obtain ⟨d, rfl⟩ := Nat.exists_eq_add_of_lt hi
    rw [Nat.add_assoc, bitsUp_split]
    show (bitsUp i m ++ (bitsUp (d + 1) (m / 2 ^ i)).map (i + ·))[(bitsUp i m).length]? = _
    rw [List.getElem?_append_right (Nat.le_refl _)]
    rw [Nat.sub_self, Nat.add_comm d 1, bitsUp_split]
    have : bitsUp 1 (m / 2 ^ i) = [0] := by
      unfold bitsUp
      simp [Nat.testBit_div_two_pow, h]
    rw [this]
    simp
theorem bits_idx {m : Nat} : ∀ {k j i : Nat}, (bitsUp k m)[j]? = some i → i < k ∧ m.testBit i = true ∧ cntUp i m = j
  | 0, j, i, h => by simp [bitsUp] at h
  | k + 1, j, i, h => by
    rw [show bitsUp (k + 1) m = bitsUp k m ++ (if m.testBit k then [k] else []) from by
      unfold bitsUp
      rw [List.range_succ, List.filter_append]
      by_cases h : m.testBit k = true <;> simp [h]] at h
    by_cases hj : j < (bitsUp k m).length
    · rw [List.getElem?_append_left hj] at h
      obtain ⟨h1, h2, h3⟩ := bits_idx h
      exact ⟨by omega, h2, h3⟩
    · rw [List.getElem?_append_right (by omega)] at h
      split at h
      · rename_i hb
        cases hjj : j - (bitsUp k m).length with
        | zero =>
          rw [hjj] at h
          simp at h
          subst h
          exact ⟨by omega, hb, by unfold cntUp; omega⟩
        | succ x => rw [hjj] at h; simp at h
      · simp at h
theorem low_bits {x i q : Nat} (h : x = 2 ^ i * (2 * q + 1)) : x.testBit i = true ∧ (∀ j, j < i → x.testBit j = false) ∧ ∀ j, (x &&& (x - 1)).testBit j = (x.testBit j && decide (j ≠ i)) := by
  have hb : ∀ j, x.testBit j = if j < i then false else (2 * q + 1).testBit (j - i) := fun j => by
    rw [h, Nat.testBit_two_pow_mul]
    by_cases hj : j < i
    · simp [hj]; omega
    · simp [hj]; omega
  have hp : 0 < 2 ^ i := Nat.two_pow_pos i
  have h1 : x - 1 = 2 ^ i * (2 * q) + (2 ^ i - 1) := by
    rw [h, Nat.mul_add, Nat.mul_one]; omega
  have hc : ∀ j, (x - 1).testBit j = if j < i then true else (2 * q).testBit (j - i) := fun j => by
    rw [h1, Nat.testBit_two_pow_mul_add _ (by omega)]
    by_cases hj : j < i
    · simp [hj, Nat.testBit_two_pow_sub_one]
    · simp [hj]
  refine ⟨?_, fun j hj => by rw [hb]; simp [hj], fun j => ?_⟩
  · rw [hb]; simp
  · rw [Nat.testBit_and, hb, hc]
    by_cases hj : j < i
    · simp [hj]
    · simp only [hj, if_false]
      by_cases he : j = i
      · subst he; simp
      · obtain ⟨d, hd⟩ : ∃ d, j - i = d + 1 := ⟨j - i - 1, by omega⟩
        rw [hd, Nat.testBit_succ, Nat.testBit_succ]
        have : (2 * q + 1) / 2 = (2 * q) / 2 := by omega
        rw [this]
        simp [he]
theorem bits_next {x : Nat} (h0 : x ≠ 0) (hx : x < 4294967296) : Lib.ctz 32 x < 32 ∧ (x &&& (x - 1)) < x ∧ bitsOf x = Lib.ctz 32 x :: bitsOf (x &&& (x - 1)) := by
  obtain ⟨q, hq, hlt⟩ := Lib.ctzFrom_spec 32 x (by omega) hx
  have e : Lib.ctz 32 x = Lib.ctzFrom 32 x := by simp [Lib.ctz, h0]
  rw [e]
  generalize Lib.ctzFrom 32 x = i at *
  obtain ⟨h1, h2, h3⟩ := low_bits hq
  refine ⟨hlt, ?_, ?_⟩
  · have := Nat.and_le_right (n := x) (m := x - 1); omega
  · obtain ⟨d, hd⟩ := Nat.exists_eq_add_of_lt hlt
    have hd' : 32 = i + (1 + d) := by omega
    unfold bitsOf
    rw [hd', bitsUp_split, bitsUp_split i (1 + d) (x &&& (x - 1)), bitsUp_split 1 d (x / 2 ^ i), bitsUp_split 1 d ((x &&& (x - 1)) / 2 ^ i)]
    have a1 : bitsUp i x = [] := by
      unfold bitsUp; rw [List.filter_eq_nil_iff]; intro j hj; simp at hj; simp [h2 j hj]
    have a2 : bitsUp i (x &&& (x - 1)) = [] := by
      unfold bitsUp; rw [List.filter_eq_nil_iff]; intro j hj; simp at hj; simp [h3, h2 j hj]
    have a3 : bitsUp 1 (x / 2 ^ i) = [0] := by unfold bitsUp; simp [Nat.testBit_div_two_pow, h1]
    have a4 : bitsUp 1 ((x &&& (x - 1)) / 2 ^ i) = [] := by
      unfold bitsUp
      simp only [show List.range 1 = [0] from rfl, List.filter_cons, List.filter_nil, Nat.testBit_div_two_pow, Nat.zero_add, h3]
      simp
    have a5 : bitsUp d (x / 2 ^ i / 2 ^ 1) = bitsUp d ((x &&& (x - 1)) / 2 ^ i / 2 ^ 1) := bitsUp_congr fun j _ => by
      simp only [Nat.testBit_div_two_pow, h3]
      have : ¬ (j + 1 + i = i) := by omega
      simp [this]
    rw [a1, a2, a3, a4, a5]
    simp
theorem bits_zero : bitsOf 0 = [] := by decide
theorem with_bit (m c j : Nat) : (m ||| 2 ^ c).testBit j = (m.testBit j || decide (j = c)) := by
  rw [Nat.testBit_or, Nat.testBit_two_pow]
  by_cases h : c = j <;> simp [h, eq_comm]
theorem land_split (a b c d k : Nat) (ha : a < 2 ^ k) (hc : c < 2 ^ k) : (a + 2 ^ k * b) &&& (c + 2 ^ k * d) = (a &&& c) + 2 ^ k * (b &&& d) := by
  apply Nat.eq_of_testBit_eq
  intro j
  have hac : a &&& c < 2 ^ k := Nat.lt_of_le_of_lt Nat.and_le_left ha
  rw [Nat.add_comm a, Nat.add_comm c, Nat.add_comm (a &&& c), Nat.testBit_and, Nat.testBit_two_pow_mul_add _ ha, Nat.testBit_two_pow_mul_add _ hc, Nat.testBit_two_pow_mul_add _ hac]
  by_cases hj : j < k <;> simp [hj, Nat.testBit_and]
def valB : List Nat → Nat
  | [] => 0
  | a :: l => a + 256 * valB l
def mk (c n : Nat) : Nat := valB (List.replicate n c)
theorem mk_succ (c n : Nat) : mk c (n + 1) = c + 256 * mk c n := rfl
def b1 (a : Nat) : Nat := ((a / 2) &&& 85) + (a &&& 85)
def b2 (a : Nat) : Nat := ((a / 4) &&& 51) + (a &&& 51)
def b3 (a : Nat) : Nat := (a / 16 + a) &&& 15
theorem b1_fact : ∀ a : Fin 256, ∀ t : Fin 2, ((a.val / 2 + 128 * t.val) &&& 85) + (a.val &&& 85) = b1 a.val ∧ b1 a.val < 256 := by decide +kernel
theorem b2_fact : ∀ a : Fin 256, ∀ t : Fin 4, ((a.val / 4 + 64 * t.val) &&& 51) + (a.val &&& 51) = b2 a.val ∧ b2 a.val < 256 := by decide +kernel
theorem b2_nib : ∀ a : Fin 256, b2 (b1 a.val) % 16 ≤ 4 ∧ b2 (b1 a.val) / 16 ≤ 4 := by decide +kernel
theorem b3_nib : ∀ h : Fin 5, ∀ l : Fin 5, ∀ t : Fin 5, ((16 * h.val + l.val) / 16 + 16 * t.val + (16 * h.val + l.val)) &&& 15 = b3 (16 * h.val + l.val) := by decide +kernel
theorem b3_cnt : ∀ a : Fin 256, b3 (b2 (b1 a.val)) = cntUp 8 a.val ∧ cntUp 8 a.val ≤ 8 := by decide +kernel
theorem step1 : ∀ l : List Nat, (∀ a ∈ l, a < 256) → ((valB l / 2) &&& mk 85 l.length) + (valB l &&& mk 85 l.length) = valB (l.map b1)
  | [], _ => rfl
  | a :: l, h => by
    have ih := step1 l fun x hx => h x (by simp [hx])
    have ha := h a (by simp)
    have f := (b1_fact ⟨a, ha⟩ ⟨valB l % 2, by omega⟩).1
    dsimp only at f
    simp only [valB, List.map_cons, List.length_cons, mk_succ]
    rw [show (a + 256 * valB l) / 2 = (a / 2 + 128 * (valB l % 2)) + 2 ^ 8 * (valB l / 2) from by omega, show (256 : Nat) = 2 ^ 8 from rfl, land_split _ _ _ _ 8 (by omega) (by decide), land_split _ _ _ _ 8 ha (by decide)]
    omega
theorem step2 : ∀ l : List Nat, (∀ a ∈ l, a < 256) → ((valB l / 4) &&& mk 51 l.length) + (valB l &&& mk 51 l.length) = valB (l.map b2)
  | [], _ => rfl
  | a :: l, h => by
    have ih := step2 l fun x hx => h x (by simp [hx])
    have ha := h a (by simp)
    have f := (b2_fact ⟨a, ha⟩ ⟨valB l % 4, by omega⟩).1
    dsimp only at f
    simp only [valB, List.map_cons, List.length_cons, mk_succ]
    rw [show (a + 256 * valB l) / 4 = (a / 4 + 64 * (valB l % 4)) + 2 ^ 8 * (valB l / 4) from by omega, show (256 : Nat) = 2 ^ 8 from rfl, land_split _ _ _ _ 8 (by omega) (by decide), land_split _ _ _ _ 8 ha (by decide)]
    omega
theorem valB_mod16 : ∀ l : List Nat, (∀ a ∈ l, a % 16 ≤ 4) → valB l % 16 ≤ 4
  | [], _ => Nat.zero_le _
  | a :: l, h => by
    have := h a (by simp)
    simp only [valB]
    omega
theorem step3 : ∀ l : List Nat, (∀ a ∈ l, a % 16 ≤ 4 ∧ a / 16 ≤ 4) → (valB l / 16 + valB l) &&& mk 15 l.length = valB (l.map b3)
  | [], _ => rfl
  | a :: l, h => by
    have ih := step3 l fun x hx => h x (by simp [hx])
    have ha := h a (by simp)
    have hm := valB_mod16 l fun x hx => (h x (by simp [hx])).1
    have f := b3_nib ⟨a / 16, by omega⟩ ⟨a % 16, by omega⟩ ⟨valB l % 16, by omega⟩
    dsimp only at f
    rw [show 16 * (a / 16) + a % 16 = a from by omega] at f
    simp only [valB, List.map_cons, List.length_cons, mk_succ]
    rw [show (a + 256 * valB l) / 16 + (a + 256 * valB l) = (a / 16 + 16 * (valB l % 16) + a) + 2 ^ 8 * (valB l / 16 + valB l) from by omega, show (256 : Nat) = 2 ^ 8 from rfl, land_split _ _ _ _ 8 (by omega) (by decide)]
    omega
def bytesN : Nat → Nat → List Nat
  | 0, _ => []
  | n + 1, x => x % 256 :: bytesN n (x / 256)
theorem valB_bytes : ∀ n x, x < 256 ^ n → valB (bytesN n x) = x
  | 0, x, h => by simp at h; subst h; rfl
  | n + 1, x, h => by
    simp only [bytesN, valB]
    rw [valB_bytes n (x / 256) (by rw [Nat.pow_succ] at h; omega)]
    omega
theorem bytes_lt : ∀ n x, ∀ a ∈ bytesN n x, a < 256
  | 0, _, a, h => by simp [bytesN] at h
  | n + 1, x, a, h => by
    simp only [bytesN, List.mem_cons] at h
    rcases h with rfl | h
    · omega
    · exact bytes_lt n _ a h
theorem bytes_len : ∀ n x, (bytesN n x).length = n
  | 0, _ => rfl
  | n + 1, x => by simp [bytesN, bytes_len n]
def s3 (x : Nat) : Nat :=
  let y := ((x / 2) &&& 6148914691236517205) + (x &&& 6148914691236517205)
  let z := ((y / 4) &&& 3689348814741910323) + (y &&& 3689348814741910323)
  (z / 16 + z) &&& 1085102592571150095
theorem s3_eq (x : Nat) (h : x < 18446744073709551616) : s3 x = valB ((bytesN 8 x).map fun a => cntUp 8 a) := by
  have e := valB_bytes 8 x h
  have hl := bytes_len 8 x
  have hb := bytes_lt 8 x
  unfold s3
  generalize bytesN 8 x = l at *
  subst e
  have h1 := step1 l hb
  have h2 := step2 (l.map b1) (by intro a ha; obtain ⟨x, hx, rfl⟩ := List.mem_map.1 ha; exact (b1_fact ⟨x, hb x hx⟩ 0).2)
  have h3 := step3 ((l.map b1).map b2) (by intro a ha; obtain ⟨y, hy, rfl⟩ := List.mem_map.1 ha; obtain ⟨x, hx, rfl⟩ := List.mem_map.1 hy; exact b2_nib ⟨x, hb x hx⟩)
  rw [hl, show mk 85 8 = 6148914691236517205 from by decide] at h1
  rw [List.length_map, hl, show mk 51 8 = 3689348814741910323 from by decide] at h2
  rw [List.length_map, List.length_map, hl, show mk 15 8 = 1085102592571150095 from by decide] at h3
  dsimp only
  rw [h1, h2, h3]
  congr 1
  rw [List.map_map, List.map_map]
  apply List.map_congr_left
  intro a ha
  exact (b3_cnt ⟨a, hb a ha⟩).1
theorem s3_cnt (x : Nat) (h : x < 18446744073709551616) : ∃ p0 p1 p2 p3 p4 p5 p6 p7 : Nat, s3 x = p0 + 256 * (p1 + 256 * (p2 + 256 * (p3 + 256 * (p4 + 256 * (p5 + 256 * (p6 + 256 * p7)))))) ∧
    p0 ≤ 8 ∧ p1 ≤ 8 ∧ p2 ≤ 8 ∧ p3 ≤ 8 ∧ p4 ≤ 8 ∧ p5 ≤ 8 ∧ p6 ≤ 8 ∧ p7 ≤ 8 ∧ cntUp 64 x = p0 + p1 + p2 + p3 + p4 + p5 + p6 + p7 := by
  refine ⟨cntUp 8 (x % 256), cntUp 8 (x / 256 % 256), cntUp 8 (x / 256 / 256 % 256), cntUp 8 (x / 256 / 256 / 256 % 256), cntUp 8 (x / 256 / 256 / 256 / 256 % 256), cntUp 8 (x / 256 / 256 / 256 / 256 / 256 % 256), cntUp 8 (x / 256 / 256 / 256 / 256 / 256 / 256 % 256), cntUp 8 (x / 256 / 256 / 256 / 256 / 256 / 256 / 256 % 256), by rw [s3_eq x h]; simp only [bytesN, List.map, valB, Nat.mul_zero, Nat.add_zero], cnt_le 8 _, cnt_le 8 _, cnt_le 8 _, cnt_le 8 _, cnt_le 8 _, cnt_le 8 _, cnt_le 8 _, cnt_le 8 _, ?_⟩
  have m8 : ∀ y, cntUp 8 (y % 256) = cntUp 8 y := fun y => cnt_mod 8 y
  simp only [m8]
  rw [show 64 = 8 + (8 + (8 + (8 + (8 + (8 + (8 + 8)))))) from rfl, cnt_split 8, cnt_split 8, cnt_split 8, cnt_split 8, cnt_split 8, cnt_split 8, cnt_split 8]
  simp only [show 2 ^ 8 = 256 from rfl]
  omega
end Go.Proofs.YtmbiiemlepfoaaaGreatDoor
namespace Go.Proofs.YtmbiiemlepfoaaaGreatDoor
open Go.RowKit
set_option linter.unusedVariables false
def cutM (x f : Nat) : Nat := x / 2 ^ f % 32
def chunkM (h lv : Nat) : Nat := cutM h (5 * min lv 12)
theorem chunkM_lt (h lv : Nat) : chunkM h lv < 32 := Nat.mod_lt _ (by decide)
theorem u64cut (z : Int) (h0 : 0 ≤ z) (h1 : z < 18446744073709551616) : IntKind.u64.wrap (z * 576460752303423488) / 576460752303423488 = z % 32 := by
  rw [IntKind.wrap_u64]
  omega
theorem wordCut (w : World) (x f : Nat) (hx : x < 18446744073709551616) (hf : f ≤ 60) : Calls Tryz.prog 179 #[.int .u64 (x : Int), .int .i64 (f : Int), .int .i64 5] w fun e w' => e = .returned (.int .u64 (cutM x f : Int)) ∧ w = w' := by
  have g0 : ¬ (f : Int) < 0 := by omega
  have g1 : ¬ (0 : Int) < -(f : Int) := by omega
  have g2 : ¬ (64 : Int) < (f : Int) := by omega
  have hq : x / 2 ^ f < 18446744073709551616 := Nat.lt_of_le_of_lt (Nat.div_le_self _ _) hx
  have hz : ((x / 2 ^ f : Nat) : Int) = (x : Int) / 2 ^ f := by rw [Int.natCast_ediv, Int.natCast_pow]; rfl
  have HE := Lib.hid (show IntKind.u64.wrap ((x : Int) / 2 ^ f * 576460752303423488) / 576460752303423488 = ((cutM x f : Nat) : Int) from by rw [← hz]; unfold cutM; generalize x / 2 ^ f = q at *; rw [u64cut _ (by omega) (by omega)]; omega)
  clear hz hq
  go_enter Tryz.func179, Tryz.ntmps179
  go_wp2
  go_ret
  exact ⟨congrArg (fun t => Ending.returned (Value.int IntKind.u64 t)) HE.out, rfl⟩
theorem chunkAt (w : World) (h lv : Nat) (hh : h < 18446744073709551616) : Calls Tryz.prog 104 #[.int .u64 (h : Int), .int .i64 (lv : Int)] w fun e w' => e = .returned (.int .i64 (chunkM h lv : Int)) ∧ w = w' := by
  have hl := chunkM_lt h lv
  have CC := Lib.hid (fun w => wordCut w h (5 * min lv 12) hh (by omega))
  have g0 : ¬ (lv : Int) < 0 := by omega
  have g1 : ¬ (0 : Int) < -(lv : Int) := by omega
  unfold chunkM at *
  by_cases h12 : 12 < lv
  · have g2 : (12 : Int) < (lv : Int) := by omega
    rw [show min lv 12 = 12 from by omega] at *
    generalize cutM h (5 * 12) = c at *
    have e0 : IntKind.i64.wrap (c : Int) = (c : Int) := IntWalk.i64_in _ (by omega)
    rw [show ((5 * 12 : Nat) : Int) = 60 from rfl] at CC
    go_enter Tryz.func104, Tryz.ntmps104
    go_wp2_with (go_at_call 179; ((with_reducible refine (CC.out _).mono ?_)); rintro e w1 ⟨rfl, rfl⟩)
    go_ret
    exact ⟨rfl, rfl⟩
  · have g2 : ¬ (12 : Int) < (lv : Int) := by omega
    rw [show min lv 12 = lv from by omega] at *
    have e5 : ((5 * lv : Nat) : Int) = 5 * (lv : Int) := by omega
    have e6 : IntKind.i64.wrap (5 * (lv : Int)) = 5 * (lv : Int) := IntWalk.i64_in _ (by omega)
    rw [e5] at CC
    generalize cutM h (5 * lv) = c at *
    have e0 : IntKind.i64.wrap (c : Int) = (c : Int) := IntWalk.i64_in _ (by omega)
    clear e5
    go_enter Tryz.func104, Tryz.ntmps104
    go_wp2_with (go_at_call 179; ((with_reducible refine (CC.out _).mono ?_)); rintro e w1 ⟨rfl, rfl⟩)
    go_ret
    exact ⟨rfl, rfl⟩
theorem pop8_cnt : ∀ b : Fin 256, Lib.pop8 (b.val : Int) = (cntUp 8 b.val : Int) := by decide +kernel
theorem pop8_of (x : Nat) : Lib.pop8 ((x : Int) % 256) = (cntUp 8 (x % 256) : Int) := by
  have := pop8_cnt ⟨x % 256, Nat.mod_lt _ (by decide)⟩
  dsimp only at this
  rw [← this]
  congr 1
theorem pops32 (x : Nat) (hx : x < 4294967296) : (Lib.pop8 ((x : Int) / 16777216) + Lib.pop8 ((x : Int) / 65536 % 256) + Lib.pop8 ((x : Int) / 256 % 256) + Lib.pop8 ((x : Int) % 256)) % 256 = (cntUp 32 x : Int) := by
  have e0 := pop8_of x
  have e1 := pop8_of (x / 256)
  have e2 := pop8_of (x / 65536)
  have e3 := pop8_of (x / 16777216)
  rw [show (((x / 256 : Nat)) : Int) = (x : Int) / 256 from by omega] at e1
  rw [show (((x / 65536 : Nat)) : Int) = (x : Int) / 65536 from by omega] at e2
  rw [show (((x / 16777216 : Nat)) : Int) = (x : Int) / 16777216 from by omega, show (x : Int) / 16777216 % 256 = (x : Int) / 16777216 from by omega] at e3
  rw [e0, e1, e2, e3]
  have m8 : ∀ y, cntUp 8 (y % 256) = cntUp 8 y := fun y => cnt_mod 8 y
  simp only [m8]
  have h0 := cnt_le 8 x
  have h1 := cnt_le 8 (x / 256)
  have h2 := cnt_le 8 (x / 65536)
  have h3 := cnt_le 8 (x / 16777216)
  rw [show 32 = 8 + (8 + (8 + 8)) from rfl, cnt_split 8, cnt_split 8, cnt_split 8]
  simp only [show 2 ^ 8 = 256 from rfl, Nat.div_div_eq_div_mul]
  simp only [show 256 * 256 = 65536 from rfl, show 65536 * 256 = 16777216 from rfl]
  omega
set_option maxRecDepth 100000 in
theorem ones32 (w : World) (x : Nat) (hx : x < 4294967296) : Calls Tryz.prog 321 #[.int .u32 (x : Int)] w fun e w' => e = .returned (.int .i64 (cntUp 32 x : Int)) ∧ ∃ n, w' = w.drewN n := by
  have a1 : (0 : Int) ≤ (x : Int) / 16777216 := by omega
  have a2 : (x : Int) / 16777216 ≤ 255 := by omega
  have e1 : bits .and .u32 ((x : Int) / 65536) 255 = ((x / 65536 % 256 : Nat) : Int) := by
    have := u32_and_nat (x / 65536) 255 (by omega) (by decide)
    rw [show (255 : Nat) = 2 ^ 8 - 1 from rfl, Nat.and_two_pow_sub_one_eq_mod] at this
    rw [← this]
    congr 1
  have e2 : bits .and .u32 ((x : Int) / 256) 255 = ((x / 256 % 256 : Nat) : Int) := by
    have := u32_and_nat (x / 256) 255 (by omega) (by decide)
    rw [show (255 : Nat) = 2 ^ 8 - 1 from rfl, Nat.and_two_pow_sub_one_eq_mod] at this
    rw [← this]
    congr 1
  have e3 : bits .and .u32 (x : Int) 255 = ((x % 256 : Nat) : Int) := by
    have := u32_and_nat x 255 (by omega) (by decide)
    rw [show (255 : Nat) = 2 ^ 8 - 1 from rfl, Nat.and_two_pow_sub_one_eq_mod] at this
    exact this
  have b1 : (0 : Int) ≤ ((x / 65536 % 256 : Nat) : Int) ∧ ((x / 65536 % 256 : Nat) : Int) ≤ 255 := by omega
  have b2 : (0 : Int) ≤ ((x / 256 % 256 : Nat) : Int) ∧ ((x / 256 % 256 : Nat) : Int) ≤ 255 := by omega
  have b3 : (0 : Int) ≤ ((x % 256 : Nat) : Int) ∧ ((x % 256 : Nat) : Int) ≤ 255 := by omega
  have HE := Lib.hid (pops32 x hx)
  generalize cntUp 32 x = c at *
  go_enter Tryz.func321, Tryz.ntmps321
  go_wp2_with fail
  go_region
  all_goals
    go_wp2
    go_ret
    exact ⟨congrArg (fun t => Ending.returned (Value.int IntKind.i64 t)) HE.out, 1, rfl⟩
theorem bitsBit (w : World) (i : Nat) (hi : i < 32) : Calls Tryz.prog 247 #[.int .i64 (i : Int)] w fun e w' => e = .returned (.int .u32 ((2 ^ i : Nat) : Int)) ∧ w = w' := by
  have hp : 2 ^ i < 4294967296 := Nat.pow_lt_pow_right (a := 2) (by decide) (show i < 32 from hi)
  have HE := Lib.hid (show ((2 : Int) ^ i) % 4294967296 = ((2 ^ i : Nat) : Int) from by rw [show ((2 : Int) ^ i) = ((2 ^ i : Nat) : Int) from by rw [Int.natCast_pow]; rfl]; generalize 2 ^ i = y at *; omega)
  have g0 : ¬ (i : Int) < 0 := by omega
  have g1 : ¬ (32 : Int) ≤ (i : Int) := by omega
  obtain ⟨z, hz⟩ : ∃ z : Int, z = ((2 ^ i : Nat) : Int) := ⟨_, rfl⟩
  rw [← hz] at HE ⊢
  clear hz hp
  go_enter Tryz.func247, Tryz.ntmps247
  go_wp2
  go_ret
  exact ⟨congrArg (fun t => Ending.returned (Value.int IntKind.u32 t)) HE.out, rfl⟩
theorem and_pow (m i : Nat) : m &&& 2 ^ i = if m.testBit i then 2 ^ i else 0 := by
  apply Nat.eq_of_testBit_eq
  intro j
  rw [Nat.testBit_and, Nat.testBit_two_pow]
  by_cases h : i = j
  · subst h
    cases hb : m.testBit i <;> simp
  · cases hb : m.testBit i <;> simp [h, Nat.testBit_two_pow]
theorem and_bit (m i : Nat) : ((((m &&& 2 ^ i : Nat) : Int)) == 0) = !m.testBit i := by
  rw [and_pow]
  have hp := Nat.two_pow_pos i
  cases h : m.testBit i
  · simp
  · simp only [if_true, Bool.not_true]
    rw [beq_eq_false_iff_ne]
    omega
theorem bitsHas (w : World) (m i : Nat) (hm : m < 4294967296) (hi : i < 32) : Calls Tryz.prog 177 #[.int .u32 (m : Int), .int .i64 (i : Int)] w fun e w' => e = .returned (.bool (m.testBit i)) ∧ w = w' := by
  have CB := Lib.hid (fun w => bitsBit w i hi)
  have hp : 2 ^ i < 4294967296 := Nat.pow_lt_pow_right (a := 2) (by decide) (show i < 32 from hi)
  have h1 := u32_and_nat m (2 ^ i) hm hp
  have h2 := and_bit m i
  have h3 : ((((m &&& 2 ^ i : Nat) : Int)) != 0) = m.testBit i := by rw [bne, h2]; simp
  generalize ((2 ^ i : Nat) : Int) = z at *
  generalize ((m &&& 2 ^ i : Nat) : Int) = y at *
  generalize m.testBit i = b at *
  clear hp
  cases b
  all_goals
    go_enter Tryz.func177, Tryz.ntmps177
    go_wp2_with (go_at_call 247; ((with_reducible refine (CB.out _).mono ?_)); rintro e w1 ⟨rfl, rfl⟩)
    go_ret
    first | exact ⟨rfl, rfl⟩ | simp_all
theorem bitsWith (w : World) (m i : Nat) (hm : m < 4294967296) (hi : i < 32) : Calls Tryz.prog 297 #[.int .u32 (m : Int), .int .i64 (i : Int)] w fun e w' => e = .returned (.int .u32 ((m ||| 2 ^ i : Nat) : Int)) ∧ w = w' := by
  have CB := Lib.hid (fun w => bitsBit w i hi)
  have hp : 2 ^ i < 4294967296 := Nat.pow_lt_pow_right (a := 2) (by decide) (show i < 32 from hi)
  have h1 := u32_or_nat m (2 ^ i) hm hp
  generalize ((2 ^ i : Nat) : Int) = z at *
  generalize ((m ||| 2 ^ i : Nat) : Int) = y at *
  clear hp
  go_enter Tryz.func297, Tryz.ntmps297
  go_wp2_with (go_at_call 247; ((with_reducible refine (CB.out _).mono ?_)); rintro e w1 ⟨rfl, rfl⟩)
  go_ret
  exact ⟨rfl, rfl⟩
theorem bitsCount (w : World) (m : Nat) (hm : m < 4294967296) : Calls Tryz.prog 295 #[.int .u32 (m : Int)] w fun e w' => e = .returned (.int .i64 (cntUp 32 m : Int)) ∧ ∃ n, w' = w.drewN n := by
  have CB := Lib.hid (fun w => ones32 w m hm)
  generalize cntUp 32 m = c at *
  go_enter Tryz.func295, Tryz.ntmps295
  go_wp2_with (go_at_call 321; ((with_reducible refine (CB.out _).mono ?_)); rintro e w1 ⟨rfl, n, rfl⟩)
  go_ret
  exact ⟨rfl, _, rfl⟩
set_option maxHeartbeats 1000000 in
theorem tz32_core (x k idx : Nat) (w : World) (hx0 : ((x : Int) == 0) = false)
    (key : bits BinOp.and IntKind.u32 (x : Int) (-(x : Int) % 4294967296) * 125613361 % 4294967296 / 134217728 = (idx : Int))
    (hi : idx < 32) (hk : k < 32) (hcell : w.cell? ⟨2, idx, none⟩ = some (.int .u8 k)) :
    Calls Tryz.prog 323 #[.int .u32 x] w fun e w' => e = .returned (.int .i64 k) ∧ w = w' := by
  go_enter Tryz.func323, Tryz.ntmps323
  go_wp2
  go_ret
  exact ⟨rfl, rfl⟩
theorem tz32 (w : World) (x : Nat) (hx : x < 4294967296) (h0 : x ≠ 0) (hT : TabAt 2 Lib.deBruijn32tab w) : Calls Tryz.prog 323 #[.int .u32 (x : Int)] w fun e w' => e = .returned (.int .i64 (Lib.ctz 32 x : Int)) ∧ w = w' := by
  obtain ⟨hlow, hk⟩ := Lib.lowest_bit 32 x h0 hx
  obtain ⟨hi, htab⟩ := Lib.deBruijn32_at _ hk
  have hcell := hT _ hi
  rw [htab] at hcell
  exact tz32_core x _ _ w (by simp; omega) (tz32_key x _ hx h0 hlow) hi hk hcell
theorem and_le (a b : Nat) : a &&& b ≤ b := Nat.and_le_right
set_option maxHeartbeats 1000000 in
set_option maxRecDepth 100000 in
theorem ones64_core (w : World) (x A B y C D z u s t r q c : Nat)
    (h1 : bits .and .u64 ((x : Int) / 2) 6148914691236517205 = (A : Int)) (h2 : bits .and .u64 (x : Int) 6148914691236517205 = (B : Int)) (hy : IntKind.u64.wrap ((A : Int) + (B : Int)) = (y : Int))
    (h3 : bits .and .u64 ((y : Int) / 4) 3689348814741910323 = (C : Int)) (h4 : bits .and .u64 (y : Int) 3689348814741910323 = (D : Int)) (hz : IntKind.u64.wrap ((C : Int) + (D : Int)) = (z : Int))
    (hu : IntKind.u64.wrap ((z : Int) / 16 + (z : Int)) = (u : Int)) (h5 : bits .and .u64 (u : Int) 1085102592571150095 = (s : Int))
    (ht : IntKind.u64.wrap ((s : Int) + (s : Int) / 256) = (t : Int)) (hr : IntKind.u64.wrap ((t : Int) + (t : Int) / 65536) = (r : Int)) (hq : IntKind.u64.wrap ((r : Int) + (r : Int) / 4294967296) = (q : Int)) (hq63 : wrap64 (q : Int) = (q : Int)) (hc : (q : Int) % 128 = (c : Int)) :
    Calls Tryz.prog 248 #[.int .u64 (x : Int)] w fun e w' => e = .returned (.int .i64 (c : Int)) ∧ w = w' := by
  have h6 : bits .and .i64 (q : Int) 127 = (c : Int) := by rw [i64_and127, hc]
  have HC := Lib.hid hc
  clear hc
  go_enter Tryz.func248, Tryz.ntmps248
  go_wp2
  go_ret
  exact ⟨rfl, rfl⟩
theorem wrapU (a : Int) (n : Nat) (h : a = (n : Int)) (hn : n < 18446744073709551616) : IntKind.u64.wrap a = (n : Int) := by rw [h]; exact IntWalk.u64_in _ (by omega)
theorem ones64 (w : World) (x : Nat) (hx : x < 18446744073709551616) : Calls Tryz.prog 248 #[.int .u64 (x : Int)] w fun e w' => e = .returned (.int .i64 (cntUp 64 x : Int)) ∧ w = w' := by
  obtain ⟨p0, p1, p2, p3, p4, p5, p6, p7, hs, k0, k1, k2, k3, k4, k5, k6, k7, hc⟩ := s3_cnt x hx
  rw [hc]
  clear hc
  unfold s3 at hs
  dsimp only at hs
  have a1 := u64_and_nat (x / 2) 6148914691236517205 (by omega) (by decide)
  have a2 := u64_and_nat x 6148914691236517205 (by omega) (by decide)
  have b1' := and_le (x / 2) 6148914691236517205
  have b2' := and_le x 6148914691236517205
  generalize (x / 2) &&& 6148914691236517205 = A at *
  generalize x &&& 6148914691236517205 = B at *
  obtain ⟨y, hy⟩ : ∃ y, y = A + B := ⟨_, rfl⟩
  rw [← hy] at hs
  have a3 := u64_and_nat (y / 4) 3689348814741910323 (by omega) (by decide)
  have a4 := u64_and_nat y 3689348814741910323 (by omega) (by decide)
  have b3' := and_le (y / 4) 3689348814741910323
  have b4' := and_le y 3689348814741910323
  generalize (y / 4) &&& 3689348814741910323 = C at *
  generalize y &&& 3689348814741910323 = D at *
  obtain ⟨z, hz⟩ : ∃ z, z = C + D := ⟨_, rfl⟩
  rw [← hz] at hs
  obtain ⟨u, hu⟩ : ∃ u, u = z / 16 + z := ⟨_, rfl⟩
  rw [← hu] at hs
  have a5 := u64_and_nat u 1085102592571150095 (by omega) (by decide)
  generalize u &&& 1085102592571150095 = s at *
  obtain ⟨t, ht⟩ : ∃ t, t = s + s / 256 := ⟨_, rfl⟩
  obtain ⟨r, hr⟩ : ∃ r, r = t + t / 65536 := ⟨_, rfl⟩
  obtain ⟨q, hq⟩ : ∃ q, q = r + r / 4294967296 := ⟨_, rfl⟩
  rw [Int.natCast_ediv] at a1 a3
  refine ones64_core w x A B y C D z u s t r q _ a1 a2 (wrapU _ _ (by omega) (by omega)) a3 a4 (wrapU _ _ (by omega) (by omega)) (wrapU _ _ (by omega) (by omega)) a5 (wrapU _ _ (by omega) (by omega)) (wrapU _ _ (by omega) (by omega)) (wrapU _ _ (by omega) (by omega)) (by unfold wrap64; omega) ?_
  have hs1 : s / 256 = p1 + 256 * (p2 + 256 * (p3 + 256 * (p4 + 256 * (p5 + 256 * (p6 + 256 * p7))))) := by omega
  have ht0 : t = (p0 + p1) + 256 * ((p1 + p2) + 256 * ((p2 + p3) + 256 * ((p3 + p4) + 256 * ((p4 + p5) + 256 * ((p5 + p6) + 256 * ((p6 + p7) + 256 * p7)))))) := by omega
  clear hs hs1 ht
  have ht1 : t / 65536 = (p2 + p3) + 256 * ((p3 + p4) + 256 * ((p4 + p5) + 256 * ((p5 + p6) + 256 * ((p6 + p7) + 256 * p7)))) := by omega
  have hr0 : r = (p0 + p1 + p2 + p3) + 256 * ((p1 + p2 + p3 + p4) + 256 * ((p2 + p3 + p4 + p5) + 256 * ((p3 + p4 + p5 + p6) + 256 * ((p4 + p5 + p6 + p7) + 256 * ((p5 + p6 + p7) + 256 * ((p6 + p7) + 256 * p7)))))) := by omega
  clear ht0 ht1 hr
  have hr1 : r / 4294967296 = (p4 + p5 + p6 + p7) + 256 * ((p5 + p6 + p7) + 256 * ((p6 + p7) + 256 * p7)) := by omega
  have hq0 : q = (p0 + p1 + p2 + p3 + p4 + p5 + p6 + p7) + 256 * ((p1 + p2 + p3 + p4 + p5 + p6 + p7) + 256 * ((p2 + p3 + p4 + p5 + p6 + p7) + 256 * ((p3 + p4 + p5 + p6 + p7) + 256 * ((p4 + p5 + p6 + p7) + 256 * ((p5 + p6 + p7) + 256 * ((p6 + p7) + 256 * p7)))))) := by omega
  clear hr0 hr1 hq
  omega
theorem cnt_low (c m : Nat) (hc : c ≤ 32) : cntUp 64 (m &&& (2 ^ c - 1)) = cntUp c m := by
  rw [Nat.and_two_pow_sub_one_eq_mod]
  obtain ⟨d, hd⟩ := Nat.exists_eq_add_of_le (show c ≤ 64 by omega)
  rw [hd, cnt_split, cnt_mod, Nat.div_eq_of_lt (Nat.mod_lt _ (Nat.two_pow_pos c))]
  have : ∀ k, cntUp k 0 = 0 := fun k => by unfold cntUp bitsUp; simp
  rw [this]
  omega
set_option maxHeartbeats 1000000 in
theorem bitsPlace (w : World) (m i : Nat) (hm : m < 4294967296) (hi : i < 32) : Calls Tryz.prog 178 #[.int .u32 (m : Int), .int .i64 (i : Int)] w fun e w' => e = .returned (.int .i64 (cntUp i m : Int)) ∧ w = w' := by
  have hp : 2 ^ i < 4294967296 := Nat.pow_lt_pow_right (a := 2) (by decide) (show i < 32 from hi)
  have hp0 := Nat.two_pow_pos i
  have ha := u64_and_nat m (2 ^ i - 1) (by omega) (by omega)
  have hle : m &&& (2 ^ i - 1) ≤ m := Nat.and_le_left
  have CO := Lib.hid (fun w => ones64 w (m &&& (2 ^ i - 1)) (by omega))
  rw [cnt_low i m (by omega)] at CO
  have g0 : ¬ (i : Int) < 0 := by omega
  have g1 : ¬ (0 : Int) < -(i : Int) := by omega
  have g2 : ¬ (32 : Int) < (i : Int) := by omega
  have e1 : IntKind.u64.wrap (m : Int) = (m : Int) := IntWalk.u64_in _ (by omega)
  have e0 : ((2 : Int) ^ i) = ((2 ^ i : Nat) : Int) := by rw [Int.natCast_pow]; rfl
  have e2 : IntKind.u64.wrap ((2 : Int) ^ i) = (2 : Int) ^ i := by rw [e0]; exact IntWalk.u64_in _ (by omega)
  have e3 : IntKind.u64.wrap ((2 : Int) ^ i - 1) = ((2 ^ i - 1 : Nat) : Int) := by rw [e0]; generalize 2 ^ i = y at *; rw [IntWalk.u64_in _ (by omega)]; omega
  generalize ((2 ^ i - 1 : Nat) : Int) = z at *
  generalize ((m &&& (2 ^ i - 1) : Nat) : Int) = y at *
  generalize cntUp i m = c at *
  clear hp hp0 hle e0
  go_enter Tryz.func178, Tryz.ntmps178
  go_wp2_with (go_at_call 248; ((with_reducible refine (CO.out _).mono ?_)); rintro e w1 ⟨rfl, rfl⟩)
  go_ret
  exact ⟨rfl, rfl⟩
theorem or_lt32 {m i : Nat} (hm : m < 4294967296) (hi : i < 32) : m ||| 2 ^ i < 4294967296 := by
  have : m ||| 2 ^ i < 2 ^ 32 := Nat.or_lt_two_pow hm (Nat.pow_lt_pow_right (by decide) hi)
  exact this
set_option maxHeartbeats 1000000 in
theorem bitsOf1 (w : World) (b i : Nat) (hi : i < 32) (hc : w.cell? ⟨b, 0, none⟩ = some (.int .i64 (i : Int))) : Calls Tryz.prog 254 #[.slice (some ⟨b, 0, none⟩) 1 1] w fun e w' => e = .returned (.int .u32 ((2 ^ i : Nat) : Int)) ∧ w = w' := by
  have cw := fun w => bitsWith w 0 i (by decide) hi
  simp only [Nat.zero_or] at cw
  rw [show ((0 : Nat) : Int) = 0 from rfl] at cw
  have CW := Lib.hid cw
  clear cw
  generalize ((2 ^ i : Nat) : Int) = z at *
  go_enter Tryz.func254, Tryz.ntmps254
  go_wp2_with fail
  refine wp_loop_rounds 2 ?_
  rw [rounds_succ]
  go_wp2_with (go_at_call 297; ((with_reducible refine (CW.out _).mono ?_)); rintro e w1 ⟨rfl, rfl⟩)
  rw [rounds_succ]
  go_wp2
  go_ret
  exact ⟨rfl, rfl⟩
set_option maxHeartbeats 1000000 in
theorem bitsOf2 (w : World) (b i j : Nat) (hi : i < 32) (hj : j < 32) (hc : w.cell? ⟨b, 0, none⟩ = some (.int .i64 (i : Int))) (hc2 : w.cell? ⟨b, 1, none⟩ = some (.int .i64 (j : Int))) : Calls Tryz.prog 254 #[.slice (some ⟨b, 0, none⟩) 2 2] w fun e w' => e = .returned (.int .u32 ((2 ^ i ||| 2 ^ j : Nat) : Int)) ∧ w = w' := by
  have cw := fun w => bitsWith w 0 i (by decide) hi
  simp only [Nat.zero_or] at cw
  rw [show ((0 : Nat) : Int) = 0 from rfl] at cw
  have CW := Lib.hid cw
  have C2 := Lib.hid (fun w => bitsWith w (2 ^ i) j (Nat.pow_lt_pow_right (a := 2) (by decide) (show i < 32 from hi)) hj)
  clear cw
  generalize ((2 ^ i : Nat) : Int) = z at *
  generalize ((2 ^ i ||| 2 ^ j : Nat) : Int) = y at *
  go_enter Tryz.func254, Tryz.ntmps254
  go_wp2_with fail
  refine wp_loop_rounds 3 ?_
  rw [rounds_succ]
  go_wp2_with (go_at_call 297; ((with_reducible refine (CW.out _).mono ?_)); rintro e w1 ⟨rfl, rfl⟩)
  rw [rounds_succ]
  go_wp2_with (go_at_call 297; ((with_reducible refine (C2.out _).mono ?_)); rintro e w1 ⟨rfl, rfl⟩)
  rw [rounds_succ]
  go_wp2
  go_ret
  exact ⟨rfl, rfl⟩
end Go.Proofs.YtmbiiemlepfoaaaGreatDoor
