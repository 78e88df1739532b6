/- The walk of number. -/
import Derived.Test.YtgbdoccgdkifjaaDoorQuCount
namespace Go.Proofs.YtgbdoccgdkifjaaDoor
open Go.RowKit
set_option linter.unusedVariables false

theorem indexByte_fnd (c : UInt8) : ∀ l : List UInt8, Lib.indexByte l c = match fnd c l with | none => -1 | some k => (k : Int)
  | [] => rfl
  | x :: l => by
    have ih := indexByte_fnd c l
    rw [Lib.indexByte, fnd]
    by_cases h : x = c
    · rw [if_pos (by simpa using h), if_pos h]; rfl
    · rw [if_neg (by simpa using h), if_neg h, ih]
      cases fnd c l with
      | none => rfl
      | some k =>
        simp only [Option.map_some]
        rw [if_neg]
        · simp
        · simp only [beq_iff_eq]; omega
theorem fnd_hex0 : ∀ n < 256, fnd (UInt8.ofNat n) [48, 49, 50, 51, 52, 53, 54, 55, 56, 57, 97, 98, 99, 100, 101, 102] = hexv (UInt8.ofNat n) := by decide +kernel
theorem fnd_hex (c : UInt8) : fnd c [48, 49, 50, 51, 52, 53, 54, 55, 56, 57, 97, 98, 99, 100, 101, 102] = hexv c := by
  have := fnd_hex0 c.toNat c.toNat_lt
  rwa [show UInt8.ofNat c.toNat = c from by simp] at this
theorem or16 (a d : Nat) (ha : a < 4096) (hd : d < 16) : bits .or .u32 ((a * 16 : Nat) : Int) (d : Int) = ((a * 16 + d : Nat) : Int) := by
  rw [u32_or_nat _ _ (by omega) (by omega)]
  have := Nat.two_pow_add_eq_or_of_lt (i := 4) (b := d) (by omega) a
  rw [show a * 16 = 2 ^ 4 * a from by omega, ← this]
theorem idxDigit (W : World) (z : Int) (x : UInt8) (hz : z.toNat.toUInt8 = x) : Calls Tryd.prog 22 #[.string ⟨#[48, 49, 50, 51, 52, 53, 54, 55, 56, 57, 97, 98, 99, 100, 101, 102]⟩, .int .u8 z] W fun e w' => e = .returned (.int .i64 (match hexv x with | none => -1 | some k => (k : Int))) ∧ W = w' := by
  have := Tryd.strings_IndexByte ⟨#[48, 49, 50, 51, 52, 53, 54, 55, 56, 57, 97, 98, 99, 100, 101, 102]⟩ z W
  rw [hz, indexByte_fnd, fnd_hex] at this
  exact this.mono fun _ _ ⟨h1, h2⟩ => ⟨h1, h2.symm⟩
theorem num_cons {a : Nat} {l : List UInt8} {pos : Nat} (h : pos < l.length) : num a (l.drop pos) = match hexv (l.getD pos 0) with | none => none | some d => num (a * 16 + d) (l.drop (pos + 1)) := by
  rw [List.drop_eq_getElem_cons h, num]
  have : l.getD pos 0 = l[pos] := by rw [List.getD_eq_getElem?_getD, List.getElem?_eq_getElem h]; rfl
  rw [this]
  cases hexv l[pos] <;> rfl

def NumR (r : Option Nat) (e : Ending) : Prop := match r with
  | none => e = .returned (.tuple #[.int .u32 0, .bool false])
  | some n => e = .returned (.tuple #[.int .u32 (n : Int), .bool true])

set_option maxHeartbeats 2000000 in
set_option maxRecDepth 100000 in
theorem numW (w : World) (l : List UInt8) (hl : l.length ≤ 4) :
    Calls Tryd.prog 30 #[.string (str l)] w fun e w' => NumR (num 0 l) e ∧ Below w.heap.size w w' := by
  have P1 := Lib.hid (It.start w (str l))
  go_enter Tryd.func30, Tryd.ntmps30
  go_wp2
  go_loopw [4, 6, 7] (fun v4 _ _ wr => ∃ (pos a : Nat), v4 = .int .u32 a ∧ pos ≤ l.length ∧ a < 16 ^ pos ∧ Hid (num a (l.drop pos) = num 0 l) ∧ It w w.heap.size (str l) pos wr)
    (fun _ _ _ wr => l.length - wr.iterPos w.heap.size)
  case atStart => exact ⟨0, 0, rfl, Nat.zero_le _, by decide, rfl, P1.out⟩
  case round =>
    obtain ⟨pos, a, rfl, hpos, ha, HA, hp⟩ := hrel
    by_cases h1 : pos < l.length
    · have ha4 : a < 4096 := Nat.lt_of_lt_of_le ha (Nat.pow_le_pow_right (by decide) (show pos ≤ 3 by omega))
      have hnc := num_cons (a := a) h1
      rw [hnc] at HA
      have hdec : Utf8.decode (str l) pos = dec (l.drop pos) := by rw [decode_dec, str_data]
      have hnx := fun ty => Lib.run_next_any_at (P := Tryd.prog) wr w.heap.size (str l) pos ty hp.it (by rw [str_size]; exact h1)
      rw [hdec] at hnx
      have hb0 : bA (l.drop pos) 0 = (l.getD pos 0).toNat := by rw [bA_drop]; rfl
      have HPOS := Lib.hid hp.pos
      generalize l.getD pos 0 = c at *
      by_cases hc : c.toNat < 128
      · have hd : dec (l.drop pos) = (c.toNat, 1) := by
          rcases first (l.drop pos) with ⟨e, e0, hd⟩ | ⟨e, e0, hd⟩ | ⟨r, e, _, hd, _, _, e0⟩ | ⟨r, e, _, hd, _, _, _, e0⟩ | ⟨r, e, _, hd, _, _, e0⟩
          · omega
          · rw [hd, hb0]
          · omega
          · omega
          · omega
        rw [hd] at hnx
        dsimp only at hnx
        have hpn2 := hp.next (pos + 1)
        obtain ⟨wI, hwI⟩ : ∃ x, x = wr.iterAt w.heap.size (str l) (pos + 1) := ⟨_, rfl⟩
        rw [← hwI] at hpn2 hnx
        have PI := Lib.hid hpn2
        have hid := idxDigit wI (c.toNat : Int) c (by simp)
        cases hx : hexv c with
        | none =>
          rw [hx] at HA hid
          dsimp only at HA hid
          have HID := Lib.hid hid
          clear hid hpn2 hwI hd hb0 hdec hnc hp hx P1
          by_cases h126 : c.toNat ≤ 126
          · have q1 : (c.toNat : Int) ≤ 126 := by omega
            have q2 : (c.toNat : Int) < 128 := by omega
            go_wp2_with fail
            refine HID.out.mono ?_
            rintro e w' ⟨rfl, rfl⟩
            go_wp2
            go_ret2
            rw [← HA.out]
            exact ⟨rfl, PI.out.below⟩
          · have q1 : ¬ (c.toNat : Int) ≤ 126 := by omega
            have q2 : (c.toNat : Int) < 128 := by omega
            go_wp2_with fail
            refine HID.out.mono ?_
            rintro e w' ⟨rfl, rfl⟩
            go_wp2
            go_ret2
            rw [← HA.out]
            exact ⟨rfl, PI.out.below⟩
        | some d =>
          have hd16 := hexv_lt hx
          have hor := or16 a d ha4 hd16
          have hor2 : bits .or .u32 ((a : Int) * 16) (d : Int) = ((a * 16 + d : Nat) : Int) := by rw [← hor]; simp
          have HOR := Lib.hid hor2
          clear hor hor2
          rw [hx] at HA hid
          dsimp only at HA hid
          have h126 : c.toNat ≤ 126 := by
            unfold hexv at hx
            split at hx
            · omega
            · split at hx
              · omega
              · cases hx
          have HID := Lib.hid hid
          have q1 : (c.toNat : Int) ≤ 126 := by omega
          have ha2 : a * 16 + d < 16 ^ (pos + 1) := by rw [Nat.pow_succ]; omega
          clear hid hpn2 hwI hd hb0 hdec hnc hp hx P1
          go_wp2_with fail
          refine HID.out.mono ?_
          rintro e w' ⟨rfl, rfl⟩
          go_wp2
          go_roundw
          case rel => exact ⟨pos + 1, a * 16 + d, by rw [HOR.out], by omega, ha2, HA, PI.out⟩
          case measure => rw [PI.out.pos, HPOS.out]; omega
      · have hx : hexv c = none := by unfold hexv; rw [if_neg (by omega), if_neg (by omega)]
        have hr128 : 128 ≤ (dec (l.drop pos)).1 := by
          rcases first (l.drop pos) with ⟨e, e0, hd⟩ | ⟨e, e0, hd⟩ | ⟨r, e, _, hd, _, _, e0⟩ | ⟨r, e, _, hd, _, _, _, e0⟩ | ⟨r, e, _, hd, _, _, e0⟩ <;> rw [hd] <;> dsimp only <;> omega
        have hrm : (dec (l.drop pos)).1 ≤ 1114111 := by
          rcases first (l.drop pos) with ⟨e, e0, hd⟩ | ⟨e, e0, hd⟩ | ⟨r, e, _, hd, _, _, e0⟩ | ⟨r, e, _, hd, _, _, _, e0⟩ | ⟨r, e, _, hd, _, _, e0⟩ <;> rw [hd] <;> dsimp only <;> omega
        rw [hx] at HA
        dsimp only at HA
        obtain ⟨⟨r, n⟩, hd⟩ : ∃ q, dec (l.drop pos) = q := ⟨_, rfl⟩
        rw [hd] at hnx hr128 hrm
        dsimp only at hnx hr128 hrm
        have hpn2 := hp.next (pos + n)
        obtain ⟨wI, hwI⟩ : ∃ x, x = wr.iterAt w.heap.size (str l) (pos + n) := ⟨_, rfl⟩
        rw [← hwI] at hpn2 hnx
        have PI := Lib.hid hpn2
        have HID : Hid (∀ z : Int, Calls Tryd.prog 22 #[.string ⟨#[48, 49, 50, 51, 52, 53, 54, 55, 56, 57, 97, 98, 99, 100, 101, 102]⟩, .int .u8 z] wI fun e w' => (∃ k : Int, e = .returned (.int .i64 k)) ∧ wI = w') := fun z => (idxDigit wI z _ rfl).mono fun _ _ ⟨h1, h2⟩ => ⟨⟨_, h1⟩, h2⟩
        have q1 : ¬ (r : Int) ≤ 126 := by omega
        clear hpn2 hwI hd hb0 hdec hnc hp hx P1
        go_wp2_with fail
        refine (HID.out _).mono ?_
        rintro e w' ⟨⟨k, rfl⟩, rfl⟩
        go_wp2
        go_ret2
        rw [← HA.out]
        exact ⟨rfl, PI.out.below⟩
    · have HP := Lib.hid hp
      have kn := fun ty => Lib.run_next_end_at (P := Tryd.prog) wr w.heap.size (str l) pos ty hp.it (by rw [str_size]; omega)
      have hq : some a = num 0 l := by
        have := HA.out
        rw [List.drop_of_length_le (by omega)] at this
        exact this
      have HQ := Lib.hid hq
      clear hp hq
      go_wp2
      go_ret2
      rw [← HQ.out]
      exact ⟨rfl, HP.out.below⟩
end Go.Proofs.YtgbdoccgdkifjaaDoor
