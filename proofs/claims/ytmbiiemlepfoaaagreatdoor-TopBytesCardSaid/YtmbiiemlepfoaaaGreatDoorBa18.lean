/- The walk of number. The walk of escape. The walk of Parse. The script's small functions: must, form, word. The walks of NewReader, fail, Err, Left, End. -/
import Derived.Test.YtmbiiemlepfoaaaGreatDoorBa17
import Derived.Test.YtmbiiemlepfoaaaGreatDoorBa16
import Derived.Test.YtmbiiemlepfoaaaGreatDoorBa02

/-! The walk of number. -/
namespace Go.Proofs.YtmbiiemlepfoaaaGreatDoor
open Go.RowKit
set_option linter.unusedVariables false

theorem indexByte_fnd (c : UInt8) : ∀ l : List UInt8, Lib.indexByte l c = match fnd c l with | none => -1 | some k => (k : Int)
  | [] => rfl
  | x :: l => by
    have ih := indexByte_fnd c l
    rw [Lib.indexByte, fnd]
    by_cases h : x = c
    · rw [if_pos (by simpa using h), if_pos h]; rfl
    · rw [if_neg (by simpa using h), if_neg h, ih]
      cases fnd c l with
      | none => rfl
      | some k =>
        simp only [Option.map_some]
        rw [if_neg]
        · simp
        · simp only [beq_iff_eq]; omega
theorem fnd_hex0 : ∀ n < 256, fnd (UInt8.ofNat n) [48, 49, 50, 51, 52, 53, 54, 55, 56, 57, 97, 98, 99, 100, 101, 102] = hexv (UInt8.ofNat n) := by decide +kernel
theorem fnd_hex (c : UInt8) : fnd c [48, 49, 50, 51, 52, 53, 54, 55, 56, 57, 97, 98, 99, 100, 101, 102] = hexv c := by
  have := fnd_hex0 c.toNat c.toNat_lt
  rwa [show UInt8.ofNat c.toNat = c from by simp] at this
theorem or16 (a d : Nat) (ha : a < 4096) (hd : d < 16) : bits .or .u32 ((a * 16 : Nat) : Int) (d : Int) = ((a * 16 + d : Nat) : Int) := by
  rw [u32_or_nat _ _ (by omega) (by omega)]
  have := Nat.two_pow_add_eq_or_of_lt (i := 4) (b := d) (by omega) a
  rw [show a * 16 = 2 ^ 4 * a from by omega, ← this]
theorem idxDigit (W : World) (z : Int) (x : UInt8) (hz : z.toNat.toUInt8 = x) : Calls Tryz.prog 326 #[.string ⟨#[48, 49, 50, 51, 52, 53, 54, 55, 56, 57, 97, 98, 99, 100, 101, 102]⟩, .int .u8 z] W fun e w' => e = .returned (.int .i64 (match hexv x with | none => -1 | some k => (k : Int))) ∧ W = w' := by
  have := Tryz.strings_IndexByte ⟨#[48, 49, 50, 51, 52, 53, 54, 55, 56, 57, 97, 98, 99, 100, 101, 102]⟩ z W
  rw [hz, indexByte_fnd, fnd_hex] at this
  exact this.mono fun _ _ ⟨h1, h2⟩ => ⟨h1, h2.symm⟩
theorem num_cons {a : Nat} {l : List UInt8} {pos : Nat} (h : pos < l.length) : num a (l.drop pos) = match hexv (l.getD pos 0) with | none => none | some d => num (a * 16 + d) (l.drop (pos + 1)) := by
  rw [List.drop_eq_getElem_cons h, num]
  have : l.getD pos 0 = l[pos] := by rw [List.getD_eq_getElem?_getD, List.getElem?_eq_getElem h]; rfl
  rw [this]
  cases hexv l[pos] <;> rfl

def NumRq (r : Option Nat) (e : Ending) : Prop := match r with
  | none => e = .returned (.tuple #[.int .u32 0, .bool false])
  | some n => e = .returned (.tuple #[.int .u32 (n : Int), .bool true])

set_option maxHeartbeats 2000000 in
set_option maxRecDepth 100000 in
theorem numW (w : World) (l : List UInt8) (hl : l.length ≤ 4) :
    Calls Tryz.prog 337 #[.string (str l)] w fun e w' => NumRq (num 0 l) e ∧ Below w.heap.size w w' := by
  have P1 := Lib.hid (It.start w (str l))
  go_enter Tryz.func337, Tryz.ntmps337
  go_wp2
  go_loopw [4, 6, 7] (fun v4 _ _ wr => ∃ (pos a : Nat), v4 = .int .u32 a ∧ pos ≤ l.length ∧ a < 16 ^ pos ∧ Hid (num a (l.drop pos) = num 0 l) ∧ It w w.heap.size (str l) pos wr)
    (fun _ _ _ wr => l.length - wr.iterPos w.heap.size)
  case atStart => exact ⟨0, 0, rfl, Nat.zero_le _, by decide, rfl, P1.out⟩
  case round =>
    obtain ⟨pos, a, rfl, hpos, ha, HA, hp⟩ := hrel
    by_cases h1 : pos < l.length
    · have ha4 : a < 4096 := Nat.lt_of_lt_of_le ha (Nat.pow_le_pow_right (by decide) (show pos ≤ 3 by omega))
      have hnc := num_cons (a := a) h1
      rw [hnc] at HA
      have hdec : Utf8.decode (str l) pos = decq (l.drop pos) := by rw [decode_dec, str_data]
      have hnx := fun ty => Lib.run_next_any_at (P := Tryz.prog) wr w.heap.size (str l) pos ty hp.it (by rw [str_size]; exact h1)
      rw [hdec] at hnx
      have hb0 : bA (l.drop pos) 0 = (l.getD pos 0).toNat := by rw [bA_drop]; rfl
      have HPOS := Lib.hid hp.pos
      generalize l.getD pos 0 = c at *
      by_cases hc : c.toNat < 128
      · have hd : decq (l.drop pos) = (c.toNat, 1) := by
          rcases first (l.drop pos) with ⟨e, e0, hd⟩ | ⟨e, e0, hd⟩ | ⟨r, e, _, hd, _, _, e0⟩ | ⟨r, e, _, hd, _, _, _, e0⟩ | ⟨r, e, _, hd, _, _, e0⟩
          · omega
          · rw [hd, hb0]
          · omega
          · omega
          · omega
        rw [hd] at hnx
        dsimp only at hnx
        have hpn2 := hp.next (pos + 1)
        obtain ⟨wI, hwI⟩ : ∃ x, x = wr.iterAt w.heap.size (str l) (pos + 1) := ⟨_, rfl⟩
        rw [← hwI] at hpn2 hnx
        have PI := Lib.hid hpn2
        have hid := idxDigit wI (c.toNat : Int) c (by simp)
        cases hx : hexv c with
        | none =>
          rw [hx] at HA hid
          dsimp only at HA hid
          have HID := Lib.hid hid
          clear hid hpn2 hwI hd hb0 hdec hnc hp hx P1
          by_cases h126 : c.toNat ≤ 126
          · have q1 : (c.toNat : Int) ≤ 126 := by omega
            have q2 : (c.toNat : Int) < 128 := by omega
            go_wp2_with fail
            refine HID.out.mono ?_
            rintro e w' ⟨rfl, rfl⟩
            go_wp2
            go_ret2
            rw [← HA.out]
            exact ⟨rfl, PI.out.below⟩
          · have q1 : ¬ (c.toNat : Int) ≤ 126 := by omega
            have q2 : (c.toNat : Int) < 128 := by omega
            go_wp2_with fail
            refine HID.out.mono ?_
            rintro e w' ⟨rfl, rfl⟩
            go_wp2
            go_ret2
            rw [← HA.out]
            exact ⟨rfl, PI.out.below⟩
        | some d =>
          have hd16 := hexv_lt hx
          have hor := or16 a d ha4 hd16
          have hor2 : bits .or .u32 ((a : Int) * 16) (d : Int) = ((a * 16 + d : Nat) : Int) := by rw [← hor]; simp
          have HOR := Lib.hid hor2
          clear hor hor2
          rw [hx] at HA hid
          dsimp only at HA hid
          have h126 : c.toNat ≤ 126 := by
            unfold hexv at hx
            split at hx
            · omega
            · split at hx
              · omega
              · cases hx
          have HID := Lib.hid hid
          have q1 : (c.toNat : Int) ≤ 126 := by omega
          have ha2 : a * 16 + d < 16 ^ (pos + 1) := by rw [Nat.pow_succ]; omega
          clear hid hpn2 hwI hd hb0 hdec hnc hp hx P1
          go_wp2_with fail
          refine HID.out.mono ?_
          rintro e w' ⟨rfl, rfl⟩
          go_wp2
          go_roundw
          case rel => exact ⟨pos + 1, a * 16 + d, by rw [HOR.out], by omega, ha2, HA, PI.out⟩
          case measure => rw [PI.out.pos, HPOS.out]; omega
      · have hx : hexv c = none := by unfold hexv; rw [if_neg (by omega), if_neg (by omega)]
        have hr128 : 128 ≤ (decq (l.drop pos)).1 := by
          rcases first (l.drop pos) with ⟨e, e0, hd⟩ | ⟨e, e0, hd⟩ | ⟨r, e, _, hd, _, _, e0⟩ | ⟨r, e, _, hd, _, _, _, e0⟩ | ⟨r, e, _, hd, _, _, e0⟩ <;> rw [hd] <;> dsimp only <;> omega
        have hrm : (decq (l.drop pos)).1 ≤ 1114111 := by
          rcases first (l.drop pos) with ⟨e, e0, hd⟩ | ⟨e, e0, hd⟩ | ⟨r, e, _, hd, _, _, e0⟩ | ⟨r, e, _, hd, _, _, _, e0⟩ | ⟨r, e, _, hd, _, _, e0⟩ <;> rw [hd] <;> dsimp only <;> omega
        rw [hx] at HA
        dsimp only at HA
        obtain ⟨⟨r, n⟩, hd⟩ : ∃ q, decq (l.drop pos) = q := ⟨_, rfl⟩
        rw [hd] at hnx hr128 hrm
        dsimp only at hnx hr128 hrm
        have hpn2 := hp.next (pos + n)
        obtain ⟨wI, hwI⟩ : ∃ x, x = wr.iterAt w.heap.size (str l) (pos + n) := ⟨_, rfl⟩
        rw [← hwI] at hpn2 hnx
        have PI := Lib.hid hpn2
        have HID : Hid (∀ z : Int, Calls Tryz.prog 326 #[.string ⟨#[48, 49, 50, 51, 52, 53, 54, 55, 56, 57, 97, 98, 99, 100, 101, 102]⟩, .int .u8 z] wI fun e w' => (∃ k : Int, e = .returned (.int .i64 k)) ∧ wI = w') := fun z => (idxDigit wI z _ rfl).mono fun _ _ ⟨h1, h2⟩ => ⟨⟨_, h1⟩, h2⟩
        have q1 : ¬ (r : Int) ≤ 126 := by omega
        clear hpn2 hwI hd hb0 hdec hnc hp hx P1
        go_wp2_with fail
        refine (HID.out _).mono ?_
        rintro e w' ⟨⟨k, rfl⟩, rfl⟩
        go_wp2
        go_ret2
        rw [← HA.out]
        exact ⟨rfl, PI.out.below⟩
    · have HP := Lib.hid hp
      have kn := fun ty => Lib.run_next_end_at (P := Tryz.prog) wr w.heap.size (str l) pos ty hp.it (by rw [str_size]; omega)
      have hq : some a = num 0 l := by
        have := HA.out
        rw [List.drop_of_length_le (by omega)] at this
        exact this
      have HQ := Lib.hid hq
      clear hp hq
      go_wp2
      go_ret2
      rw [← HQ.out]
      exact ⟨rfl, HP.out.below⟩
end Go.Proofs.YtmbiiemlepfoaaaGreatDoor

/-! The walk of escape. -/
namespace Go.Proofs.YtmbiiemlepfoaaaGreatDoor
open Go.RowKit
set_option linter.unusedVariables false

theorem ofInt_toUInt8 {z : Int} {n : Nat} (h : z = (n : Int)) : z.toNat.toUInt8 = UInt8.ofNat n := by subst h; rfl
theorem encode_str (n : Nat) (hn : n < 65536) : Utf8.encode (n : Int) = str (Lib.encodeRune (n : Int)) := by
  unfold Utf8.encode Lib.encodeRune
  by_cases hv : 55296 ≤ n ∧ n ≤ 57343
  · have hvv : Utf8.valid (n : Int) = false := by simp [Utf8.valid]; omega
    rw [hvv, Lib.encodeRuneZ_bad (by omega)]
    simp only [Bool.false_eq_true, if_false, Utf8.runeError]
    rfl
  · have hvv : Utf8.valid (n : Int) = true := by simp [Utf8.valid]; omega
    rw [hvv]
    simp only [if_true, Int.toNat_natCast]
    by_cases h1 : n < 128
    · rw [if_pos h1, Lib.encodeRuneZ_one (by omega) (by omega)]
      rfl
    · rw [if_neg h1]
      by_cases h2 : n < 2048
      · rw [if_pos h2, Lib.encodeRuneZ_two (by omega) (by omega)]
        simp only [List.map_cons, List.map_nil, ofInt_toUInt8 (show (192 : Int) + (n : Int) / 64 = ((192 + n / 64 : Nat) : Int) from by omega), ofInt_toUInt8 (show (128 : Int) + (n : Int) % 64 = ((128 + n % 64 : Nat) : Int) from by omega)]
        rfl
      · rw [if_neg h2, if_pos (by omega), Lib.encodeRuneZ_three (by omega)]
        simp only [List.map_cons, List.map_nil, ofInt_toUInt8 (show (224 : Int) + (n : Int) / 4096 = ((224 + n / 4096 : Nat) : Int) from by omega), ofInt_toUInt8 (show (128 : Int) + (n : Int) / 64 % 64 = ((128 + n / 64 % 64 : Nat) : Int) from by omega), ofInt_toUInt8 (show (128 : Int) + (n : Int) % 64 = ((128 + n % 64 : Nat) : Int) from by omega)]
        rfl
def EscR (r : Option (List UInt8 × Nat)) (e : Ending) : Prop := match r with
  | none => e = .returned (.tuple #[.string ⟨#[]⟩, .int .i64 0])
  | some (t, n) => e = .returned (.tuple #[.string (str t), .int .i64 (n : Int)])
theorem cut_str (l : List UInt8) (a b : Nat) : (str l).extract a b = str ((l.drop a).take (b - a)) := by
  apply ByteArray.ext
  apply Array.toList_inj.1
  rw [str_data]
  simp [str]

set_option maxHeartbeats 2000000 in
set_option maxRecDepth 100000 in
theorem escW (w : World) (l : List UInt8) (hl : l.length ≤ 2000) :
    Calls Tryz.prog 327 #[.string (str l)] w fun e w' => EscR (esc l) e ∧ Below w.heap.size w w' := by
  cases l with
  | nil =>
    have : str [] = ⟨#[]⟩ := rfl
    rw [this]
    go_enter Tryz.func327, Tryz.ntmps327
    go_wp2
    go_ret2
    exact ⟨rfl, Below.refl _ _⟩
  | cons c r =>
    have hlen : (str (c :: r)).size = r.length + 1 := str_size _
    simp only [List.length_cons] at hl
    have hix := fun W => index_s W (str (c :: r)) 0 0 rfl (by omega)
    have hb0 : bA (str (c :: r)).data.toList 0 = c.toNat := rfl
    rw [hb0] at hix
    have hne : (str (c :: r)).toList = c :: r := str_toList _
    have hem : (str (c :: r)).toList.isEmpty = false := by rw [hne]; rfl
    have hcut := cut_str (c :: r)
    have he : esc (c :: r) = if c.toNat = 34 ∨ c.toNat = 92 then some ([c], 1)
      else if c.toNat = 120 then (if 2 ≤ r.length then (num 0 (r.take 2)).map fun n => ([UInt8.ofNat n], 3) else none)
      else if c.toNat = 117 then (if 4 ≤ r.length then (num 0 (r.take 4)).map fun n : Nat => (Lib.encodeRune (n : Int), 5) else none)
      else none := rfl
    have hc1 : (str (c :: r)).extract 0 1 = str [c] := hcut 0 1
    have hc2 : (str (c :: r)).extract 1 3 = str (r.take 2) := hcut 1 3
    have hc4 : (str (c :: r)).extract 1 5 = str (r.take 4) := hcut 1 5
    have hnum2 := numW w (r.take 2) (by rw [List.length_take]; omega)
    have hnum4 := numW w (r.take 4) (by rw [List.length_take]; omega)
    rw [← hc2] at hnum2
    rw [← hc4] at hnum4
    have HN2 := Lib.hid hnum2
    have HN4 := Lib.hid hnum4
    have HC1 := Lib.hid hc1
    obtain ⟨s, hs⟩ : ∃ s, s = str (c :: r) := ⟨_, rfl⟩
    rw [← hs] at hlen hix hem HN2 HN4 HC1 ⊢
    generalize esc (c :: r) = E at *
    obtain ⟨n0, hn0⟩ : ∃ n0, n0 = c.toNat := ⟨_, rfl⟩
    rw [← hn0] at hix he
    have h256 : n0 < 256 := by rw [hn0]; exact c.toNat_lt
    have hsz : (s.size : Int) = (r.length : Int) + 1 := by omega
    have hem2 : s.toList ≠ [] := fun h => by rw [h] at hem; cases hem
    clear hne hb0 hcut hc1 hc2 hc4 hs hn0 hnum2 hnum4 hlen
    by_cases hq : n0 = 34 ∨ n0 = 92
    · rw [if_pos hq] at he
      have HE := Lib.hid he
      have g1 : (1 : Int) ≤ (s.size : Int) := by omega
      clear he
      rcases hq with rfl | rfl
      all_goals
        go_enter Tryz.func327, Tryz.ntmps327
        go_wp2
        go_ret2
        rw [HE.out, HC1.out]
        exact ⟨rfl, Below.refl _ _⟩
    rw [if_neg hq] at he
    have q1 : ((n0 : Int) == 34) = false := by simp; omega
    have q2 : ((n0 : Int) == 92) = false := by simp; omega
    by_cases hx : n0 = 120
    · subst hx
      rw [if_pos rfl] at he
      clear q1 q2 hq
      by_cases h2 : 2 ≤ r.length
      · rw [if_pos h2] at he
        have g1 : ¬ (s.size : Int) ≤ 2 := by omega
        have g2 : (3 : Int) ≤ (s.size : Int) := by omega
        cases hnm : num 0 (r.take 2) with
        | none =>
          rw [hnm] at he HN2
          have HE := Lib.hid he
          clear he hnm
          go_enter Tryz.func327, Tryz.ntmps327
          go_wp2_with fail
          refine HN2.out.mono ?_
          rintro e w2 ⟨he, hb⟩
          obtain rfl : e = .returned (.tuple #[.int .u32 0, .bool false]) := he
          have HB := Lib.hid hb
          clear hb
          go_wp2
          go_ret2
          rw [HE.out]
          exact ⟨rfl, HB.out⟩
        | some n =>
          rw [hnm] at he HN2
          have hn := num_lt _ _ _ hnm
          have hn256 : n < 256 := by
            have : (r.take 2).length ≤ 2 := by rw [List.length_take]; omega
            have h16 : 16 ^ (r.take 2).length ≤ 16 ^ 2 := Nat.pow_le_pow_right (by decide) this
            omega
          have HE := Lib.hid he
          have hkc : ∀ W : World, (Go.convert 22 9 (.slice (some ⟨W.heap.size, 0, none⟩) 1 1)).run Tryz.prog (W.alloc (.cells #[.int .u8 (n : Int)] 5)) = .ok (.string (str [UInt8.ofNat n])) (W.alloc (.cells #[.int .u8 (n : Int)] 5)) := fun W => by
            have := conv_one W (UInt8.ofNat n)
            rwa [UInt8.toNat_ofNat', Nat.mod_eq_of_lt hn256] at this
          have HKC := Lib.hid hkc
          have n256 : (n : Int) < 256 := by omega
          clear he hnm hn hkc
          go_enter Tryz.func327, Tryz.ntmps327
          go_wp2_with fail
          refine HN2.out.mono ?_
          rintro e w2 ⟨he, hb⟩
          obtain rfl : e = .returned (.tuple #[.int .u32 (n : Int), .bool true]) := he
          have HB := Lib.hid hb
          have kc := HKC.out w2
          clear hb
          go_wp2
          go_ret2
          rw [HE.out]
          exact ⟨rfl, HB.out.alloc HB.out.size _⟩
      · rw [if_neg h2] at he
        have g1 : (s.size : Int) ≤ 2 := by omega
        have HE := Lib.hid he
        clear he
        go_enter Tryz.func327, Tryz.ntmps327
        go_wp2
        go_ret2
        rw [HE.out]
        exact ⟨rfl, Below.refl _ _⟩
    rw [if_neg hx] at he
    have q3 : ((n0 : Int) == 120) = false := by simp; omega
    by_cases hu : n0 = 117
    · subst hu
      rw [if_pos rfl] at he
      clear q1 q2 q3 hq hx
      by_cases h4 : 4 ≤ r.length
      · rw [if_pos h4] at he
        have g1 : ¬ (s.size : Int) ≤ 4 := by omega
        have g2 : (5 : Int) ≤ (s.size : Int) := by omega
        cases hnm : num 0 (r.take 4) with
        | none =>
          rw [hnm] at he HN4
          have HE := Lib.hid he
          clear he hnm
          go_enter Tryz.func327, Tryz.ntmps327
          go_wp2_with fail
          refine HN4.out.mono ?_
          rintro e w2 ⟨he, hb⟩
          obtain rfl : e = .returned (.tuple #[.int .u32 0, .bool false]) := he
          have HB := Lib.hid hb
          clear hb
          go_wp2
          go_ret2
          rw [HE.out]
          exact ⟨rfl, HB.out⟩
        | some n =>
          rw [hnm] at he HN4
          have hn := num_lt _ _ _ hnm
          have hn6 : n < 65536 := by
            have : (r.take 4).length ≤ 4 := by rw [List.length_take]; omega
            have h16 : 16 ^ (r.take 4).length ≤ 16 ^ 4 := Nat.pow_le_pow_right (by decide) this
            omega
          have HE := Lib.hid he
          have HN6 : Hid (n < 65536) := hn6
          have n6 : IntKind.i32.wrap (n : Int) = (n : Int) := IntWalk.i32_in _ (by omega)
          clear he hnm hn hn6
          go_enter Tryz.func327, Tryz.ntmps327
          go_wp2_with fail
          refine HN4.out.mono ?_
          rintro e w2 ⟨he, hb⟩
          obtain rfl : e = .returned (.tuple #[.int .u32 (n : Int), .bool true]) := he
          have HB := Lib.hid hb
          clear hb
          go_wp2
          go_ret2
          rw [HE.out, encode_str n HN6.out]
          exact ⟨rfl, HB.out⟩
      · rw [if_neg h4] at he
        have g1 : (s.size : Int) ≤ 4 := by omega
        have HE := Lib.hid he
        clear he
        go_enter Tryz.func327, Tryz.ntmps327
        go_wp2
        go_ret2
        rw [HE.out]
        exact ⟨rfl, Below.refl _ _⟩
    rw [if_neg hu] at he
    have q4 : ((n0 : Int) == 117) = false := by simp; omega
    have HE := Lib.hid he
    clear he
    go_enter Tryz.func327, Tryz.ntmps327
    go_wp2
    go_ret2
    rw [HE.out]
    exact ⟨rfl, Below.refl _ _⟩
end Go.Proofs.YtmbiiemlepfoaaaGreatDoor

/-! The walk of Parse. -/
namespace Go.Proofs.YtmbiiemlepfoaaaGreatDoor
open Go.RowKit
set_option linter.unusedVariables false

theorem IsB.ownq {w : World} {base : Nat} {e : TypeId} {p : Option Addr} {c : Nat} {l : List UInt8} (h : w.ownsRow base e 1 (.slice p l.length c) l.length (l.map bv)) : IsB w p c l := by
  rcases h.2 with ⟨hv, hn⟩ | ⟨g, cap, cur, hv, hg, hh, hnc, hcm, hcs, ht⟩
  · injection hv with h1 h2 h3
    subst h1; subst h3
    obtain rfl : l = [] := List.eq_nil_of_length_eq_zero hn
    exact IsB.none_ w
  · injection hv with h1 h2 h3
    subst h1; subst h3
    refine ⟨hnc, fun h => by simp at h, hcm, fun _ => ⟨g, 0, rfl, row_ltB hh, fun i x hx => ?_⟩⟩
    have := h.cells (g := g) rfl i (bv x) (by simp [hx])
    simpa [Addr.add_lit] using this
theorem owns_belowq {w w' : World} {base : Nat} {e : TypeId} {s n : Nat} {v : Value} {xs : List Value} (h : w.ownsRow base e s v n xs) (hb : Below w.heap.size w w') : w'.ownsRow base e s v n xs :=
  ⟨h.1, h.2.imp id fun ⟨g, cap, cur, h1, h2, h3, h4⟩ => ⟨g, cap, cur, h1, h2, (hb.block g (row_ltB h3)).trans h3, h4⟩⟩
/-- What is parsed of a text; none: it is no quoted text. -/
def pars (l : List UInt8) : Option (List UInt8) :=
  if 2 ≤ l.length ∧ bA l 0 = 34 ∧ bA l (l.length - 1) = 34 then
    match unq [] ((l.drop 1).take (l.length - 2)) with
    | none => none
    | some b => if qt b = l then some b else none
  else none
/-- The same, with a row of the call's own. -/
def ParO (r : Option (List UInt8)) (e : Ending) (w' : World) : Prop := match r with
  | none => e = .returned (.tuple #[.slice none 0 0, .int .i64 2])
  | some b => ∃ base q d, e = .returned (.tuple #[.slice q b.length d, .int .i64 0]) ∧ w'.ownsRow base 5 1 (.slice q b.length d) b.length (b.map bv)
def ParR (r : Option (List UInt8)) (e : Ending) (w' : World) : Prop := match r with
  | none => e = .returned (.tuple #[.slice none 0 0, .int .i64 2])
  | some b => ∃ q d, e = .returned (.tuple #[.slice q b.length d, .int .i64 0]) ∧ IsB w' q d b
theorem idx92 (W : World) (l : List UInt8) : Calls Tryz.prog 326 #[.string (str l), .int .u8 92] W fun e w' => e = .returned (.int .i64 (match fnd 92 l with | none => -1 | some k => (k : Int))) ∧ W = w' := by
  have := Tryz.strings_IndexByte (str l) 92 W
  rw [str_data, show (92 : Int).toNat.toUInt8 = 92 from rfl, indexByte_fnd] at this
  exact this.mono fun _ _ ⟨h1, h2⟩ => ⟨h1, h2.symm⟩
theorem wp_append_str (w : World) {ops : Array Oper} {rest : List Oper} {o : Oper} {a : Act} {Q : Exit → Act → World → Prop} (hgd : o.guard = none) (s x : Operand)
    (ho : o.op = .call { callee := .builtin .append, args := #[s, x], argTypes := #[22, 9] })
    (base : Nat) {q : Option Addr} {d : Nat} {l : List UInt8} (n : Nat) (hn : n = l.length) (hs : a.eval s = .slice q n d) (hown : w.ownsRow base 5 1 (.slice q l.length d) l.length (l.map bv)) (hbase : base ≤ w.heap.size)
    (t : ByteArray) (m : List UInt8) (hm : t = str m) (hx : a.eval x = .string t) (hbytes : l.length + m.length ≤ 140737488355328)
    (h : ∀ q' d' w' (o2 : List UInt8), Hid (o2 = l ++ m) → w'.ownsRow base 5 1 (.slice q' o2.length d') o2.length (o2.map bv) → Below base w w' → wpList Tryz.prog ops Q rest (a.put o.dst (.slice q' o2.length d')) w') : wpList Tryz.prog ops Q (o :: rest) a w := by
  obtain ⟨i0, hi, hz0, hz1, hz2⟩ := info_parts info5q
  subst hm; subst hn
  refine Lib.wpList_append_own_string w hgd s x 22 9 ho base 5 i0 Tryz.underlying22 Tryz.underlying9 hi hz0 hz1 hz2 _ _ _ hs hown (str m) hx (by rw [str_size]; unfold maxLen; omega) (by rw [str_size]; omega) hbase fun v' w' ho' hg _ => ?_
  have hsc : Lib.strCells (str m) = m.map bv := rfl
  rw [hsc, str_size, ← List.map_append] at ho'
  have hl : l.length + m.length = (l ++ m).length := by simp
  rw [hl] at ho'
  obtain ⟨q', d', rfl⟩ := own_slq ho'
  exact h q' d' w' _ (Lib.hid rfl) ho' ((Below.refl _ w).grown hg hbase (fun k hk => (hown.lt k hk).1))
theorem ends_str (s : ByteArray) (l : List UInt8) (a : Nat) (h : s = str l) : s.extract a s.size = str (l.drop a) := by
  subst h
  rw [cut_str, str_size]
  congr 1
  rw [List.take_of_length_le (by simp)]

theorem esc_le {l t : List UInt8} {n : Nat} (h : esc l = some (t, n)) : 1 ≤ n ∧ n ≤ l.length ∧ t.length ≤ n := by
  cases l with
  | nil => cases h
  | cons c r =>
    rw [esc] at h
    split at h
    · injection h with h; injection h with h1 h2; subst h1; subst h2; simp
    · split at h
      · split at h
        · rw [Option.map_eq_some_iff] at h
          obtain ⟨_, _, h⟩ := h
          injection h with h1 h2; subst h1; subst h2; simp; omega
        · cases h
      · split at h
        · split at h
          · rw [Option.map_eq_some_iff] at h
            obtain ⟨v, _, h⟩ := h
            injection h with h1 h2; subst h1; subst h2
            have := encodeRune_len (v : Int)
            simp; omega
          · cases h
        · cases h

set_option maxHeartbeats 4000000 in
set_option maxRecDepth 100000 in
theorem parW0 (w : World) (l : List UInt8) (hl : l.length ≤ 2000) (hT : Lib.Utf8Tabs 3 4 w) :
    Calls Tryz.prog 308 #[.string (str l)] w fun e w' => ParO (pars l) e w' ∧ Below w.heap.size w w' := by
  have hsz : (str l).size = l.length := str_size l
  have hp : pars l = if 2 ≤ l.length ∧ bA l 0 = 34 ∧ bA l (l.length - 1) = 34 then
    match unq [] ((l.drop 1).take (l.length - 2)) with
    | none => none
    | some b => if qt b = l then some b else none
  else none := rfl
  obtain ⟨s, hs⟩ : ∃ s, s = str l := ⟨_, rfl⟩
  rw [← hs] at hsz ⊢
  by_cases h2 : 2 ≤ l.length
  · have g1 : ¬ (s.size : Int) < 2 := by omega
    have hi0 := fun W => index_s W s 0 0 rfl (by omega)
    have hi1 := fun W => index_s W s (l.length - 1) ((s.size : Int) - 1) (by omega) (by omega)
    have hsd : s.data.toList = l := by rw [hs, str_data]
    rw [hsd] at hi0 hi1
    by_cases hq : bA l 0 = 34 ∧ bA l (l.length - 1) = 34
    · rw [if_pos ⟨h2, hq⟩] at hp
      rw [hq.1] at hi0
      rw [hq.2] at hi1
      have hcut : s.extract 1 (s.size - 1) = str ((l.drop 1).take (l.length - 2)) := by
        rw [hs, cut_str, str_size]
        rfl
      have HCUT := Lib.hid hcut
      have HP := Lib.hid hp
      have HT := Lib.hid hT
      have HS := Lib.hid hs
      have HSZ := Lib.hid hsz
      have n1 : (1 : Int) ≤ (s.size : Int) - 1 := by omega
      have n2 : (s.size : Int) ≤ 2000 := by omega
      have n3 : (2 : Int) ≤ (s.size : Int) := by omega
      have hbl : ((l.drop 1).take (l.length - 2)).length + 2 ≤ l.length := by rw [List.length_take, List.length_drop]; omega
      clear hcut hp hT hs hsz hsd hq h2
      go_enter Tryz.func308, Tryz.ntmps308
      go_wp2
      obtain ⟨R0, hR0⟩ : ∃ R0, R0 = (l.drop 1).take (l.length - 2) := ⟨_, rfl⟩
      rw [← hR0] at HCUT HP hbl
      rw [HCUT.out]
      clear hR0
      go_loopw [4, 5, 6, 7, 8] (fun v4 v5 _ _ _ wr => ∃ (q : Option Addr) (d : Nat) (o rest : List UInt8), v4 = .slice q o.length d ∧ v5 = .string (str rest) ∧ wr.ownsRow w.heap.size 5 1 (.slice q o.length d) o.length (o.map bv) ∧ Below w.heap.size w wr ∧ o.length + rest.length ≤ 2000 ∧ Hid (unq o rest = unq [] R0))
        (fun _ v5 _ _ _ _ => match v5 with | .string t => t.size | _ => 0)
      case atStart => exact ⟨none, 0, [], R0, rfl, rfl, World.ownsRow_nil _ _ _ _, Below.refl _ _, by simp; omega, rfl⟩
      case round =>
        obtain ⟨q, d, o, rest, rfl, rfl, hown, hbel, hlen, HU⟩ := hrel
        have HO := Lib.hid hown
        have HB := Lib.hid hbel
        clear hown hbel
        by_cases h0 : rest.length = 0
        · as_aux_lemma =>
            obtain rfl : rest = [] := List.eq_nil_of_length_eq_zero h0
            have hU : some o = unq [] R0 := by rw [← HU.out]; rfl
            have HUU := Lib.hid hU
            have t0 : (str ([] : List UInt8)).toList = [] := str_toList _
            clear hU HU h0
            have HPR := Lib.hid (printW wr (IsB.ownq HO.out) (by omega) (Utf8Tabs_below HT.out HB.out))
            have hpar : pars l = if qt (o) = l then some (o) else none := by rw [HP.out, ← HUU.out]
            have HPAR := Lib.hid hpar
            clear hpar
            by_cases hqe : qt (o) = l
            · have e1 : (str (qt (o))).toList = s.toList := by rw [HS.out, hqe]
              have HPA2 : Hid (pars l = some (o)) := by show _ = _; rw [HPAR.out, if_pos hqe]
              have HIB := HO
              clear hqe
              go_wp2_with fail
              refine HPR.out.mono ?_
              rintro e w9 ⟨rfl, hb9⟩
              have HI9 := Lib.hid (owns_belowq HIB.out hb9)
              have HB9 := Lib.hid (below_onq HB.out hb9 (Nat.le_refl _))
              clear hb9
              go_wp2
              go_ret2
              rw [HPA2.out]
              exact ⟨⟨_, _, _, rfl, HI9.out⟩, HB9.out⟩
            · have e1 : ((str (qt (o))).toList == s.toList) = false := by
                rw [HS.out, str_toList, str_toList]
                simpa using hqe
              have e2 : ((str (qt (o))).toList != s.toList) = true := by rw [bne, e1]; rfl
              have HPA2 : Hid (pars l = none) := by show _ = _; rw [HPAR.out, if_neg hqe]
              clear hqe
              go_wp2_with fail
              refine HPR.out.mono ?_
              rintro e w9 ⟨rfl, hb9⟩
              have HB9 := Lib.hid (below_onq HB.out hb9 (Nat.le_refl _))
              clear hb9
              go_wp2
              go_ret2
              rw [HPA2.out]
              exact ⟨rfl, HB9.out⟩
        · have hidx := idx92 wr rest
          obtain ⟨t, ht⟩ : ∃ t, t = str rest := ⟨_, rfl⟩
          have htl : t.toList = rest := by rw [ht, str_toList]
          have t1 : t.toList.isEmpty = false := by rw [htl]; cases rest with | nil => exact absurd rfl h0 | cons x r => rfl
          have t2 : t.toList ≠ [] := by rw [htl]; intro e; rw [e] at h0; exact h0 rfl
          have hts : t.size = rest.length := by rw [ht, str_size]
          rw [← ht] at hidx ⊢
          have hstep := unq_step o rest (by omega)
          have HTS : Hid (t = str rest) := ht
          cases hk : fnd 92 rest with
          | none =>
            rw [hk] at hidx hstep
            dsimp only at hidx hstep
            have hU : some (o ++ rest) = unq [] R0 := by rw [← HU.out, hstep]
            have HUU := Lib.hid hU
            have HID := Lib.hid hidx
            have hwz := HB.out.size
            clear hU HU h0 hidx hstep hk htl ht
            as_aux_lemma =>
              go_wp2_with fail
              ((with_reducible refine HID.out.mono ?_))
              rintro e w' ⟨rfl, rfl⟩
              go_wp2_with (at_builtin; refine wp_append_str _ rfl _ _ rfl w.heap.size _ rfl rfl HO.out hwz t rest HTS.out rfl ?len ?_)
              case len => omega
              intro q2 d2 w2 o2 HE2 hown2 hb2
              have HUU : Hid (some o2 = unq [] R0) := by show _ = _; rw [HE2.out]; exact HUU.out
              have hol : o2.length ≤ 2000 := by rw [HE2.out, List.length_append]; omega
              have HO2 := Lib.hid hown2
              have HB2 : Hid (Below w.heap.size w w2) := HB.out.trans hb2
              clear hown2 hb2
              have HPR := Lib.hid (printW w2 (IsB.ownq HO2.out) hol (Utf8Tabs_below HT.out HB2.out))
              have hpar : pars l = if qt (o2) = l then some (o2) else none := by rw [HP.out, ← HUU.out]
              have HPAR := Lib.hid hpar
              clear hpar
              by_cases hqe : qt (o2) = l
              · have e1 : (str (qt (o2))).toList = s.toList := by rw [HS.out, hqe]
                have HPA2 : Hid (pars l = some (o2)) := by show _ = _; rw [HPAR.out, if_pos hqe]
                have HIB := HO2
                clear hqe
                go_wp2_with fail
                refine HPR.out.mono ?_
                rintro e w9 ⟨rfl, hb9⟩
                have HI9 := Lib.hid (owns_belowq HIB.out hb9)
                have HB9 := Lib.hid (below_onq HB2.out hb9 (Nat.le_refl _))
                clear hb9
                go_wp2
                go_ret2
                rw [HPA2.out]
                exact ⟨⟨_, _, _, rfl, HI9.out⟩, HB9.out⟩
              · have e1 : ((str (qt (o2))).toList == s.toList) = false := by
                  rw [HS.out, str_toList, str_toList]
                  simpa using hqe
                have e2 : ((str (qt (o2))).toList != s.toList) = true := by rw [bne, e1]; rfl
                have HPA2 : Hid (pars l = none) := by show _ = _; rw [HPAR.out, if_neg hqe]
                clear hqe
                go_wp2_with fail
                refine HPR.out.mono ?_
                rintro e w9 ⟨rfl, hb9⟩
                have HB9 := Lib.hid (below_onq HB2.out hb9 (Nat.le_refl _))
                clear hb9
                go_wp2
                go_ret2
                rw [HPA2.out]
                exact ⟨rfl, HB9.out⟩
          | some k =>
            rw [hk] at hidx hstep
            dsimp only at hidx hstep
            have hkl := fnd_lt hk
            have hes := escW wr (rest.drop (k + 1)) (by rw [List.length_drop]; omega)
            rw [← ends_str t rest (k + 1) ht] at hes
            have HID := Lib.hid hidx
            have k1 : (0 : Int) ≤ (k : Int) := by omega
            have k2 : (k : Int) + 1 ≤ (t.size : Int) := by omega
            have k3 : (t.size : Int) ≤ 2000 := by omega
            cases he : esc (rest.drop (k + 1)) with
            | none =>
              rw [he] at hes hstep
              dsimp only at hstep
              have HPA : Hid (pars l = none) := by show _ = _; rw [HP.out, ← HU.out, hstep]
              have HES := Lib.hid hes
              clear HU h0 hidx hstep hk htl ht hes he hts
              as_aux_lemma =>
                go_wp2_with fail
                ((with_reducible refine HID.out.mono ?_))
                rintro e w' ⟨rfl, rfl⟩
                go_wp2_with fail
                ((with_reducible refine HES.out.mono ?_))
                rintro e w2 ⟨he, hb2⟩
                obtain rfl : e = .returned (.tuple #[.string ⟨#[]⟩, .int .i64 0]) := he
                have HB2 := Lib.hid (below_onq HB.out hb2 (Nat.le_refl _))
                clear hb2
                go_wp2
                go_ret2
                rw [HPA.out]
                exact ⟨rfl, HB2.out⟩
            | some pr =>
              obtain ⟨tx, n⟩ := pr
              obtain ⟨n0, n1', n2'⟩ := esc_le he
              rw [List.length_drop] at n1'
              rw [he] at hes hstep
              dsimp only at hstep
              have HST : Hid (unq (o ++ rest.take k ++ tx) (rest.drop (k + 1 + n)) = unq [] R0) := by show _ = _; rw [← HU.out, hstep]
              have HES := Lib.hid hes
              have hcutk : t.extract 0 k = str (rest.take k) := by rw [ht, cut_str]; rfl
              have HCK := Lib.hid hcutk
              have HEN := Lib.hid (ends_str t rest (k + 1 + n) ht)
              have z1 : ((n : Int) == 0) = false := by simp; omega
              have z2 : (k : Int) + 1 + (n : Int) ≤ (t.size : Int) := by omega
              have z3 : (k : Int) ≤ (t.size : Int) := by omega
              have htk : (rest.take k).length = k := by rw [List.length_take]; omega
              have HTZ := Lib.hid hts
              clear HU h0 hidx hstep hk htl ht hes he hcutk hts
              as_aux_lemma =>
                go_wp2_with fail
                ((with_reducible refine HID.out.mono ?_))
                rintro e w' ⟨rfl, rfl⟩
                go_wp2_with fail
                ((with_reducible refine HES.out.mono ?_))
                rintro e w2 ⟨he, hb2⟩
                obtain rfl : e = .returned (.tuple #[.string (str tx), .int .i64 (n : Int)]) := he
                have HB2 := Lib.hid (below_onq HB.out hb2 (Nat.le_refl _))
                have HO2 := Lib.hid (owns_belowq HO.out hb2)
                have hwz := HB2.out.size
                clear hb2
                go_wp2_with (refine wp_append_str _ rfl (.tmp 49) (.tmp 52) rfl w.heap.size _ rfl rfl HO2.out hwz (t.extract 0 k) (rest.take k) HCK.out rfl ?len ?_)
                case len => omega
                intro q3 d3 w3 o3 HE3 hown3 hb3
                have hol3 : o3.length = o.length + k := by rw [HE3.out, List.length_append, htk]
                have HOL3 := Lib.hid hol3
                clear hol3
                have HO3 := Lib.hid hown3
                have HB3 : Hid (Below w.heap.size w w3) := HB2.out.trans hb3
                have hwz3 := HB3.out.size
                clear hown3 hb3 hwz
                go_wp2_with (refine wp_append_str _ rfl (.tmp 53) (.tmp 54) rfl w.heap.size _ rfl rfl HO3.out hwz3 (str tx) tx rfl rfl ?len2 ?_)
                case len2 => rw [HOL3.out]; omega
                intro q4 d4 w4 o4 HE4 hown4 hb4
                have hol4 : o4.length = o.length + k + tx.length := by rw [HE4.out, List.length_append, HOL3.out]
                have HST4 : Hid (unq o4 (rest.drop (k + 1 + n)) = unq [] R0) := by show _ = _; rw [HE4.out, HE3.out]; exact HST.out
                have HOL4 := Lib.hid hol4
                clear hol4
                have HO4 := Lib.hid hown4
                have HB4 : Hid (Below w.heap.size w w4) := HB3.out.trans hb4
                clear hown4 hb4 hwz3
                go_wp2
                go_roundw
                case rel => exact ⟨q4, d4, o4, rest.drop (k + 1 + n), rfl, by rw [HEN.out], HO4.out, HB4.out, by rw [HOL4.out, List.length_drop]; omega, HST4⟩
                case measure => dsimp only; rw [HEN.out, str_size, List.length_drop, HTZ.out]; omega
    · rw [if_neg (fun h => hq h.2)] at hp
      have HP := Lib.hid hp
      have n2 : (s.size : Int) ≤ 2000 := by omega
      have n3 : (2 : Int) ≤ (s.size : Int) := by omega
      generalize bA l (l.length - 1) = y at *
      generalize bA l 0 = x at *
      clear hp hT hs hsz hsd h2
      by_cases hx : x = 34
      · have q2 : ((y : Int) != 34) = true := by
          have : y ≠ 34 := fun e => hq ⟨hx, e⟩
          simp; omega
        subst hx
        clear hq
        go_enter Tryz.func308, Tryz.ntmps308
        go_wp2
        go_ret2
        rw [HP.out]
        exact ⟨rfl, Below.refl _ _⟩
      · have q2 : ((x : Int) != 34) = true := by simp; omega
        clear hq
        go_enter Tryz.func308, Tryz.ntmps308
        go_wp2
        go_ret2
        rw [HP.out]
        exact ⟨rfl, Below.refl _ _⟩
  · have g1 : (s.size : Int) < 2 := by omega
    rw [if_neg (fun h => h2 h.1)] at hp
    have HP := Lib.hid hp
    clear hp hs hsz hT
    go_enter Tryz.func308, Tryz.ntmps308
    go_wp2
    go_ret2
    rw [HP.out]
    exact ⟨rfl, Below.refl _ _⟩
theorem parW (w : World) (l : List UInt8) (hl : l.length ≤ 2000) (hT : Lib.Utf8Tabs 3 4 w) :
    Calls Tryz.prog 308 #[.string (str l)] w fun e w' => ParR (pars l) e w' ∧ Below w.heap.size w w' :=
  (parW0 w l hl hT).mono fun e w' ⟨h, hb⟩ => by
    refine ⟨?_, hb⟩
    cases hp : pars l with
    | none => rw [hp] at h; exact h
    | some b =>
      rw [hp] at h
      obtain ⟨base, q, d, rfl, ho⟩ := h
      exact ⟨q, d, rfl, IsB.ownq ho⟩
end Go.Proofs.YtmbiiemlepfoaaaGreatDoor

/-! The script's small functions: must, form, word. -/
namespace Go.Proofs.YtmbiiemlepfoaaaGreatDoor
open Go.RowKit
set_option linter.unusedVariables false

/-- The library's own variable at block 1 is a number. -/
def GM (w : World) : Prop := ∃ m, w.cell? ⟨1, 0, none⟩ = some (.int .i64 m)
theorem GM.keep {w w' : World} (h : GM w) (hk : w'.heap[1]? = w.heap[1]?) : GM w' := by
  obtain ⟨m, hm⟩ := h
  refine ⟨m, ?_⟩
  unfold World.cell? at hm ⊢
  rw [hk]
  exact hm
theorem mustYes (w : World) : Calls Tryz.prog 227 #[.bool true] w fun e w' => e = .returned (.tuple #[]) ∧ w' = w := by
  go_enter Tryz.func227, Tryz.ntmps227
  go_wp2
  go_end0
  exact ⟨rfl, rfl⟩
theorem cutStr (w : World) (hm : GM w) (s sep : List UInt8) (hs : s.length ≤ 100000) : Calls Tryz.prog 149 #[.string (str s), .string (str sep)] w fun e w' => e = .returned (.tuple #[.string (str (Lib.cut s sep).1), .string (str (Lib.cut s sep).2.1), .bool (Lib.cut s sep).2.2]) ∧ ∃ n, w' = w.drewN n := by
  obtain ⟨m, hm⟩ := hm
  exact Tryz.strings_Cut (str s) (str sep) m w (by rw [str_size]; omega) hm
/-- The same, at texts as the program writes them. -/
theorem cutLit (w : World) (hm : GM w) (s : List UInt8) (a : Array UInt8) (hs : s.length ≤ 100000) : Calls Tryz.prog 149 #[.string (str s), .string ⟨a⟩] w fun e w' => e = .returned (.tuple #[.string (str (Lib.cut s a.toList).1), .string (str (Lib.cut s a.toList).2.1), .bool (Lib.cut s a.toList).2.2]) ∧ ∃ n, w' = w.drewN n := by
  have := cutStr w hm s a.toList hs
  exact this
end Go.Proofs.YtmbiiemlepfoaaaGreatDoor

/-! The walks of NewReader, fail, Err, Left, End. -/
namespace Go.Proofs.YtmbiiemlepfoaaaGreatDoor
open Go.RowKit

/-- What NewReader hands back. -/
structure NewR (w w' : World) (g : Nat) (l : List UInt8) : Prop where
  ge : w.heap.size ≤ g
  rd : Rd w' g l 0
  below : Below w.heap.size w w'

set_option maxHeartbeats 1000000 in
set_option maxRecDepth 100000 in
theorem newReader (w : World) {p : Option Addr} {c : Nat} {l : List UInt8} (h : IsB w p c l) (hl : l.length ≤ 140737488355328) :
    Calls Tryz.prog 82 #[.slice p l.length c] w fun e w' => ∃ g, e = .returned (.pointer (some ⟨g, 0, none⟩)) ∧ NewR w w' g l := by
  have HC := Lib.hid (clone w h hl)
  clear h
  go_enter Tryz.func82, Tryz.ntmps82
  go_wp2_with fail
  refine HC.out.mono ?_
  rintro e w1 ⟨v, rfl, hown, hbel⟩
  obtain ⟨q, d, rfl⟩ := own_slice hown
  go_wp2
  go_ret
  have hs := hbel.size
  have ho := (OB.of_own hown).below ((Below.refl _ w1).alloc (Nat.le_refl _) (.cells #[.slice q l.length d, .int .i64 0] 289))
  exact ⟨w1.heap.size, rfl, hs, ⟨q, d, heap_alloc_new w1 _, ho⟩, hbel.alloc hs _⟩

/-- The reader's cells. -/
theorem Rd.cells {w : World} {g : Nat} {l : List UInt8} {e : Nat} (h : Rd w g l e) : ∃ q d, w.cell? ⟨g, 0, none⟩ = some (.slice q l.length d) ∧ w.cell? ⟨g, 1, none⟩ = some (.int .i64 (e : Int)) ∧
    w.frozen? ⟨g, 0, none⟩ = false ∧ w.frozen? ⟨g, 1, none⟩ = false ∧ OB w q d l := by
  obtain ⟨q, d, h1, h2⟩ := h
  exact ⟨q, d, cell_of_row w g 0 _ _ (0, 0) h1, cell_of_row w g 1 _ _ (0, 0) h1, frozen_of_row w g 0 _ _ h1, frozen_of_row w g 1 _ _ h1, h2⟩

set_option maxHeartbeats 400000 in
theorem rdErr (w : World) {g : Nat} {l : List UInt8} {e : Nat} (h : Rd w g l e) : Calls Tryz.prog 84 #[.pointer (some ⟨g, 0, none⟩)] w fun en w' => en = .returned (.int .i64 (e : Int)) ∧ w = w' := by
  obtain ⟨q, d, c0, c1, f0, f1, _⟩ := h.cells
  clear h
  go_enter Tryz.func84, Tryz.ntmps84
  go_wp2
  go_ret
  exact ⟨rfl, rfl⟩
def endE (l : List UInt8) (e : Nat) : Nat := if e = 0 ∧ 0 < l.length then 7 else e
set_option maxHeartbeats 400000 in
theorem rdEnd (w : World) {g : Nat} {l : List UInt8} {e : Nat} (h : Rd w g l e) : Calls Tryz.prog 86 #[.pointer (some ⟨g, 0, none⟩)] w fun en w' => en = .returned (.int .i64 (endE l e : Int)) ∧ w = w' := by
  obtain ⟨q, d, c0, c1, f0, f1, _⟩ := h.cells
  clear h
  by_cases he : e = 0
  · subst he
    by_cases hl : 0 < l.length
    · have hh : endE l 0 = 7 := by unfold endE; rw [if_pos ⟨rfl, hl⟩]
      have HH := Lib.hid hh
      have g1 : (0 : Int) < (l.length : Int) := by omega
      clear hh
      go_enter Tryz.func86, Tryz.ntmps86
      go_wp2
      go_ret
      exact ⟨by rw [HH.out]; rfl, rfl⟩
    · have hh : endE l 0 = 0 := by unfold endE; rw [if_neg (by omega)]
      have HH := Lib.hid hh
      have g1 : ¬ (0 : Int) < (l.length : Int) := by omega
      clear hh
      go_enter Tryz.func86, Tryz.ntmps86
      go_wp2
      go_ret
      exact ⟨by rw [HH.out]; rfl, rfl⟩
  · have hh : endE l e = e := by unfold endE; rw [if_neg (by omega)]
    have HH := Lib.hid hh
    have g1 : ((e : Int) == 0) = false := by rw [beq_eq_false_iff_ne]; omega
    clear hh he
    go_enter Tryz.func86, Tryz.ntmps86
    go_wp2
    go_ret
    exact ⟨by rw [HH.out]; rfl, rfl⟩

def failE (e e' : Nat) : Nat := if e = 0 then e' else e
set_option maxHeartbeats 400000 in
theorem rdFail (w : World) {g : Nat} {l : List UInt8} {e : Nat} (e' : Nat) (h : Rd w g l e) : Calls Tryz.prog 162 #[.pointer (some ⟨g, 0, none⟩), .int .i64 (e' : Int)] w fun en w' => en = .returned (.tuple #[]) ∧ Rd w' g l (failE e e') ∧ w.grownBy w' (some g) := by
  obtain ⟨q, d, c0, c1, f0, f1, _⟩ := h.cells
  by_cases he : e = 0
  · subst he
    have hs := h.set_e e'
    have HS := Lib.hid hs
    clear h hs
    go_enter Tryz.func162, Tryz.ntmps162
    go_wp2
    go_end0
    exact ⟨rfl, HS.out⟩
  · have hh : failE e e' = e := by unfold failE; rw [if_neg he]
    have H := Lib.hid h
    have HH := Lib.hid hh
    have g1 : ((e : Int) == 0) = false := by rw [beq_eq_false_iff_ne]; omega
    clear hh he h
    go_enter Tryz.func162, Tryz.ntmps162
    go_wp2
    go_end0
    exact ⟨rfl, by rw [HH.out]; exact H.out, grown_refl _ _⟩
end Go.Proofs.YtmbiiemlepfoaaaGreatDoor
