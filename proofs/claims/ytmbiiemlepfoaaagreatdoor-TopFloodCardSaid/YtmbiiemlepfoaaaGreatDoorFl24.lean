/- The walk of Parse. The script's small functions: must, form, word. The walks of NewReader, fail, Err, Left, End. The walk of frame's number. The walks of Size, frame.Number, frame.Text. The walks of the reference's Number, Text, Read, Take. The walk of a reader's Number. The walk of a reader's Take. The walk of a reader's Text. The walk of the reference's Take. A chart's value; the walks of Index, Len, codec.text. The walk of codec.Size. The bytes of a map as plain lists: what is written, what is read; no program. The walk of codec.begins. The walk of codec.one. A line on its way: its block; the walk of word. -/
import Derived.Test.YtmbiiemlepfoaaaGreatDoorFl23
import Derived.Test.YtmbiiemlepfoaaaGreatDoorFl22
import Derived.Test.YtmbiiemlepfoaaaGreatDoorFl01
import Derived.Test.YtmbiiemlepfoaaaGreatDoorFl02
import Derived.Laws.BitsAllLaws
import Derived.Lib.IndexBytes
import Derived.Test.YtmbiiemlepfoaaaGreatDoorFl04
import Derived.Deep.RegionHeld3
import Derived.Test.YtmbiiemlepfoaaaGreatDoorFl12

namespace Go.Proofs.YtmbiiemlepfoaaaGreatDoor
open Go.RowKit
set_option linter.unusedVariables false
theorem IsB.ownq {w : World} {base : Nat} {e : TypeId} {p : Option Addr} {c : Nat} {l : List UInt8} (h : w.ownsRow base e 1 (.slice p l.length c) l.length (l.map bv)) : IsB w p c l := by
  rcases h.2 with ⟨hv, hn⟩ | ⟨g, cap, cur, hv, hg, hh, hnc, hcm, hcs, ht⟩
  · injection hv with h1 h2 h3
    subst h1; subst h3
    obtain rfl : l = [] := List.eq_nil_of_length_eq_zero hn
    exact IsB.none_ w
  · injection hv with h1 h2 h3
    subst h1; subst h3
    refine ⟨hnc, fun h => by simp at h, hcm, fun _ => ⟨g, 0, rfl, row_ltB hh, fun i x hx => ?_⟩⟩
    have := h.cells (g := g) rfl i (bv x) (by simp [hx])
    simpa [Addr.add_lit] using this
theorem owns_belowq {w w' : World} {base : Nat} {e : TypeId} {s n : Nat} {v : Value} {xs : List Value} (h : w.ownsRow base e s v n xs) (hb : Below w.heap.size w w') : w'.ownsRow base e s v n xs :=
  ⟨h.1, h.2.imp id fun ⟨g, cap, cur, h1, h2, h3, h4⟩ => ⟨g, cap, cur, h1, h2, (hb.block g (row_ltB h3)).trans h3, h4⟩⟩
def pars (l : List UInt8) : Option (List UInt8) :=
  if 2 ≤ l.length ∧ bA l 0 = 34 ∧ bA l (l.length - 1) = 34 then
    match unq [] ((l.drop 1).take (l.length - 2)) with
    | none => none
    | some b => if qt b = l then some b else none
  else none
def ParO (r : Option (List UInt8)) (e : Ending) (w' : World) : Prop := match r with
  | none => e = .returned (.tuple #[.slice none 0 0, .int .i64 2])
  | some b => ∃ base q d, e = .returned (.tuple #[.slice q b.length d, .int .i64 0]) ∧ w'.ownsRow base 5 1 (.slice q b.length d) b.length (b.map bv)
theorem idx92 (W : World) (l : List UInt8) : Calls Tryz.prog 326 #[.string (str l), .int .u8 92] W fun e w' => e = .returned (.int .i64 (match fnd 92 l with | none => -1 | some k => (k : Int))) ∧ W = w' := by
  have := Tryz.strings_IndexByte (str l) 92 W
  rw [str_data, show (92 : Int).toNat.toUInt8 = 92 from rfl, indexByte_fnd] at this
  exact this.mono fun _ _ ⟨h1, h2⟩ => ⟨h1, h2.symm⟩
theorem wp_append_str (w : World) {ops : Array Oper} {rest : List Oper} {o : Oper} {a : Act} {Q : Exit → Act → World → Prop} (hgd : o.guard = none) (s x : Operand)
    (ho : o.op = .call { callee := .builtin .append, args := #[s, x], argTypes := #[22, 9] })
    (base : Nat) {q : Option Addr} {d : Nat} {l : List UInt8} (n : Nat) (hn : n = l.length) (hs : a.eval s = .slice q n d) (hown : w.ownsRow base 5 1 (.slice q l.length d) l.length (l.map bv)) (hbase : base ≤ w.heap.size)
    (t : ByteArray) (m : List UInt8) (hm : t = str m) (hx : a.eval x = .string t) (hbytes : l.length + m.length ≤ 140737488355328)
    (h : ∀ q' d' w' (o2 : List UInt8), Hid (o2 = l ++ m) → w'.ownsRow base 5 1 (.slice q' o2.length d') o2.length (o2.map bv) → Below base w w' → wpList Tryz.prog ops Q rest (a.put o.dst (.slice q' o2.length d')) w') : wpList Tryz.prog ops Q (o :: rest) a w := by
  obtain ⟨i0, hi, hz0, hz1, hz2⟩ := info_parts info5q
  subst hm; subst hn
  refine Lib.wpList_append_own_string w hgd s x 22 9 ho base 5 i0 Tryz.underlying22 Tryz.underlying9 hi hz0 hz1 hz2 _ _ _ hs hown (str m) hx (by rw [str_size]; unfold maxLen; omega) (by rw [str_size]; omega) hbase fun v' w' ho' hg _ => ?_
  have hsc : Lib.strCells (str m) = m.map bv := rfl
  rw [hsc, str_size, ← List.map_append] at ho'
  have hl : l.length + m.length = (l ++ m).length := by simp
  rw [hl] at ho'
  obtain ⟨q', d', rfl⟩ := own_slq ho'
  exact h q' d' w' _ (Lib.hid rfl) ho' ((Below.refl _ w).grown hg hbase (fun k hk => (hown.lt k hk).1))
theorem ends_str (s : ByteArray) (l : List UInt8) (a : Nat) (h : s = str l) : s.extract a s.size = str (l.drop a) := by
  subst h
  rw [cut_str, str_size]
  congr 1
  rw [List.take_of_length_le (by simp)]
theorem esc_le {l t : List UInt8} {n : Nat} (h : esc l = some (t, n)) : 1 ≤ n ∧ n ≤ l.length ∧ t.length ≤ n := by
  cases l with
  | nil => cases h
  | cons c r =>
    rw [esc] at h
    split at h
    · injection h with h; injection h with h1 h2; subst h1; subst h2; simp
    · split at h
      · split at h
        · rw [Option.map_eq_some_iff] at h
          obtain ⟨_, _, h⟩ := h
          injection h with h1 h2; subst h1; subst h2; simp; omega
        · cases h
      · split at h
        · split at h
          · rw [Option.map_eq_some_iff] at h
            obtain ⟨v, _, h⟩ := h
            injection h with h1 h2; subst h1; subst h2
            have := encodeRune_len (v : Int)
            simp; omega
          · cases h
        · cases h
set_option maxHeartbeats 4000000 in
set_option maxRecDepth 100000 in
theorem parW0 (w : World) (l : List UInt8) (hl : l.length ≤ 2000) (hT : Lib.Utf8Tabs 3 4 w) :
    Calls Tryz.prog 308 #[.string (str l)] w fun e w' => ParO (pars l) e w' ∧ Below w.heap.size w w' := by
  have hsz : (str l).size = l.length := str_size l
  have hp : pars l = if 2 ≤ l.length ∧ bA l 0 = 34 ∧ bA l (l.length - 1) = 34 then
    match unq [] ((l.drop 1).take (l.length - 2)) with
    | none => none
    | some b => if qt b = l then some b else none
  else none := rfl
  obtain ⟨s, hs⟩ : ∃ s, s = str l := ⟨_, rfl⟩
  rw [← hs] at hsz ⊢
  by_cases h2 : 2 ≤ l.length
  · have g1 : ¬ (s.size : Int) < 2 := by omega
    have hi0 := fun W => index_s W s 0 0 rfl (by omega)
    have hi1 := fun W => index_s W s (l.length - 1) ((s.size : Int) - 1) (by omega) (by omega)
    have hsd : s.data.toList = l := by rw [hs, str_data]
    rw [hsd] at hi0 hi1
    by_cases hq : bA l 0 = 34 ∧ bA l (l.length - 1) = 34
    · rw [if_pos ⟨h2, hq⟩] at hp
      rw [hq.1] at hi0
      rw [hq.2] at hi1
      have hcut : s.extract 1 (s.size - 1) = str ((l.drop 1).take (l.length - 2)) := by
        rw [hs, cut_str, str_size]
        rfl
      have HCUT := Lib.hid hcut
      have HP := Lib.hid hp
      have HT := Lib.hid hT
      have HS := Lib.hid hs
      have HSZ := Lib.hid hsz
      have n1 : (1 : Int) ≤ (s.size : Int) - 1 := by omega
      have n2 : (s.size : Int) ≤ 2000 := by omega
      have n3 : (2 : Int) ≤ (s.size : Int) := by omega
      have hbl : ((l.drop 1).take (l.length - 2)).length + 2 ≤ l.length := by rw [List.length_take, List.length_drop]; omega
      clear hcut hp hT hs hsz hsd hq h2
      go_enter Tryz.func308, Tryz.ntmps308
      go_wp2
      obtain ⟨R0, hR0⟩ : ∃ R0, R0 = (l.drop 1).take (l.length - 2) := ⟨_, rfl⟩
      rw [← hR0] at HCUT HP hbl
      rw [HCUT.out]
      clear hR0
      go_loopw [4, 5, 6, 7, 8] (fun v4 v5 _ _ _ wr => ∃ (q : Option Addr) (d : Nat) (o rest : List UInt8), v4 = .slice q o.length d ∧ v5 = .string (str rest) ∧ wr.ownsRow w.heap.size 5 1 (.slice q o.length d) o.length (o.map bv) ∧ Below w.heap.size w wr ∧ o.length + rest.length ≤ 2000 ∧ Hid (unq o rest = unq [] R0))
        (fun _ v5 _ _ _ _ => match v5 with | .string t => t.size | _ => 0)
      case atStart => exact ⟨none, 0, [], R0, rfl, rfl, World.ownsRow_nil _ _ _ _, Below.refl _ _, by simp; omega, rfl⟩
      case round =>
        obtain ⟨q, d, o, rest, rfl, rfl, hown, hbel, hlen, HU⟩ := hrel
        have HO := Lib.hid hown
        have HB := Lib.hid hbel
        clear hown hbel
        by_cases h0 : rest.length = 0
        · as_aux_lemma =>
            obtain rfl : rest = [] := List.eq_nil_of_length_eq_zero h0
            have hU : some o = unq [] R0 := by rw [← HU.out]; rfl
            have HUU := Lib.hid hU
            have t0 : (str ([] : List UInt8)).toList = [] := str_toList _
            clear hU HU h0
            have HPR := Lib.hid (printW wr (IsB.ownq HO.out) (by omega) (Utf8Tabs_below HT.out HB.out))
            have hpar : pars l = if qt (o) = l then some (o) else none := by rw [HP.out, ← HUU.out]
            have HPAR := Lib.hid hpar
            clear hpar
            by_cases hqe : qt (o) = l
            · have e1 : (str (qt (o))).toList = s.toList := by rw [HS.out, hqe]
              have HPA2 : Hid (pars l = some (o)) := by show _ = _; rw [HPAR.out, if_pos hqe]
              have HIB := HO
              clear hqe
              go_wp2_with fail
              refine HPR.out.mono ?_
              rintro e w9 ⟨rfl, hb9⟩
              have HI9 := Lib.hid (owns_belowq HIB.out hb9)
              have HB9 := Lib.hid (below_onq HB.out hb9 (Nat.le_refl _))
              clear hb9
              go_wp2
              go_ret2
              rw [HPA2.out]
              exact ⟨⟨_, _, _, rfl, HI9.out⟩, HB9.out⟩
            · have e1 : ((str (qt (o))).toList == s.toList) = false := by
                rw [HS.out, str_toList, str_toList]
                simpa using hqe
              have e2 : ((str (qt (o))).toList != s.toList) = true := by rw [bne, e1]; rfl
              have HPA2 : Hid (pars l = none) := by show _ = _; rw [HPAR.out, if_neg hqe]
              clear hqe
              go_wp2_with fail
              refine HPR.out.mono ?_
              rintro e w9 ⟨rfl, hb9⟩
              have HB9 := Lib.hid (below_onq HB.out hb9 (Nat.le_refl _))
              clear hb9
              go_wp2
              go_ret2
              rw [HPA2.out]
              exact ⟨rfl, HB9.out⟩
        · have hidx := idx92 wr rest
          obtain ⟨t, ht⟩ : ∃ t, t = str rest := ⟨_, rfl⟩
          have htl : t.toList = rest := by rw [ht, str_toList]
          have t1 : t.toList.isEmpty = false := by rw [htl]; cases rest with | nil => exact absurd rfl h0 | cons x r => rfl
          have t2 : t.toList ≠ [] := by rw [htl]; intro e; rw [e] at h0; exact h0 rfl
          have hts : t.size = rest.length := by rw [ht, str_size]
          rw [← ht] at hidx ⊢
          have hstep := unq_step o rest (by omega)
          have HTS : Hid (t = str rest) := ht
          cases hk : fnd 92 rest with
          | none =>
            rw [hk] at hidx hstep
            dsimp only at hidx hstep
            have hU : some (o ++ rest) = unq [] R0 := by rw [← HU.out, hstep]
            have HUU := Lib.hid hU
            have HID := Lib.hid hidx
            have hwz := HB.out.size
            clear hU HU h0 hidx hstep hk htl ht
            as_aux_lemma =>
              go_wp2_with fail
              ((with_reducible refine HID.out.mono ?_))
              rintro e w' ⟨rfl, rfl⟩
              go_wp2_with (at_builtin; refine wp_append_str _ rfl _ _ rfl w.heap.size _ rfl rfl HO.out hwz t rest HTS.out rfl ?len ?_)
              case len => omega
              intro q2 d2 w2 o2 HE2 hown2 hb2
              have HUU : Hid (some o2 = unq [] R0) := by show _ = _; rw [HE2.out]; exact HUU.out
              have hol : o2.length ≤ 2000 := by rw [HE2.out, List.length_append]; omega
              have HO2 := Lib.hid hown2
              have HB2 : Hid (Below w.heap.size w w2) := HB.out.trans hb2
              clear hown2 hb2
              have HPR := Lib.hid (printW w2 (IsB.ownq HO2.out) hol (Utf8Tabs_below HT.out HB2.out))
              have hpar : pars l = if qt (o2) = l then some (o2) else none := by rw [HP.out, ← HUU.out]
              have HPAR := Lib.hid hpar
              clear hpar
              by_cases hqe : qt (o2) = l
              · have e1 : (str (qt (o2))).toList = s.toList := by rw [HS.out, hqe]
                have HPA2 : Hid (pars l = some (o2)) := by show _ = _; rw [HPAR.out, if_pos hqe]
                have HIB := HO2
                clear hqe
                go_wp2_with fail
                refine HPR.out.mono ?_
                rintro e w9 ⟨rfl, hb9⟩
                have HI9 := Lib.hid (owns_belowq HIB.out hb9)
                have HB9 := Lib.hid (below_onq HB2.out hb9 (Nat.le_refl _))
                clear hb9
                go_wp2
                go_ret2
                rw [HPA2.out]
                exact ⟨⟨_, _, _, rfl, HI9.out⟩, HB9.out⟩
              · have e1 : ((str (qt (o2))).toList == s.toList) = false := by
                  rw [HS.out, str_toList, str_toList]
                  simpa using hqe
                have e2 : ((str (qt (o2))).toList != s.toList) = true := by rw [bne, e1]; rfl
                have HPA2 : Hid (pars l = none) := by show _ = _; rw [HPAR.out, if_neg hqe]
                clear hqe
                go_wp2_with fail
                refine HPR.out.mono ?_
                rintro e w9 ⟨rfl, hb9⟩
                have HB9 := Lib.hid (below_onq HB2.out hb9 (Nat.le_refl _))
                clear hb9
                go_wp2
                go_ret2
                rw [HPA2.out]
                exact ⟨rfl, HB9.out⟩
          | some k =>
            rw [hk] at hidx hstep
            dsimp only at hidx hstep
            have hkl := fnd_lt hk
            have hes := escW wr (rest.drop (k + 1)) (by rw [List.length_drop]; omega)
            rw [← ends_str t rest (k + 1) ht] at hes
            have HID := Lib.hid hidx
            have k1 : (0 : Int) ≤ (k : Int) := by omega
            have k2 : (k : Int) + 1 ≤ (t.size : Int) := by omega
            have k3 : (t.size : Int) ≤ 2000 := by omega
            cases he : esc (rest.drop (k + 1)) with
            | none =>
              rw [he] at hes hstep
              dsimp only at hstep
              have HPA : Hid (pars l = none) := by show _ = _; rw [HP.out, ← HU.out, hstep]
              have HES := Lib.hid hes
              clear HU h0 hidx hstep hk htl ht hes he hts
              as_aux_lemma =>
                go_wp2_with fail
                ((with_reducible refine HID.out.mono ?_))
                rintro e w' ⟨rfl, rfl⟩
                go_wp2_with fail
                ((with_reducible refine HES.out.mono ?_))
                rintro e w2 ⟨he, hb2⟩
                obtain rfl : e = .returned (.tuple #[.string ⟨#[]⟩, .int .i64 0]) := he
                have HB2 := Lib.hid (below_onq HB.out hb2 (Nat.le_refl _))
                clear hb2
                go_wp2
                go_ret2
                rw [HPA.out]
                exact ⟨rfl, HB2.out⟩
            | some pr =>
              obtain ⟨tx, n⟩ := pr
              obtain ⟨n0, n1', n2'⟩ := esc_le he
              rw [List.length_drop] at n1'
              rw [he] at hes hstep
              dsimp only at hstep
              have HST : Hid (unq (o ++ rest.take k ++ tx) (rest.drop (k + 1 + n)) = unq [] R0) := by show _ = _; rw [← HU.out, hstep]
              have HES := Lib.hid hes
              have hcutk : t.extract 0 k = str (rest.take k) := by rw [ht, cut_str]; rfl
              have HCK := Lib.hid hcutk
              have HEN := Lib.hid (ends_str t rest (k + 1 + n) ht)
              have z1 : ((n : Int) == 0) = false := by simp; omega
              have z2 : (k : Int) + 1 + (n : Int) ≤ (t.size : Int) := by omega
              have z3 : (k : Int) ≤ (t.size : Int) := by omega
              have htk : (rest.take k).length = k := by rw [List.length_take]; omega
              have HTZ := Lib.hid hts
              clear HU h0 hidx hstep hk htl ht hes he hcutk hts
              as_aux_lemma =>
                go_wp2_with fail
                ((with_reducible refine HID.out.mono ?_))
                rintro e w' ⟨rfl, rfl⟩
                go_wp2_with fail
                ((with_reducible refine HES.out.mono ?_))
                rintro e w2 ⟨he, hb2⟩
                obtain rfl : e = .returned (.tuple #[.string (str tx), .int .i64 (n : Int)]) := he
                have HB2 := Lib.hid (below_onq HB.out hb2 (Nat.le_refl _))
                have HO2 := Lib.hid (owns_belowq HO.out hb2)
                have hwz := HB2.out.size
                clear hb2
                go_wp2_with (refine wp_append_str _ rfl (.tmp 49) (.tmp 52) rfl w.heap.size _ rfl rfl HO2.out hwz (t.extract 0 k) (rest.take k) HCK.out rfl ?len ?_)
                case len => omega
                intro q3 d3 w3 o3 HE3 hown3 hb3
                have hol3 : o3.length = o.length + k := by rw [HE3.out, List.length_append, htk]
                have HOL3 := Lib.hid hol3
                clear hol3
                have HO3 := Lib.hid hown3
                have HB3 : Hid (Below w.heap.size w w3) := HB2.out.trans hb3
                have hwz3 := HB3.out.size
                clear hown3 hb3 hwz
                go_wp2_with (refine wp_append_str _ rfl (.tmp 53) (.tmp 54) rfl w.heap.size _ rfl rfl HO3.out hwz3 (str tx) tx rfl rfl ?len2 ?_)
                case len2 => rw [HOL3.out]; omega
                intro q4 d4 w4 o4 HE4 hown4 hb4
                have hol4 : o4.length = o.length + k + tx.length := by rw [HE4.out, List.length_append, HOL3.out]
                have HST4 : Hid (unq o4 (rest.drop (k + 1 + n)) = unq [] R0) := by show _ = _; rw [HE4.out, HE3.out]; exact HST.out
                have HOL4 := Lib.hid hol4
                clear hol4
                have HO4 := Lib.hid hown4
                have HB4 : Hid (Below w.heap.size w w4) := HB3.out.trans hb4
                clear hown4 hb4 hwz3
                go_wp2
                go_roundw
                case rel => exact ⟨q4, d4, o4, rest.drop (k + 1 + n), rfl, by rw [HEN.out], HO4.out, HB4.out, by rw [HOL4.out, List.length_drop]; omega, HST4⟩
                case measure => dsimp only; rw [HEN.out, str_size, List.length_drop, HTZ.out]; omega
    · rw [if_neg (fun h => hq h.2)] at hp
      have HP := Lib.hid hp
      have n2 : (s.size : Int) ≤ 2000 := by omega
      have n3 : (2 : Int) ≤ (s.size : Int) := by omega
      generalize bA l (l.length - 1) = y at *
      generalize bA l 0 = x at *
      clear hp hT hs hsz hsd h2
      by_cases hx : x = 34
      · have q2 : ((y : Int) != 34) = true := by
          have : y ≠ 34 := fun e => hq ⟨hx, e⟩
          simp; omega
        subst hx
        clear hq
        go_enter Tryz.func308, Tryz.ntmps308
        go_wp2
        go_ret2
        rw [HP.out]
        exact ⟨rfl, Below.refl _ _⟩
      · have q2 : ((x : Int) != 34) = true := by simp; omega
        clear hq
        go_enter Tryz.func308, Tryz.ntmps308
        go_wp2
        go_ret2
        rw [HP.out]
        exact ⟨rfl, Below.refl _ _⟩
  · have g1 : (s.size : Int) < 2 := by omega
    rw [if_neg (fun h => h2 h.1)] at hp
    have HP := Lib.hid hp
    clear hp hs hsz hT
    go_enter Tryz.func308, Tryz.ntmps308
    go_wp2
    go_ret2
    rw [HP.out]
    exact ⟨rfl, Below.refl _ _⟩
def GM (w : World) : Prop := ∃ m, w.cell? ⟨1, 0, none⟩ = some (.int .i64 m)
theorem GM.keep {w w' : World} (h : GM w) (hk : w'.heap[1]? = w.heap[1]?) : GM w' := by
  obtain ⟨m, hm⟩ := h
  refine ⟨m, ?_⟩
  unfold World.cell? at hm ⊢
  rw [hk]
  exact hm
theorem mustYes (w : World) : Calls Tryz.prog 227 #[.bool true] w fun e w' => e = .returned (.tuple #[]) ∧ w' = w := by
  go_enter Tryz.func227, Tryz.ntmps227
  go_wp2
  go_end0
  exact ⟨rfl, rfl⟩
theorem cutStr (w : World) (hm : GM w) (s sep : List UInt8) (hs : s.length ≤ 100000) : Calls Tryz.prog 149 #[.string (str s), .string (str sep)] w fun e w' => e = .returned (.tuple #[.string (str (Lib.cut s sep).1), .string (str (Lib.cut s sep).2.1), .bool (Lib.cut s sep).2.2]) ∧ ∃ n, w' = w.drewN n := by
  obtain ⟨m, hm⟩ := hm
  exact Tryz.strings_Cut (str s) (str sep) m w (by rw [str_size]; omega) hm
theorem cutLit (w : World) (hm : GM w) (s : List UInt8) (a : Array UInt8) (hs : s.length ≤ 100000) : Calls Tryz.prog 149 #[.string (str s), .string ⟨a⟩] w fun e w' => e = .returned (.tuple #[.string (str (Lib.cut s a.toList).1), .string (str (Lib.cut s a.toList).2.1), .bool (Lib.cut s a.toList).2.2]) ∧ ∃ n, w' = w.drewN n := by
  have := cutStr w hm s a.toList hs
  exact this
end Go.Proofs.YtmbiiemlepfoaaaGreatDoor
namespace Go.Proofs.YtmbiiemlepfoaaaGreatDoor
open Go.RowKit
theorem and7 (c : Nat) (hc : c < 256) : bits .and .u8 (c : Int) 127 = ((c % 128 : Nat) : Int) := by
  have := u8_and_nat c 127 hc (by omega)
  rw [nat_mask7] at this
  exact this
set_option maxHeartbeats 400000 in
theorem frSize (w : World) (n : Nat) (hn : n < 18446744073709551616) : Calls Tryz.prog 170 #[.int .u64 (n : Int)] w fun e w' => e = .returned (.int .i64 (sizeN n : Int)) ∧ w = w' := by
  have hlen := Tryz.bits_Len64 (n : Int) w (by omega) (by omega)
  rw [Int.toNat_natCast, bitLen_blen _ hn] at hlen
  have hb := blen_le (x := n) (k := 64) hn
  have hz : ((sizeN n : Nat) : Int) = max 1 ((((blen n : Nat) : Int) + 7 - 1) / 7) := by unfold sizeN; omega
  generalize blen n = B at *
  have HL := Lib.hid hlen
  have HZ := Lib.hid hz
  clear hlen hz
  go_enter Tryz.func170, Tryz.ntmps170
  go_wp2_with fail
  refine HL.out.mono ?_
  rintro e w' ⟨rfl, hw⟩
  subst hw
  go_wp2
  go_ret
  refine ⟨?_, rfl⟩
  rw [HZ.out]
  rfl
def digs : Nat → Nat → List UInt8
  | 0, _ => []
  | i + 1, n => u8 (128 + n / 128 ^ i % 128) :: digs i n
theorem digs_length : ∀ i n, (digs i n).length = i
  | 0, _ => rfl
  | i + 1, n => by rw [digs, List.length_cons, digs_length i n]
theorem digs_snoc : ∀ i n, digs (i + 1) n = digs i (n / 128) ++ [u8 (128 + n % 128)]
  | 0, n => by simp [digs]
  | i + 1, n => by
    rw [digs, digs_snoc i n, digs, List.cons_append, Nat.div_div_eq_div_mul, Nat.pow_succ, Nat.mul_comm 128]
theorem digs_encP : ∀ m : Nat, digs (encP m).length m = encP m := by
  intro m
  induction m using Nat.strongRecOn with
  | ind m ih =>
    by_cases h : m = 0
    · subst h; rw [encP_zero]; rfl
    · rw [encP_pos h, List.length_append, List.length_singleton, digs_snoc, ih (m / 128) (by omega)]
theorem digs_enc (n : Nat) : digs (sizeN n) n = encP (n / 128) ++ [u8 (128 + n % 128)] := by
  have h := enc_length n
  unfold enc at h
  rw [List.length_append, List.length_singleton] at h
  rw [← h, digs_snoc, digs_encP]
theorem set_last_enc (n : Nat) : (digs (sizeN n) n).set (sizeN n - 1) (u8 (n % 128)) = enc n := by
  have h := enc_length n
  unfold enc at h ⊢
  rw [List.length_append, List.length_singleton] at h
  rw [digs_enc, List.set_append, if_neg (by omega), show sizeN n - 1 - (encP (n / 128)).length = 0 from by omega]
  rfl
def rowAt (s i n : Nat) : List UInt8 := List.replicate (s - i) 0 ++ digs i n
theorem rowAt_length {s i n : Nat} (h : i ≤ s) : (rowAt s i n).length = s := by
  unfold rowAt
  rw [List.length_append, List.length_replicate, digs_length]
  omega
theorem rowAt_set {s i n j : Nat} (h : s = i + j + 1) : (rowAt s i n).set j (u8 (128 + n / 128 ^ i % 128)) = rowAt s (i + 1) n := by
  unfold rowAt
  rw [List.set_append, if_pos (by rw [List.length_replicate]; omega), show s - i = j + 1 from by omega, show s - (i + 1) = j from by omega, digs]
  rw [List.replicate_succ', List.set_append, if_neg (by simp), List.length_replicate, Nat.sub_self]
  simp
theorem byte_and (n : Nat) : bits .and .u8 ((n : Int) % 256) 127 = ((n % 128 : Nat) : Int) := by
  have h := and7 (n % 256) (by omega)
  rw [show n % 256 % 128 = n % 128 from by omega] at h
  rw [← h]
  rfl
theorem byte_or (n : Nat) : bits .or .u8 ((n % 128 : Nat) : Int) 128 = ((128 + n % 128 : Nat) : Int) := by
  have := u8_or_nat (n % 128) 128 (by omega) (by omega)
  rw [Nat.or_comm, nat_join 7 128 (n % 128) (by decide) (by omega)] at this
  exact this
theorem byte_andNot (n : Nat) : bits .andNot .u8 ((128 + n % 128 : Nat) : Int) 128 = ((n % 128 : Nat) : Int) := by
  have h := u8_andNot_nat (128 + n % 128) 128 (by omega) (by omega)
  have : (128 + n % 128) &&& (255 - 128) = n % 128 := by
    show (128 + n % 128) &&& 127 = n % 128
    rw [nat_mask7]
    omega
  rw [this] at h
  exact h
theorem bv_u8 {x : Nat} (h : x < 256) : bv (u8 x) = .int .u8 (x : Int) := by unfold bv; rw [u8_toNat h]
structure NumR (w w' : World) (q : Option Addr) (d : Nat) (l : List UInt8) : Prop where
  own : w'.ownsRow w.heap.size 5 1 (.slice q l.length d) l.length (l.map bv)
  below : Below w.heap.size w w'
set_option maxHeartbeats 2000000 in
set_option maxRecDepth 100000 in
theorem frNumber (w : World) (n : Nat) (hn : n < 18446744073709551616) : Calls Tryz.prog 97 #[.int .u64 (n : Int)] w fun e w' => ∃ q d, e = .returned (.slice q (enc n).length d) ∧ NumR w w' q d (enc n) := by
  obtain ⟨i0, hi, hz0, hz1, hz2⟩ := info_parts info5
  have hsz := frSize w n hn
  have hsl := size_le hn
  have hsp := size_pos n
  have hel := enc_length n
  have hset := set_last_enc n
  obtain ⟨s, hs⟩ : ∃ s, sizeN n = s := ⟨_, rfl⟩
  rw [hs] at hsz hsl hsp hel hset
  have HSZ := Lib.hid hsz
  have HEL := Lib.hid hel
  have HSET := Lib.hid hset
  have hmk : (madeCells #[Value.int .u8 0] s).toList = (rowAt s 0 n).map bv := by
    rw [toList_madeCells_one]
    unfold rowAt digs
    simp [bv]
  have HMK := Lib.hid hmk
  clear hsz hel hset hs hmk
  go_enter Tryz.func97, Tryz.ntmps97
  go_wp2_with fail
  refine HSZ.out.mono ?_
  rintro e w' ⟨rfl, rfl⟩
  go_wp2_with (at_make; refine wpList_make_full _ rfl _ _ 22 rfl w.heap.size 5 i0 (.int .u8 0) 1 Tryz.underlying22 hi hz0 hz1 _ _ _ _ s rfl rfl rfl rfl (by rw [hz2]; omega) (by unfold maxLen; omega) (Nat.le_refl _) ?_)
  intro w1 hown hgr
  rw [HMK.out] at hown
  have hb1 := (Below.refl _ w).grown hgr (Nat.le_refl _) (fun _ h => by cases h)
  have HOWN := Lib.hid hown
  have HB1 : Hid (Below w.heap.size w w1) := hb1
  clear hown hgr hb1
  go_wp2
  go_loopw [0, 4, 10] (fun v0 _ v10 wr => ∃ i : Nat, v0 = .int .u64 ((n / 128 ^ i : Nat) : Int) ∧ v10 = .int .i64 i ∧ i ≤ s ∧ wr.ownsRow w.heap.size 5 1 (.slice (some ⟨w.heap.size, 0, none⟩) s s) s ((rowAt s i n).map bv) ∧ Below w.heap.size w wr)
    (fun _ _ v10 _ => s - (intOf v10).toNat)
  case atStart => exact ⟨0, by simp, rfl, Nat.zero_le _, HOWN.out, HB1.out⟩
  case round =>
    obtain ⟨i, rfl, rfl, hi2, hown, hbel⟩ := hrel
    by_cases h1 : i < s
    · have g1 : (i : Int) < (s : Int) := by omega
      obtain ⟨j, hj⟩ : ∃ j, s = i + j + 1 := ⟨s - i - 1, by omega⟩
      have hji : (s : Int) - 1 - (i : Int) = (j : Int) := by omega
      have hjs : (j : Int) < (s : Int) := by omega
      have hrow : (rowAt s i n).length = s := rowAt_length hi2
      obtain ⟨old, hold⟩ : ∃ y, (rowAt s i n)[j]? = some y := ⟨_, List.getElem?_eq_getElem (by omega)⟩
      have hcell : wr.cell? ⟨w.heap.size, j, none⟩ = some (.int .u8 (old.toNat : Int)) := by
        rw [hown.cellAt j (by omega), List.getElem?_map, hold]
        rfl
      have hfr : wr.frozen? ⟨w.heap.size, j, none⟩ = false := hown.frozenAt j
      have hst := (hown.stored j (bv (u8 (128 + n / 128 ^ i % 128)))).1
      rw [← List.map_set, rowAt_set hj, bv_u8 (by omega)] at hst
      have hb2 := hbel.setCell (p := ⟨w.heap.size, j, none⟩) (Nat.le_refl _) (.int .u8 ((128 + n / 128 ^ i % 128 : Nat) : Int))
      have hdiv : n / 128 ^ (i + 1) = n / 128 ^ i / 128 := by rw [Nat.pow_succ, Nat.div_div_eq_div_mul]
      have hsm : n / 128 ^ i < 18446744073709551616 := Nat.lt_of_le_of_lt (Nat.div_le_self _ _) hn
      generalize n / 128 ^ i = x at *
      have ha := byte_and x
      have ho := byte_or x
      generalize x % 128 = y at *
      have ey : ((128 + y : Nat) : Int) = 128 + (y : Int) := by omega
      rw [ey] at hst hb2 ho
      have HST := Lib.hid hst
      have HB2 : Hid (Below w.heap.size w (wr.setCell ⟨w.heap.size, j, none⟩ (.int .u8 (128 + (y : Int))))) := hb2
      have HDIV := Lib.hid hdiv
      clear hst hb2 hdiv hold hown hbel hrow hj ey
      go_wp2
      go_roundw
      case rel => exact ⟨i + 1, by rw [HDIV.out]; simp, by go_num, by omega, HST.out, HB2.out⟩
      case measure => simp [intOf]; omega
    · obtain rfl : i = s := by omega
      have g1 : ¬ (i : Int) < (i : Int) := by omega
      have hrw : rowAt i i n = digs i n := by unfold rowAt; rw [Nat.sub_self]; rfl
      rw [hrw] at hown
      obtain ⟨j, hj⟩ : ∃ j, i = j + 1 := ⟨i - 1, by omega⟩
      have hji : (i : Int) - 1 = (j : Int) := by omega
      have hjs : (j : Int) < (i : Int) := by omega
      have hlast : (digs i n)[j]? = some (u8 (128 + n % 128)) := by
        have h0 := digs_enc n
        have hle := enc_length n
        rw [HEL.out] at hle
        rw [← hle] at h0
        have h2 : (encP (n / 128)).length + 1 = i := by
          have := HEL.out
          unfold enc at this
          rw [List.length_append, List.length_singleton] at this
          exact this
        rw [h0, List.getElem?_append_right (by omega), show j - (encP (n / 128)).length = 0 from by omega]
        rfl
      have hcell : wr.cell? ⟨w.heap.size, j, none⟩ = some (.int .u8 ((128 + n % 128 : Nat) : Int)) := by
        rw [hown.cellAt j (by omega), List.getElem?_map, hlast]
        show some (bv _) = _
        rw [bv_u8 (by omega)]
      have hfr : wr.frozen? ⟨w.heap.size, j, none⟩ = false := hown.frozenAt j
      have hst := (hown.stored j (bv (u8 (n % 128)))).1
      have hs2 := HSET.out
      rw [show i - 1 = j from by omega] at hs2
      rw [← List.map_set, hs2, bv_u8 (by omega)] at hst
      have hb2 := hbel.setCell (p := ⟨w.heap.size, j, none⟩) (Nat.le_refl _) (.int .u8 ((n % 128 : Nat) : Int))
      have han := byte_andNot n
      have hz : n % 128 < 128 := Nat.mod_lt _ (by omega)
      generalize n % 128 = z at *
      have ez : ((128 + z : Nat) : Int) = 128 + (z : Int) := by omega
      rw [ez] at hcell han
      have HST := Lib.hid hst
      have HB2 : Hid (Below w.heap.size w (wr.setCell ⟨w.heap.size, j, none⟩ (.int .u8 (z : Int)))) := hb2
      clear hst hb2 hlast hown hbel hrw hj ez hs2
      go_wp2
      go_ret
      have hel := HEL.out
      exact ⟨some ⟨w.heap.size, 0, none⟩, i, by rw [hel]; rfl, by rw [hel]; exact HST.out, HB2.out⟩
set_option maxHeartbeats 1000000 in
set_option maxRecDepth 100000 in
theorem frText (w : World) {p : Option Addr} {c : Nat} {l : List UInt8} (h : IsB w p c l) (hl : l.length ≤ 1000000) :
    Calls Tryz.prog 101 #[.slice p l.length c] w fun e w' => ∃ q d, e = .returned (.slice q (enc l.length ++ l).length d) ∧ NumR w w' q d (enc l.length ++ l) := by
  have H := Lib.hid h
  have HN := Lib.hid (frNumber w l.length (by omega))
  have hel := size_le (n := l.length) (by omega)
  rw [← enc_length] at hel
  clear h
  go_enter Tryz.func101, Tryz.ntmps101
  go_wp2_with fail
  refine HN.out.mono ?_
  rintro e w1 ⟨q, d, rfl, hown, hbel⟩
  have h1 := H.out.below hbel
  have hs := hbel.size
  obtain ⟨E, hE⟩ : ∃ E, enc l.length = E := ⟨_, rfl⟩
  rw [hE] at hown hel
  have HE := Lib.hid hE
  rw [hE]
  have HOWN := Lib.hid hown
  have HB1 : Hid (Below w.heap.size w w1) := hbel
  have H1 := Lib.hid h1
  clear hown hbel h1 hE HN
  go_wp2_with (at_builtin; refine wp_append_bytes _ rfl _ _ rfl w.heap.size _ _ _ rfl HOWN.out hs H1.out _ rfl rfl ?rb ?_)
  case rb => omega
  intro v' w2 hown2 hb2
  obtain ⟨q2, d2, rfl⟩ := own_slice hown2
  have he : E.length + l.length = (E ++ l).length := by simp
  rw [he, ← List.map_append] at hown2
  have HO2 := Lib.hid hown2
  have HB2 : Hid (Below w.heap.size w w2) := HB1.out.trans hb2
  clear hown2 hb2 he
  go_wp2
  go_ret
  rw [HE.out]
  exact ⟨q2, d2, by rw [List.length_append]; rfl, HO2.out, HB2.out⟩
end Go.Proofs.YtmbiiemlepfoaaaGreatDoor
namespace Go.Proofs.YtmbiiemlepfoaaaGreatDoor
open Go.RowKit
set_option linter.unusedVariables false
theorem codecText (w : World) {p : Option Addr} {c : Nat} {l : List UInt8} (hl : l.length ≤ 1000000) :
    Calls Tryz.prog 171 #[.slice p l.length c] w fun e w' => e = .returned (.int .i64 ((sizeN l.length + l.length : Nat) : Int)) ∧ w = w' := by
  have CS := Lib.hid (frSize w l.length (by omega))
  have hz : sizeN l.length ≤ 10 := by
    have := blen_le (x := l.length) (k := 64) (by omega)
    unfold sizeN
    omega
  have w1 : IntKind.u64.wrap (l.length : Int) = (l.length : Int) := IntWalk.u64_in _ (by omega)
  have w2 : IntKind.i64.wrap ((sizeN l.length : Int) + (l.length : Int)) = ((sizeN l.length + l.length : Nat) : Int) := by rw [IntWalk.i64_in _ (by omega)]; omega
  go_enter Tryz.func171, Tryz.ntmps171
  go_wp2_with (go_at_call 170; ((with_reducible refine CS.out.mono ?_)); rintro e w1 ⟨rfl, rfl⟩)
  go_ret
  exact ⟨rfl, rfl⟩
end Go.Proofs.YtmbiiemlepfoaaaGreatDoor
namespace Go.Proofs.YtmbiiemlepfoaaaGreatDoor
open Go.RowKit Go.Shelf
set_option linter.unusedVariables false
attribute [local go_sem] Oper.semAt_some
def textN (l : List UInt8) : Nat := sizeN l.length + l.length
def pairN (x : PairT) : Nat := textN x.1 + textN x.2
def pairsN (l : List PairT) : Nat := (l.map pairN).sum
def sizeM (t : T) : Nat := 4 + sizeN t.size + pairsN t.list
theorem walkAll (w : World) (p : Option Addr) (fp tp : Option Addr) (fc tc : Nat) (f tk : List UInt8) (closed : Bool) :
    Calls Tryz.prog 99 #[.pointer p, spanV fp fc f tp tc tk closed] w fun e w' => e = .returned (.func (.func 172) #[] #[.pointer (some ⟨w.heap.size, 0, none⟩), .pointer (some ⟨w.heap.size + 1, 0, none⟩)]) ∧
      w' = (w.alloc (.cells #[.pointer p] 43)).alloc (.cells #[.slice fp f.length fc, .slice tp tk.length tc, .bool closed] 151) := by
  have hmf : ∀ (fn : Fn) (first cap : Array Value) (w : World), (Instr.makeFunc fn first cap).run Tryz.prog w = .ok (.func fn first cap) w := fun _ _ _ _ => rfl
  go_enter Tryz.func99, Tryz.ntmps99
  go_wp2
  go_ret
  exact ⟨rfl, rfl⟩
def T.Neat (t : T) : Prop := ∀ x ∈ t.list, x.1.length ≤ 1000000 ∧ x.2.length ≤ 1000000
theorem T.Neat.small {t : T} (h : t.Neat) : t.Small := fun x hx => by have := h x hx; omega
end Go.Proofs.YtmbiiemlepfoaaaGreatDoor
namespace Go.Proofs.YtmbiiemlepfoaaaGreatDoor
open Go.Lib
set_option linter.unusedVariables false
def markL : List UInt8 := [66, 82, 87, 49]
def textB (l : List UInt8) : List UInt8 := enc l.length ++ l
def pairB (x : PairT) : List UInt8 := textB x.1 ++ textB x.2
def mapB (L : List PairT) : List UInt8 := markL ++ (enc L.length ++ L.flatMap pairB)
theorem sizeM_enc (t : T) : sizeM t = (mapB t.list).length := by
  unfold sizeM mapB pairsN
  rw [List.length_append, List.length_append, List.length_flatMap, enc_length, T.list_length]
  have : t.list.map pairN = t.list.map fun x => (pairB x).length := by
    apply List.map_congr_left
    intro x _
    unfold pairN pairB textB textN
    simp only [List.length_append, enc_length]
  rw [this]
  simp [markL]
  omega
end Go.Proofs.YtmbiiemlepfoaaaGreatDoor
namespace Go.Proofs.YtmbiiemlepfoaaaGreatDoor
open Go.RowKit
set_option linter.unusedVariables false
theorem OB.other {w w' : World} {q : Option Addr} {d : Nat} {l : List UInt8} (h : OB w q d l) {r : Nat} {cs : Array Value} {t : TypeId} {fr : Nat × Nat} (hr : w.heap[r]? = some (.cells cs t fr)) (ht : t ≠ 5) (hk : ∀ k, k < w.heap.size → k ≠ r → w'.heap[k]? = w.heap[k]?) : OB w' q d l :=
  ⟨h.cap, h.nil, h.big, fun hl => by
    obtain ⟨b, o, cs', hq, hb, hc⟩ := h.row hl
    refine ⟨b, o, cs', hq, (hk b (row_ltT hb) (fun e => ?_)).trans hb, hc⟩
    subst e
    rw [hr] at hb
    injection hb with hb
    injection hb with _ h2 _
    exact ht h2⟩
structure Ln (W : World) (b : Nat) (s : List UInt8) (cs : List Value) (w : World) : Prop where
  row : w.heap[b]? = some (.cells (Value.string (str s) :: cs).toArray 349)
  below : Below b W w
theorem Ln.world {W w w' : World} {b : Nat} {s : List UInt8} {cs : List Value} (h : Ln W b s cs w) (hb : Below w.heap.size w w') : Ln W b s cs w' :=
  ⟨(hb.block b (row_ltB h.row)).trans h.row, h.below.trans (hb.mono (Nat.le_of_lt (row_ltB h.row)))⟩
theorem Ln.drewN {W w : World} {b : Nat} {s : List UInt8} {cs : List Value} (h : Ln W b s cs w) (n : Nat) : Ln W b s cs (w.drewN n) := ⟨h.row, h.below.os, h.below.tape, h.below.output, h.below.size, h.below.block⟩
theorem Ln.rest {W w : World} {b : Nat} {s : List UInt8} {cs : List Value} (h : Ln W b s cs w) (t : List UInt8) : Ln W b t cs (w.setCell ⟨b, 0, none⟩ (.string (str t))) := by
  refine ⟨?_, h.below.setCell (Nat.le_refl _) _⟩
  simp [World.setCell, Array.getElem?_modify, h.row]
theorem Ln.cell {W w : World} {b : Nat} {s : List UInt8} {cs : List Value} (h : Ln W b s cs w) (i : Nat) (x : Value) : Ln W b s (cs.set i x) (w.setCell ⟨b, i + 1, none⟩ x) := by
  refine ⟨?_, h.below.setCell (Nat.le_refl _) _⟩
  simp [World.setCell, Array.getElem?_modify, h.row]
theorem Ln.c0 {W w : World} {b : Nat} {s : List UInt8} {cs : List Value} (h : Ln W b s cs w) : w.cell? ⟨b, 0, none⟩ = some (.string (str s)) := cell_of_row w b 0 _ _ (0, 0) h.row
theorem Ln.f {W w : World} {b : Nat} {s : List UInt8} {cs : List Value} (h : Ln W b s cs w) (i : Nat) : w.frozen? ⟨b, i, none⟩ = false := frozen_of_row w b i _ _ h.row
theorem belowDr {B : Nat} {a w : World} (h : Below B a w) (n : Nat) : Below B a (w.drewN n) := ⟨h.os, h.tape, h.output, h.size, h.block⟩
structure Kp (b : Nat) (w w' : World) : Prop where
  grown : w.grownBy w' (some b)
  bytes : ∀ q d l, OB w q d l → OB w' q d l
theorem Kp.trans {b : Nat} {a c e : World} (h : Kp b a c) (h' : Kp b c e) : Kp b a e := ⟨h.grown.trans h'.grown, fun q d l x => h'.bytes q d l (h.bytes q d l x)⟩
theorem Kp.below {b : Nat} {w w' : World} (h : Below w.heap.size w w') : Kp b w w' := ⟨grown_below h, fun q d l x => x.below h⟩
theorem Kp.set {w : World} {b : Nat} {cs : Array Value} {t : TypeId} {fr : Nat × Nat} (hr : w.heap[b]? = some (.cells cs t fr)) (ht : t ≠ 5) (i : Nat) (y : Value) : Kp b w (w.setCell ⟨b, i, none⟩ y) :=
  ⟨⟨rfl, rfl, rfl, by simp [World.setCell], fun k _ hk => Below.heap_setCell w _ _ k (fun e => hk (by rw [e]))⟩, fun q d l x => x.other hr ht fun k _ hk => Below.heap_setCell w _ _ k (fun e => hk e)⟩
theorem Ln.keeps {W w : World} {b : Nat} {s : List UInt8} {cs : List Value} (h : Ln W b s cs w) (i : Nat) (y : Value) : Kp b w (w.setCell ⟨b, i, none⟩ y) := Kp.set h.row (by decide) i y
set_option maxHeartbeats 2000000 in
set_option maxRecDepth 100000 in
theorem lineWord {W w : World} {b : Nat} {s : List UInt8} {cs : List Value} (h : Ln W b s cs w) (hm : GM w) (hs : s.length ≤ 100000) {t r : List UInt8} (f : Bool) (hc : Lib.cut s [32] = (t, r, f)) (ht : t.length ≤ s.length) :
    Calls Tryz.prog 225 #[.pointer (some ⟨b, 0, none⟩)] w fun e w' => e = .returned (.string (str t)) ∧ Ln W b (s.drop t.length) cs w' ∧ Kp b w w' := by
  have CC := Lib.hid (cutLit w hm s #[32] hs)
  rw [show Lib.cut s (#[32] : Array UInt8).toList = (t, r, f) from hc] at CC
  have c0 := h.c0
  have f0 := h.f 0
  have HS := Lib.hid (fun n => And.intro ((h.drewN n).rest (s.drop t.length)) ((Kp.below (belowDr (Below.refl _ w) n)).trans ((h.drewN n).keeps 0 (.string (str (s.drop t.length))))))
  have hsz : (t.length : Int) ≤ (s.length : Int) := by omega
  have hcut : (str s).extract (str t).size (str s).size = str (s.drop t.length) := by rw [str_size t]; exact ends_str _ _ _ rfl
  have HT := Lib.hid ht
  clear h hm hc ht
  go_enter Tryz.func225, Tryz.ntmps225
  go_wp2_with (go_at_call 149; ((with_reducible refine (CC.out).mono ?_)); rintro e w1 ⟨rfl, n, rfl⟩)
  go_ret
  exact ⟨rfl, HS.out n⟩
end Go.Proofs.YtmbiiemlepfoaaaGreatDoor
