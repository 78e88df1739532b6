/- The walk of Parse. -/
import Derived.Test.YtgbdoccgdkifjaaDoorQuEsc
namespace Go.Proofs.YtgbdoccgdkifjaaDoor
open Go.RowKit
set_option linter.unusedVariables false

theorem IsB.own {w : World} {base : Nat} {e : TypeId} {p : Option Addr} {c : Nat} {l : List UInt8} (h : w.ownsRow base e 1 (.slice p l.length c) l.length (l.map bv)) : IsB w p c l := by
  rcases h.2 with ⟨hv, hn⟩ | ⟨g, cap, cur, hv, hg, hh, hnc, hcm, hcs, ht⟩
  · injection hv with h1 h2 h3
    subst h1; subst h3
    obtain rfl : l = [] := List.eq_nil_of_length_eq_zero hn
    exact IsB.none_ w
  · injection hv with h1 h2 h3
    subst h1; subst h3
    refine ⟨hnc, fun h => by simp at h, hcm, fun _ => ⟨g, 0, rfl, row_ltB hh, fun i x hx => ?_⟩⟩
    have := h.cells (g := g) rfl i (bv x) (by simp [hx])
    simpa [Addr.add_lit] using this
theorem owns_below {w w' : World} {base : Nat} {e : TypeId} {s n : Nat} {v : Value} {xs : List Value} (h : w.ownsRow base e s v n xs) (hb : Below w.heap.size w w') : w'.ownsRow base e s v n xs :=
  ⟨h.1, h.2.imp id fun ⟨g, cap, cur, h1, h2, h3, h4⟩ => ⟨g, cap, cur, h1, h2, (hb.block g (row_ltB h3)).trans h3, h4⟩⟩
/-- What is parsed of a text; none: it is no quoted text. -/
def pars (l : List UInt8) : Option (List UInt8) :=
  if 2 ≤ l.length ∧ bA l 0 = 34 ∧ bA l (l.length - 1) = 34 then
    match unq [] ((l.drop 1).take (l.length - 2)) with
    | none => none
    | some b => if qt b = l then some b else none
  else none
def ParR (r : Option (List UInt8)) (e : Ending) (w' : World) : Prop := match r with
  | none => e = .returned (.tuple #[.slice none 0 0, .int .i64 2])
  | some b => ∃ q d, e = .returned (.tuple #[.slice q b.length d, .int .i64 0]) ∧ IsB w' q d b
theorem idx92 (W : World) (l : List UInt8) : Calls Tryd.prog 22 #[.string (str l), .int .u8 92] W fun e w' => e = .returned (.int .i64 (match fnd 92 l with | none => -1 | some k => (k : Int))) ∧ W = w' := by
  have := Tryd.strings_IndexByte (str l) 92 W
  rw [str_data, show (92 : Int).toNat.toUInt8 = 92 from rfl, indexByte_fnd] at this
  exact this.mono fun _ _ ⟨h1, h2⟩ => ⟨h1, h2.symm⟩
theorem wp_append_str (w : World) {ops : Array Oper} {rest : List Oper} {o : Oper} {a : Act} {Q : Exit → Act → World → Prop} (hgd : o.guard = none) (s x : Operand)
    (ho : o.op = .call { callee := .builtin .append, args := #[s, x], argTypes := #[22, 9] })
    (base : Nat) {q : Option Addr} {d : Nat} {l : List UInt8} (n : Nat) (hn : n = l.length) (hs : a.eval s = .slice q n d) (hown : w.ownsRow base 5 1 (.slice q l.length d) l.length (l.map bv)) (hbase : base ≤ w.heap.size)
    (t : ByteArray) (m : List UInt8) (hm : t = str m) (hx : a.eval x = .string t) (hbytes : l.length + m.length ≤ 140737488355328)
    (h : ∀ q' d' w' (o2 : List UInt8), Hid (o2 = l ++ m) → w'.ownsRow base 5 1 (.slice q' o2.length d') o2.length (o2.map bv) → Below base w w' → wpList Tryd.prog ops Q rest (a.put o.dst (.slice q' o2.length d')) w') : wpList Tryd.prog ops Q (o :: rest) a w := by
  obtain ⟨i0, hi, hz0, hz1, hz2⟩ := info_parts info5
  subst hm; subst hn
  refine Lib.wpList_append_own_string w hgd s x 22 9 ho base 5 i0 Tryd.underlying22 Tryd.underlying9 hi hz0 hz1 hz2 _ _ _ hs hown (str m) hx (by rw [str_size]; unfold maxLen; omega) (by rw [str_size]; omega) hbase fun v' w' ho' hg _ => ?_
  have hsc : Lib.strCells (str m) = m.map bv := rfl
  rw [hsc, str_size, ← List.map_append] at ho'
  have hl : l.length + m.length = (l ++ m).length := by simp
  rw [hl] at ho'
  obtain ⟨q', d', rfl⟩ := own_sl ho'
  exact h q' d' w' _ (Lib.hid rfl) ho' ((Below.refl _ w).grown hg hbase (fun k hk => (hown.lt k hk).1))
theorem ends_str (s : ByteArray) (l : List UInt8) (a : Nat) (h : s = str l) : s.extract a s.size = str (l.drop a) := by
  subst h
  rw [cut_str, str_size]
  congr 1
  rw [List.take_of_length_le (by simp)]

theorem esc_le {l t : List UInt8} {n : Nat} (h : esc l = some (t, n)) : 1 ≤ n ∧ n ≤ l.length ∧ t.length ≤ n := by
  cases l with
  | nil => cases h
  | cons c r =>
    rw [esc] at h
    split at h
    · injection h with h; injection h with h1 h2; subst h1; subst h2; simp
    · split at h
      · split at h
        · rw [Option.map_eq_some_iff] at h
          obtain ⟨_, _, h⟩ := h
          injection h with h1 h2; subst h1; subst h2; simp; omega
        · cases h
      · split at h
        · split at h
          · rw [Option.map_eq_some_iff] at h
            obtain ⟨v, _, h⟩ := h
            injection h with h1 h2; subst h1; subst h2
            have := encodeRune_len (v : Int)
            simp; omega
          · cases h
        · cases h

set_option maxHeartbeats 4000000 in
set_option maxRecDepth 100000 in
theorem parW (w : World) (l : List UInt8) (hl : l.length ≤ 2000) (hT : Lib.Utf8Tabs 0 1 w) :
    Calls Tryd.prog 13 #[.string (str l)] w fun e w' => ParR (pars l) e w' ∧ Below w.heap.size w w' := by
  have hsz : (str l).size = l.length := str_size l
  have hp : pars l = if 2 ≤ l.length ∧ bA l 0 = 34 ∧ bA l (l.length - 1) = 34 then
    match unq [] ((l.drop 1).take (l.length - 2)) with
    | none => none
    | some b => if qt b = l then some b else none
  else none := rfl
  obtain ⟨s, hs⟩ : ∃ s, s = str l := ⟨_, rfl⟩
  rw [← hs] at hsz ⊢
  by_cases h2 : 2 ≤ l.length
  · have g1 : ¬ (s.size : Int) < 2 := by omega
    have hi0 := fun W => index_s W s 0 0 rfl (by omega)
    have hi1 := fun W => index_s W s (l.length - 1) ((s.size : Int) - 1) (by omega) (by omega)
    have hsd : s.data.toList = l := by rw [hs, str_data]
    rw [hsd] at hi0 hi1
    by_cases hq : bA l 0 = 34 ∧ bA l (l.length - 1) = 34
    · rw [if_pos ⟨h2, hq⟩] at hp
      rw [hq.1] at hi0
      rw [hq.2] at hi1
      have hcut : s.extract 1 (s.size - 1) = str ((l.drop 1).take (l.length - 2)) := by
        rw [hs, cut_str, str_size]
        rfl
      have HCUT := Lib.hid hcut
      have HP := Lib.hid hp
      have HT := Lib.hid hT
      have HS := Lib.hid hs
      have HSZ := Lib.hid hsz
      have n1 : (1 : Int) ≤ (s.size : Int) - 1 := by omega
      have n2 : (s.size : Int) ≤ 2000 := by omega
      have n3 : (2 : Int) ≤ (s.size : Int) := by omega
      have hbl : ((l.drop 1).take (l.length - 2)).length + 2 ≤ l.length := by rw [List.length_take, List.length_drop]; omega
      clear hcut hp hT hs hsz hsd hq h2
      go_enter Tryd.func13, Tryd.ntmps13
      go_wp2
      obtain ⟨R0, hR0⟩ : ∃ R0, R0 = (l.drop 1).take (l.length - 2) := ⟨_, rfl⟩
      rw [← hR0] at HCUT HP hbl
      rw [HCUT.out]
      clear hR0
      go_loopw [4, 5, 6, 7, 8] (fun v4 v5 _ _ _ wr => ∃ (q : Option Addr) (d : Nat) (o rest : List UInt8), v4 = .slice q o.length d ∧ v5 = .string (str rest) ∧ wr.ownsRow w.heap.size 5 1 (.slice q o.length d) o.length (o.map bv) ∧ Below w.heap.size w wr ∧ o.length + rest.length ≤ 2000 ∧ Hid (unq o rest = unq [] R0))
        (fun _ v5 _ _ _ _ => match v5 with | .string t => t.size | _ => 0)
      case atStart => exact ⟨none, 0, [], R0, rfl, rfl, World.ownsRow_nil _ _ _ _, Below.refl _ _, by simp; omega, rfl⟩
      case round =>
        obtain ⟨q, d, o, rest, rfl, rfl, hown, hbel, hlen, HU⟩ := hrel
        have HO := Lib.hid hown
        have HB := Lib.hid hbel
        clear hown hbel
        by_cases h0 : rest.length = 0
        · as_aux_lemma =>
            obtain rfl : rest = [] := List.eq_nil_of_length_eq_zero h0
            have hU : some o = unq [] R0 := by rw [← HU.out]; rfl
            have HUU := Lib.hid hU
            have t0 : (str ([] : List UInt8)).toList = [] := str_toList _
            clear hU HU h0
            have HPR := Lib.hid (printW wr (IsB.own HO.out) (by omega) (Utf8Tabs_below HT.out HB.out))
            have hpar : pars l = if qt (o) = l then some (o) else none := by rw [HP.out, ← HUU.out]
            have HPAR := Lib.hid hpar
            clear hpar
            by_cases hqe : qt (o) = l
            · have e1 : (str (qt (o))).toList = s.toList := by rw [HS.out, hqe]
              have HPA2 : Hid (pars l = some (o)) := by show _ = _; rw [HPAR.out, if_pos hqe]
              have HIB := Lib.hid (IsB.own HO.out)
              clear hqe
              go_wp2_with fail
              refine HPR.out.mono ?_
              rintro e w9 ⟨rfl, hb9⟩
              have HI9 := Lib.hid (HIB.out.below hb9)
              have HB9 := Lib.hid (below_on HB.out hb9 (Nat.le_refl _))
              clear hb9
              go_wp2
              go_ret2
              rw [HPA2.out]
              exact ⟨⟨_, _, rfl, HI9.out⟩, HB9.out⟩
            · have e1 : ((str (qt (o))).toList == s.toList) = false := by
                rw [HS.out, str_toList, str_toList]
                simpa using hqe
              have e2 : ((str (qt (o))).toList != s.toList) = true := by rw [bne, e1]; rfl
              have HPA2 : Hid (pars l = none) := by show _ = _; rw [HPAR.out, if_neg hqe]
              clear hqe
              go_wp2_with fail
              refine HPR.out.mono ?_
              rintro e w9 ⟨rfl, hb9⟩
              have HB9 := Lib.hid (below_on HB.out hb9 (Nat.le_refl _))
              clear hb9
              go_wp2
              go_ret2
              rw [HPA2.out]
              exact ⟨rfl, HB9.out⟩
        · have hidx := idx92 wr rest
          obtain ⟨t, ht⟩ : ∃ t, t = str rest := ⟨_, rfl⟩
          have htl : t.toList = rest := by rw [ht, str_toList]
          have t1 : t.toList.isEmpty = false := by rw [htl]; cases rest with | nil => exact absurd rfl h0 | cons x r => rfl
          have t2 : t.toList ≠ [] := by rw [htl]; intro e; rw [e] at h0; exact h0 rfl
          have hts : t.size = rest.length := by rw [ht, str_size]
          rw [← ht] at hidx ⊢
          have hstep := unq_step o rest (by omega)
          have HTS : Hid (t = str rest) := ht
          cases hk : fnd 92 rest with
          | none =>
            rw [hk] at hidx hstep
            dsimp only at hidx hstep
            have hU : some (o ++ rest) = unq [] R0 := by rw [← HU.out, hstep]
            have HUU := Lib.hid hU
            have HID := Lib.hid hidx
            have hwz := HB.out.size
            clear hU HU h0 hidx hstep hk htl ht
            as_aux_lemma =>
              go_wp2_with fail
              ((with_reducible refine HID.out.mono ?_))
              rintro e w' ⟨rfl, rfl⟩
              go_wp2_with (at_builtin; refine wp_append_str _ rfl _ _ rfl w.heap.size _ rfl rfl HO.out hwz t rest HTS.out rfl ?len ?_)
              case len => omega
              intro q2 d2 w2 o2 HE2 hown2 hb2
              have HUU : Hid (some o2 = unq [] R0) := by show _ = _; rw [HE2.out]; exact HUU.out
              have hol : o2.length ≤ 2000 := by rw [HE2.out, List.length_append]; omega
              have HO2 := Lib.hid hown2
              have HB2 : Hid (Below w.heap.size w w2) := HB.out.trans hb2
              clear hown2 hb2
              have HPR := Lib.hid (printW w2 (IsB.own HO2.out) hol (Utf8Tabs_below HT.out HB2.out))
              have hpar : pars l = if qt (o2) = l then some (o2) else none := by rw [HP.out, ← HUU.out]
              have HPAR := Lib.hid hpar
              clear hpar
              by_cases hqe : qt (o2) = l
              · have e1 : (str (qt (o2))).toList = s.toList := by rw [HS.out, hqe]
                have HPA2 : Hid (pars l = some (o2)) := by show _ = _; rw [HPAR.out, if_pos hqe]
                have HIB := Lib.hid (IsB.own HO2.out)
                clear hqe
                go_wp2_with fail
                refine HPR.out.mono ?_
                rintro e w9 ⟨rfl, hb9⟩
                have HI9 := Lib.hid (HIB.out.below hb9)
                have HB9 := Lib.hid (below_on HB2.out hb9 (Nat.le_refl _))
                clear hb9
                go_wp2
                go_ret2
                rw [HPA2.out]
                exact ⟨⟨_, _, rfl, HI9.out⟩, HB9.out⟩
              · have e1 : ((str (qt (o2))).toList == s.toList) = false := by
                  rw [HS.out, str_toList, str_toList]
                  simpa using hqe
                have e2 : ((str (qt (o2))).toList != s.toList) = true := by rw [bne, e1]; rfl
                have HPA2 : Hid (pars l = none) := by show _ = _; rw [HPAR.out, if_neg hqe]
                clear hqe
                go_wp2_with fail
                refine HPR.out.mono ?_
                rintro e w9 ⟨rfl, hb9⟩
                have HB9 := Lib.hid (below_on HB2.out hb9 (Nat.le_refl _))
                clear hb9
                go_wp2
                go_ret2
                rw [HPA2.out]
                exact ⟨rfl, HB9.out⟩
          | some k =>
            rw [hk] at hidx hstep
            dsimp only at hidx hstep
            have hkl := fnd_lt hk
            have hes := escW wr (rest.drop (k + 1)) (by rw [List.length_drop]; omega)
            rw [← ends_str t rest (k + 1) ht] at hes
            have HID := Lib.hid hidx
            have k1 : (0 : Int) ≤ (k : Int) := by omega
            have k2 : (k : Int) + 1 ≤ (t.size : Int) := by omega
            have k3 : (t.size : Int) ≤ 2000 := by omega
            cases he : esc (rest.drop (k + 1)) with
            | none =>
              rw [he] at hes hstep
              dsimp only at hstep
              have HPA : Hid (pars l = none) := by show _ = _; rw [HP.out, ← HU.out, hstep]
              have HES := Lib.hid hes
              clear HU h0 hidx hstep hk htl ht hes he hts
              as_aux_lemma =>
                go_wp2_with fail
                ((with_reducible refine HID.out.mono ?_))
                rintro e w' ⟨rfl, rfl⟩
                go_wp2_with fail
                ((with_reducible refine HES.out.mono ?_))
                rintro e w2 ⟨he, hb2⟩
                obtain rfl : e = .returned (.tuple #[.string ⟨#[]⟩, .int .i64 0]) := he
                have HB2 := Lib.hid (below_on HB.out hb2 (Nat.le_refl _))
                clear hb2
                go_wp2
                go_ret2
                rw [HPA.out]
                exact ⟨rfl, HB2.out⟩
            | some pr =>
              obtain ⟨tx, n⟩ := pr
              obtain ⟨n0, n1', n2'⟩ := esc_le he
              rw [List.length_drop] at n1'
              rw [he] at hes hstep
              dsimp only at hstep
              have HST : Hid (unq (o ++ rest.take k ++ tx) (rest.drop (k + 1 + n)) = unq [] R0) := by show _ = _; rw [← HU.out, hstep]
              have HES := Lib.hid hes
              have hcutk : t.extract 0 k = str (rest.take k) := by rw [ht, cut_str]; rfl
              have HCK := Lib.hid hcutk
              have HEN := Lib.hid (ends_str t rest (k + 1 + n) ht)
              have z1 : ((n : Int) == 0) = false := by simp; omega
              have z2 : (k : Int) + 1 + (n : Int) ≤ (t.size : Int) := by omega
              have z3 : (k : Int) ≤ (t.size : Int) := by omega
              have htk : (rest.take k).length = k := by rw [List.length_take]; omega
              have HTZ := Lib.hid hts
              clear HU h0 hidx hstep hk htl ht hes he hcutk hts
              as_aux_lemma =>
                go_wp2_with fail
                ((with_reducible refine HID.out.mono ?_))
                rintro e w' ⟨rfl, rfl⟩
                go_wp2_with fail
                ((with_reducible refine HES.out.mono ?_))
                rintro e w2 ⟨he, hb2⟩
                obtain rfl : e = .returned (.tuple #[.string (str tx), .int .i64 (n : Int)]) := he
                have HB2 := Lib.hid (below_on HB.out hb2 (Nat.le_refl _))
                have HO2 := Lib.hid (owns_below HO.out hb2)
                have hwz := HB2.out.size
                clear hb2
                go_wp2_with (refine wp_append_str _ rfl (.tmp 49) (.tmp 52) rfl w.heap.size _ rfl rfl HO2.out hwz (t.extract 0 k) (rest.take k) HCK.out rfl ?len ?_)
                case len => omega
                intro q3 d3 w3 o3 HE3 hown3 hb3
                have hol3 : o3.length = o.length + k := by rw [HE3.out, List.length_append, htk]
                have HOL3 := Lib.hid hol3
                clear hol3
                have HO3 := Lib.hid hown3
                have HB3 : Hid (Below w.heap.size w w3) := HB2.out.trans hb3
                have hwz3 := HB3.out.size
                clear hown3 hb3 hwz
                go_wp2_with (refine wp_append_str _ rfl (.tmp 53) (.tmp 54) rfl w.heap.size _ rfl rfl HO3.out hwz3 (str tx) tx rfl rfl ?len2 ?_)
                case len2 => rw [HOL3.out]; omega
                intro q4 d4 w4 o4 HE4 hown4 hb4
                have hol4 : o4.length = o.length + k + tx.length := by rw [HE4.out, List.length_append, HOL3.out]
                have HST4 : Hid (unq o4 (rest.drop (k + 1 + n)) = unq [] R0) := by show _ = _; rw [HE4.out, HE3.out]; exact HST.out
                have HOL4 := Lib.hid hol4
                clear hol4
                have HO4 := Lib.hid hown4
                have HB4 : Hid (Below w.heap.size w w4) := HB3.out.trans hb4
                clear hown4 hb4 hwz3
                go_wp2
                go_roundw
                case rel => exact ⟨q4, d4, o4, rest.drop (k + 1 + n), rfl, by rw [HEN.out], HO4.out, HB4.out, by rw [HOL4.out, List.length_drop]; omega, HST4⟩
                case measure => dsimp only; rw [HEN.out, str_size, List.length_drop, HTZ.out]; omega
    · rw [if_neg (fun h => hq h.2)] at hp
      have HP := Lib.hid hp
      have n2 : (s.size : Int) ≤ 2000 := by omega
      have n3 : (2 : Int) ≤ (s.size : Int) := by omega
      generalize bA l (l.length - 1) = y at *
      generalize bA l 0 = x at *
      clear hp hT hs hsz hsd h2
      by_cases hx : x = 34
      · have q2 : ((y : Int) != 34) = true := by
          have : y ≠ 34 := fun e => hq ⟨hx, e⟩
          simp; omega
        subst hx
        clear hq
        go_enter Tryd.func13, Tryd.ntmps13
        go_wp2
        go_ret2
        rw [HP.out]
        exact ⟨rfl, Below.refl _ _⟩
      · have q2 : ((x : Int) != 34) = true := by simp; omega
        clear hq
        go_enter Tryd.func13, Tryd.ntmps13
        go_wp2
        go_ret2
        rw [HP.out]
        exact ⟨rfl, Below.refl _ _⟩
  · have g1 : (s.size : Int) < 2 := by omega
    rw [if_neg (fun h => h2 h.1)] at hp
    have HP := Lib.hid hp
    clear hp hs hsz hT
    go_enter Tryd.func13, Tryd.ntmps13
    go_wp2
    go_ret2
    rw [HP.out]
    exact ⟨rfl, Below.refl _ _⟩
end Go.Proofs.YtgbdoccgdkifjaaDoor
