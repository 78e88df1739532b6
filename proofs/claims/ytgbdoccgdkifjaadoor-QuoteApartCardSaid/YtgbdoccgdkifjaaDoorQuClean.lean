/- A quoted text is made of runes alone, none of them a control, in plain Lean. -/
import Derived.Test.YtgbdoccgdkifjaaDoorQuKind
namespace Go.Proofs.YtgbdoccgdkifjaaDoor

inductive Clean : List UInt8 → Prop
  | nil : Clean []
  | cons (l : List UInt8) (h : 0 < l.length) (hw : wid l ≠ 0) (h1 : 32 ≤ (dec l).1) (h2 : (dec l).1 < 127 ∨ 160 ≤ (dec l).1) (ht : Clean (l.drop (stp l))) : Clean l
theorem bA_cons (c : UInt8) (m : List UInt8) : bA (c :: m) 0 = c.toNat := rfl
theorem Clean.ascii {c : UInt8} {m : List UInt8} (h : Clean m) (h1 : 32 ≤ c.toNat) (h2 : c.toNat < 127) : Clean (c :: m) := by
  have hw : wid (c :: m) = 1 := by unfold wid; rw [if_pos (by rw [bA_cons]; omega)]
  have hd : dec (c :: m) = (c.toNat, 1) := by unfold dec Lib.decodeN; rw [if_pos (by rw [bA_cons]; omega), bA_cons]
  have hs : stp (c :: m) = 1 := by unfold stp; rw [if_neg (by omega), hw]
  refine .cons _ (by simp) (by omega) (by rw [hd]; exact h1) (by rw [hd]; exact .inl h2) ?_
  rw [hs]
  exact h
theorem bA_append (a m : List UInt8) (i : Nat) (h : i < a.length) : bA (a ++ m) i = bA a i := by
  unfold bA
  rw [List.getD_eq_getElem?_getD, List.getD_eq_getElem?_getD, List.getElem?_append_left h]
theorem bA_take (l : List UInt8) (n i : Nat) (h : i < n) : bA (l.take n) i = bA l i := by
  unfold bA
  rw [List.getD_eq_getElem?_getD, List.getD_eq_getElem?_getD, List.getElem?_take, if_pos h]
/-- A rune that stands first is the same whatever stands behind it. -/
theorem first_same (l m : List UInt8) (h : 0 < l.length) (hw : wid l ≠ 0) : wid (l.take (wid l) ++ m) = wid l ∧ dec (l.take (wid l) ++ m) = dec l := by
  have hle := wid_le l h
  have hlen : (l.take (wid l)).length = wid l := by rw [List.length_take]; omega
  have hb : ∀ i, i < wid l → bA (l.take (wid l) ++ m) i = bA l i := fun i hi => by
    rw [bA_append _ _ _ (by omega), bA_take _ _ _ hi]
  have hll : wid l ≤ (l.take (wid l) ++ m).length := by rw [List.length_append]; omega
  generalize hX : l.take (wid l) ++ m = X at *
  rcases first l with ⟨e⟩ | ⟨e, e0, hd⟩ | ⟨r, e, hl, hd, h1, h2, e0, e1⟩ | ⟨r, e, hl, hd, h1, h2, h3, e0, e1, e2⟩ | ⟨r, e, hl, hd, h1, h2, e0, e1, e2, e3⟩
  · exact absurd e hw
  · have b0 := hb 0 (by omega)
    constructor
    · rw [e]; unfold wid; rw [if_pos (by omega)]
    · rw [hd]; unfold dec Lib.decodeN; rw [if_pos (by omega), b0]
  · have b0 := hb 0 (by omega)
    have b1 := hb 1 (by omega)
    have hi : inR X 1 128 191 := ⟨by omega, by omega, by omega⟩
    constructor
    · rw [e]; unfold wid; rw [if_neg (by omega), if_pos (by omega), if_pos hi]
    · rw [hd]; unfold dec Lib.decodeN; rw [if_neg (by omega), if_pos ⟨by omega, by omega, by omega⟩, if_pos (by omega)]
      congr 1
      omega
  · have b0 := hb 0 (by omega)
    have b1 := hb 1 (by omega)
    have b2 := hb 2 (by omega)
    have hi : inR X 1 (if bA X 0 = 224 then 160 else 128) (if bA X 0 = 237 then 159 else 191) ∧ inR X 2 128 191 := by
      refine ⟨⟨by omega, ?_, ?_⟩, by omega, by omega, by omega⟩
      · split <;> omega
      · split <;> omega
    constructor
    · rw [e]; unfold wid; rw [if_neg (by omega), if_neg (by omega), if_pos (by omega), if_pos hi]
    · rw [hd]; unfold dec Lib.decodeN; rw [if_neg (by omega), if_neg (by omega), if_pos ⟨by omega, ⟨by omega, by omega⟩, by omega, by omega⟩, if_pos (by omega)]
      congr 1
      omega
  · have b0 := hb 0 (by omega)
    have b1 := hb 1 (by omega)
    have b2 := hb 2 (by omega)
    have b3 := hb 3 (by omega)
    have hi : inR X 1 (if bA X 0 = 240 then 144 else 128) (if bA X 0 = 244 then 143 else 191) ∧ inR X 2 128 191 ∧ inR X 3 128 191 := by
      refine ⟨⟨by omega, ?_, ?_⟩, ⟨by omega, by omega, by omega⟩, by omega, by omega, by omega⟩
      · split <;> omega
      · split <;> omega
    constructor
    · rw [e]; unfold wid; rw [if_neg (by omega), if_neg (by omega), if_neg (by omega), if_pos (by omega), if_pos hi]
    · rw [hd]; unfold dec Lib.decodeN; rw [if_neg (by omega), if_neg (by omega), if_neg (by omega), if_pos ⟨by omega, ⟨by omega, by omega⟩, ⟨by omega, by omega⟩, by omega, by omega⟩, if_pos (by omega)]
      congr 1
      omega
theorem dig_asc {n : Nat} (h : n < 16) : 32 ≤ (dig n).toNat ∧ (dig n).toNat < 127 := by
  have := dig_toNat h
  split at this <;> omega
theorem clean_body (e : List UInt8) (he : Clean e) : ∀ (n : Nat) (l : List UInt8), l.length = n → Clean (body l ++ e) := by
  intro n
  induction n using Nat.strongRecOn with
  | _ n ih =>
    intro l hn
    by_cases h : 0 < l.length
    · have hs := stp_pos l
      have hsl := stp_le l h
      have hr := ih (n - stp l) (by omega) (l.drop (stp l)) (by rw [List.length_drop]; omega)
      have b0 := bA_lt l 0
      rw [body_step l h, List.append_assoc]
      rcases kind l h with ⟨hw, hd, ho, hs1⟩ | ⟨r, hw, hd, hr34, ho, hs1⟩ | ⟨r, hw, hd, hr1, hr2, hb, hmx, ho, hc⟩ | ⟨r, hw, hd, hb, ho⟩
      · rw [ho]
        have d1 := dig_asc (show bA l 0 / 16 < 16 by omega)
        have d2 := dig_asc (show bA l 0 % 16 < 16 by omega)
        exact Clean.ascii (Clean.ascii (Clean.ascii (Clean.ascii hr d2.1 d2.2) d1.1 d1.2) (by decide) (by decide)) (by decide) (by decide)
      · rw [ho]
        have hu : (UInt8.ofNat r).toNat = r := by rw [UInt8.toNat_ofNat', Nat.mod_eq_of_lt (by omega)]
        exact Clean.ascii (Clean.ascii hr (by omega) (by omega)) (by decide) (by decide)
      · rw [ho]
        have hst : stp l = wid l := by unfold stp; rw [if_neg hw]
        obtain ⟨f1, f2⟩ := first_same l (body (l.drop (stp l)) ++ e) h hw
        have hlen : (l.take (wid l)).length = wid l := by rw [List.length_take]; have := wid_le l h; omega
        rw [hst] at hd hr ⊢
        rw [hst] at f1 f2
        refine .cons _ (by rw [List.length_append]; omega) (by rw [f1]; exact hw) (by rw [f2, hd]; dsimp only; omega) (by rw [f2, hd]; dsimp only; omega) ?_
        have hst2 : stp (l.take (wid l) ++ (body (l.drop (wid l)) ++ e)) = wid l := by unfold stp; rw [f1, if_neg hw]
        rw [hst2]
        have : (l.take (wid l) ++ (body (l.drop (wid l)) ++ e)).drop (wid l) = body (l.drop (wid l)) ++ e := by
          conv => lhs; arg 1; rw [← hlen]
          rw [List.drop_left]
        rw [this]
        exact hr
      · rw [ho]
        have d1 := dig_asc (show r / 16 < 16 by omega)
        have d2 := dig_asc (show r % 16 < 16 by omega)
        exact Clean.ascii (Clean.ascii (Clean.ascii (Clean.ascii (Clean.ascii (Clean.ascii hr d2.1 d2.2) d1.1 d1.2) (by decide) (by decide)) (by decide) (by decide)) (by decide) (by decide)) (by decide) (by decide)
    · have : l = [] := List.eq_nil_of_length_eq_zero (by omega)
      subst this
      exact he
theorem clean_qt (l : List UInt8) : Clean (qt l) :=
  Clean.ascii (clean_body [34] (Clean.ascii .nil (by decide) (by decide)) _ l rfl) (by decide) (by decide)
theorem clean_cnt {l : List UInt8} (h : Clean l) : (cnt l).2 = 0 := by
  induction h with
  | nil => rfl
  | cons l h hw _ _ _ ih => rw [cnt_step l h, if_neg hw]; exact ih
theorem clean_at {l : List UInt8} (h : Clean l) (hl : 0 < l.length) : 32 ≤ (dec l).1 ∧ ((dec l).1 < 127 ∨ 160 ≤ (dec l).1) ∧ Clean (l.drop (stp l)) := by
  cases h with
  | nil => exact absurd hl (by simp)
  | cons _ _ _ h1 h2 ht => exact ⟨h1, h2, ht⟩
theorem qt_len (l : List UInt8) : (qt l).length ≤ 2 + 6 * l.length := by
  unfold qt
  have := body_len l
  simp; omega
end Go.Proofs.YtgbdoccgdkifjaaDoor
