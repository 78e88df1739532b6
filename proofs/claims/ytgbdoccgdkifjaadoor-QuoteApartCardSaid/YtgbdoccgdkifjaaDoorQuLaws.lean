/- The walks of QuoteCounts, QuotePlain, QuoteParses, QuotePrints. -/
import Derived.Test.YtgbdoccgdkifjaaDoorQuAwake
import Derived.Test.YtgbdoccgdkifjaaDoorQuClean
namespace Go.Proofs.YtgbdoccgdkifjaaDoor
open Go.RowKit
set_option linter.unusedVariables false

set_option maxHeartbeats 1000000 in
set_option maxRecDepth 100000 in
theorem quoteCounts_law (w : World) {p : Option Addr} {c : Nat} {l : List UInt8} (h : IsB w p c l) (hT : Lib.Utf8Tabs 0 1 w) :
    Calls Tryd.prog 5 #[.slice p l.length c] w fun e w' => e = .returned (.bool true) ∧ Below w.heap.size w w' := by
  have HT := Lib.hid hT
  have H := Lib.hid h
  clear hT h
  by_cases hl : l.length ≤ 300
  · have g0 : ¬ (300 : Int) < (l.length : Int) := by omega
    have hl2 : l.length ≤ 1000 := by omega
    go_enter Tryd.func5, Tryd.ntmps5
    go_wp2_with fail
    refine (countW w H.out hl2 HT.out).mono ?_
    rintro e w1 ⟨rfl, hb1⟩
    have B1 := Lib.hid hb1
    have kb := conv_of (H.out.below hb1)
    have HR := Lib.hid (refCount w1 (str l) (by rw [str_size]; omega))
    rw [str_data] at HR
    clear hb1
    go_wp2_with fail
    refine HR.out.mono ?_
    rintro e w' ⟨rfl, rfl⟩
    go_wp2_with fail
    refine (awake _ (Utf8Tabs_below HT.out B1.out)).mono ?_
    rintro e w2 ⟨rfl, hb2⟩
    have B2 := Lib.hid (below_on B1.out hb2 (Nat.le_refl _))
    clear hb2
    go_wp2
    go_ret
    exact ⟨rfl, B2.out⟩
  · have g0 : (300 : Int) < (l.length : Int) := by omega
    go_enter Tryd.func5, Tryd.ntmps5
    go_wp2_with fail
    refine (awake _ HT.out).mono ?_
    rintro e w2 ⟨rfl, hb2⟩
    have B2 := Lib.hid hb2
    clear hb2
    go_wp2
    go_ret
    exact ⟨rfl, B2.out⟩

set_option maxHeartbeats 1000000 in
set_option maxRecDepth 100000 in
theorem quotePlain_law (w : World) {p : Option Addr} {c : Nat} {l : List UInt8} (h : IsB w p c l) (hT : Lib.Utf8Tabs 0 1 w) :
    Calls Tryd.prog 3 #[.slice p l.length c] w fun e w' => e = .returned (.bool true) ∧ Below w.heap.size w w' := by
  have HT := Lib.hid hT
  have H := Lib.hid h
  clear hT h
  by_cases hl : l.length ≤ 300
  · have g0 : ¬ (300 : Int) < (l.length : Int) := by omega
    have hl2 : l.length ≤ 2000 := by omega
    have hq := qt_len l
    have hcl := clean_qt l
    have hcn := clean_cnt hcl
    obtain ⟨m, hm⟩ : ∃ m, m = qt l := ⟨_, rfl⟩
    have HPR := Lib.hid (printW w H.out hl2 HT.out)
    rw [← hm] at hq hcl hcn HPR
    have HCL := Lib.hid hcl
    have HR := fun W => Lib.hid (refCount W (str m) (by rw [str_size]; omega))
    simp only [str_data, hcn] at HR
    clear hm hcl hcn
    go_enter Tryd.func3, Tryd.ntmps3
    go_wp2_with fail
    refine HPR.out.mono ?_
    rintro e w1 ⟨rfl, hb1⟩
    have B1 := Lib.hid hb1
    have HR1 := HR w1
    clear hb1 HR HPR
    go_wp2_with fail
    refine HR1.out.mono ?_
    rintro e w' ⟨rfl, rfl⟩
    have P1 := Lib.hid (It.start w1 (str m))
    go_wp2
    go_loopw [7] (fun _ wr => ∃ (pos : Nat), pos ≤ m.length ∧ Hid (Clean (m.drop pos)) ∧ It w1 w1.heap.size (str m) pos wr)
      (fun _ wr => m.length - wr.iterPos w1.heap.size)
    case atStart => exact ⟨0, Nat.zero_le _, HCL.out, P1.out⟩
    case round =>
      obtain ⟨pos, hpos, HC, hp⟩ := hrel
      by_cases h1 : pos < m.length
      · have hm0 : 0 < (m.drop pos).length := by rw [List.length_drop]; omega
        obtain ⟨c1, c2, c3⟩ := clean_at HC.out hm0
        have hstp := stp_le _ hm0
        have hstp1 := stp_pos (m.drop pos)
        rw [List.length_drop] at hstp
        rw [List.drop_drop] at c3
        have hnx := fun ty => Lib.run_next_any_at (P := Tryd.prog) wr w1.heap.size (str m) pos ty hp.it (by rw [str_size]; exact h1)
        rw [decode_dec, str_data] at hnx
        have hsn := dec_snd (m.drop pos)
        obtain ⟨⟨r, n⟩, hd⟩ : ∃ q, dec (m.drop pos) = q := ⟨_, rfl⟩
        rw [hd] at hnx hsn c1 c2
        dsimp only at hnx hsn c1 c2
        subst hsn
        have hpn2 := hp.next (pos + stp (m.drop pos))
        have HPOS := Lib.hid hp.pos
        obtain ⟨n, hn⟩ : ∃ n, n = stp (m.drop pos) := ⟨_, rfl⟩
        rw [← hn] at hpn2 hnx hstp hstp1 c3
        obtain ⟨wI, hwI⟩ : ∃ x, x = wr.iterAt w1.heap.size (str m) (pos + n) := ⟨_, rfl⟩
        rw [← hwI] at hpn2 hnx
        have PI := Lib.hid hpn2
        have C3 := Lib.hid c3
        have q1 : ¬ (r : Int) < 32 := by omega
        clear hpn2 hwI hn hd hp c3 HC P1
        by_cases h127 : r < 127
        · have q2 : ¬ (127 : Int) ≤ (r : Int) := by omega
          go_wp2
          go_roundw
          case rel => exact ⟨pos + n, by omega, C3, PI.out⟩
          case measure => rw [PI.out.pos, HPOS.out]; omega
        · have q2 : (127 : Int) ≤ (r : Int) := by omega
          have q3 : ¬ (r : Int) < 160 := by omega
          go_wp2
          go_roundw
          case rel => exact ⟨pos + n, by omega, C3, PI.out⟩
          case measure => rw [PI.out.pos, HPOS.out]; omega
      · have kn := fun ty => Lib.run_next_end_at (P := Tryd.prog) wr w1.heap.size (str m) pos ty hp.it (by rw [str_size]; omega)
        have B3 := Lib.hid (below_on B1.out hp.below (Nat.le_refl _))
        clear hp
        go_wp2_with fail
        refine (awake _ (Utf8Tabs_below HT.out B3.out)).mono ?_
        rintro e w2 ⟨rfl, hb2⟩
        have B4 := Lib.hid (below_on B3.out hb2 (Nat.le_refl _))
        clear hb2
        go_wp2
        go_ret
        exact ⟨rfl, B4.out⟩
  · have g0 : (300 : Int) < (l.length : Int) := by omega
    go_enter Tryd.func3, Tryd.ntmps3
    go_wp2_with fail
    refine (awake _ HT.out).mono ?_
    rintro e w2 ⟨rfl, hb2⟩
    have B2 := Lib.hid hb2
    clear hb2
    go_wp2
    go_ret
    exact ⟨rfl, B2.out⟩
/-- What is parsed is written as just that text. -/
theorem pars_qt {l b : List UInt8} (h : pars l = some b) : qt b = l := by
  unfold pars at h
  split at h
  · split at h
    · cases h
    · split at h
      · rename_i hq
        injection h with h
        subst h
        exact hq
      · cases h
  · cases h
theorem pars_of_qt (b : List UInt8) : pars (qt b) = some b := by
  have hl : (qt b).length = (body b).length + 2 := by simp [qt]
  have h0 : bA (qt b) 0 = 34 := rfl
  have h1 : bA (qt b) ((qt b).length - 1) = 34 := by
    rw [hl, show (body b).length + 2 - 1 = (body b).length + 1 from rfl]
    unfold bA qt
    rw [List.getD_eq_getElem?_getD, List.getElem?_cons_succ, List.getElem?_append_right (Nat.le_refl _)]
    simp
  have h2 : ((qt b).drop 1).take ((qt b).length - 2) = body b := by
    rw [hl]
    simp [qt]
  unfold pars
  rw [if_pos ⟨by omega, h0, h1⟩, h2, unq_of]
  dsimp only
  rw [if_pos rfl]
theorem pars_len {l b : List UInt8} (h : pars l = some b) : b.length ≤ l.length := by
  have := pars_qt h
  rw [← this]
  have hb : ∀ (n : Nat) (l : List UInt8), l.length = n → l.length ≤ (body l).length := by
    intro n
    induction n using Nat.strongRecOn with
    | _ n ih =>
      intro l hn
      by_cases h : 0 < l.length
      · have hs := stp_pos l
        have hsl := stp_le l h
        have hr := ih (n - stp l) (by omega) (l.drop (stp l)) (by rw [List.length_drop]; omega) 
        rw [body_step l h, List.length_append]
        rw [List.length_drop] at hr
        have ho : stp l ≤ (one l).1.length := by
          unfold one stp
          split
          · simp
          · split
            · rename_i q; simp; omega
            · split
              · rename_i q; simp; omega
              · split
                · rename_i q; simp; omega
                · have := wid_le l h; simp; omega
        omega
      · omega
  have := hb _ b rfl
  simp [qt]; omega

set_option maxHeartbeats 1000000 in
set_option maxRecDepth 100000 in
theorem quoteParses_law (w : World) (s : ByteArray) (hT : Lib.Utf8Tabs 0 1 w) :
    Calls Tryd.prog 7 #[.string s] w fun e w' => e = .returned (.bool true) ∧ Below w.heap.size w w' := by
  have HT := Lib.hid hT
  clear hT
  by_cases hl : s.size ≤ 400
  · have g0 : ¬ (400 : Int) < (s.size : Int) := by omega
    have hpa := parW w s.data.toList (by rw [sz_of]; omega) HT.out
    rw [str_of] at hpa
    cases hr : pars s.data.toList with
    | none =>
      rw [hr] at hpa
      have HPA := Lib.hid hpa
      clear hpa hr
      go_enter Tryd.func7, Tryd.ntmps7
      go_wp2_with fail
      refine HPA.out.mono ?_
      rintro e w1 ⟨he, hb1⟩
      obtain rfl : e = .returned (.tuple #[.slice none 0 0, .int .i64 2]) := he
      have B1 := Lib.hid hb1
      clear hb1
      go_wp2_with fail
      refine (awake _ (Utf8Tabs_below HT.out B1.out)).mono ?_
      rintro e w2 ⟨rfl, hb2⟩
      have B2 := Lib.hid (below_on B1.out hb2 (Nat.le_refl _))
      clear hb2
      go_wp2
      go_ret
      exact ⟨rfl, B2.out⟩
    | some b =>
      have hq := pars_qt hr
      have hbl := pars_len hr
      rw [sz_of] at hbl
      rw [hr] at hpa
      have HPA := Lib.hid hpa
      have HRP := fun W => Lib.hid (refPrint W (str b) (by rw [str_size]; omega))
      have hqs : str (qt b) = s := by rw [hq, str_of]
      simp only [str_data, hqs] at HRP
      clear hpa hr hq hqs
      go_enter Tryd.func7, Tryd.ntmps7
      go_wp2_with fail
      refine HPA.out.mono ?_
      rintro e w1 ⟨⟨q, d, rfl, hI⟩, hb1⟩
      have B1 := Lib.hid hb1
      have kb := conv_of hI
      clear hb1 hI
      go_wp2_with fail
      refine (HRP _).out.mono ?_
      rintro e w2 ⟨rfl, hb2⟩
      have B2 := Lib.hid (below_on B1.out hb2 (Nat.le_refl _))
      clear hb2 kb
      go_wp2_with fail
      refine (awake _ (Utf8Tabs_below HT.out B2.out)).mono ?_
      rintro e w3 ⟨rfl, hb3⟩
      have B3 := Lib.hid (below_on B2.out hb3 (Nat.le_refl _))
      clear hb3
      go_wp2
      go_ret
      exact ⟨rfl, B3.out⟩
  · have g0 : (400 : Int) < (s.size : Int) := by omega
    go_enter Tryd.func7, Tryd.ntmps7
    go_wp2_with fail
    refine (awake _ HT.out).mono ?_
    rintro e w2 ⟨rfl, hb2⟩
    have B2 := Lib.hid hb2
    clear hb2
    go_wp2
    go_ret
    exact ⟨rfl, B2.out⟩

set_option maxHeartbeats 1000000 in
set_option maxRecDepth 100000 in
theorem quotePrints_law (w : World) {p : Option Addr} {c : Nat} {l : List UInt8} (h : IsB w p c l) (hT : Lib.Utf8Tabs 0 1 w) :
    Calls Tryd.prog 6 #[.slice p l.length c] w fun e w' => e = .returned (.bool true) ∧ Below w.heap.size w w' := by
  have HT := Lib.hid hT
  have H := Lib.hid h
  clear hT h
  by_cases hl : l.length ≤ 300
  · have g0 : ¬ (300 : Int) < (l.length : Int) := by omega
    have hl2 : l.length ≤ 2000 := by omega
    have hq := qt_len l
    have hpq := pars_of_qt l
    obtain ⟨m, hm⟩ : ∃ m, m = qt l := ⟨_, rfl⟩
    have HPR := Lib.hid (printW w H.out hl2 HT.out)
    have HRP := fun W => Lib.hid (refPrint W (str l) (by rw [str_size]; omega))
    simp only [str_data] at HRP
    have HPA := fun W hW => Lib.hid (parW W m (by rw [hm]; omega) hW)
    rw [← hm] at HPR hpq
    simp only [← hm] at HRP
    simp only [hpq] at HPA
    clear hm hpq hq
    go_enter Tryd.func6, Tryd.ntmps6
    go_wp2_with fail
    refine HPR.out.mono ?_
    rintro e w1 ⟨rfl, hb1⟩
    have B1 := Lib.hid hb1
    have HPA1 := HPA w1 (Utf8Tabs_below HT.out hb1)
    clear hb1 HPA HPR
    go_wp2_with fail
    refine HPA1.out.mono ?_
    rintro e w2 ⟨⟨q, d, rfl, hI⟩, hb2⟩
    have B2 := Lib.hid (below_on B1.out hb2 (Nat.le_refl _))
    have kb := conv_of (H.out.below B2.out)
    have I2 := Lib.hid hI
    clear hb2 hI
    go_wp2_with fail
    refine (HRP _).out.mono ?_
    rintro e w3 ⟨rfl, hb3⟩
    have B3 := Lib.hid (below_on B2.out hb3 (Nat.le_refl _))
    have kb3 := conv_of (H.out.below B3.out)
    have kc3 := conv_of (I2.out.below hb3)
    clear hb3 kb
    go_wp2_with fail
    refine (awake _ (Utf8Tabs_below HT.out B3.out)).mono ?_
    rintro e w4 ⟨rfl, hb4⟩
    have B4 := Lib.hid (below_on B3.out hb4 (Nat.le_refl _))
    clear hb4
    go_wp2
    go_ret
    exact ⟨rfl, B4.out⟩
  · have g0 : (300 : Int) < (l.length : Int) := by omega
    go_enter Tryd.func6, Tryd.ntmps6
    go_wp2_with fail
    refine (awake _ HT.out).mono ?_
    rintro e w2 ⟨rfl, hb2⟩
    have B2 := Lib.hid hb2
    clear hb2
    go_wp2
    go_ret
    exact ⟨rfl, B2.out⟩
end Go.Proofs.YtgbdoccgdkifjaaDoor
