/- The walk of FrameRows. -/
import Derived.Test.YtdiliajpcgfpoaaFrKeep
import Derived.Test.YtdiliajpcgfpoaaFrOne
import Derived.Test.YtdiliajpcgfpoaaAppend
namespace Go.Proofs.Ytdiliajpcgfpoaa
open Go.RowKit

theorem text_next {l : List UInt8} (hl : l.length < 18446744073709551616) (rest : List UInt8) {m : Nat} (hm : l.length ≤ m) : textOp (enc l.length ++ (l ++ rest)) 0 m = (l, rest, 0) := by
  rw [textOp_zero, dec_enc _ hl]
  dsimp only
  rw [if_pos rfl, if_neg (by omega), List.drop_append, List.drop_eq_nil_of_le (Nat.le_refl _), Nat.sub_self, List.nil_append, List.drop_zero]
  rw [if_neg (by simp)]
  simp
theorem owns_below {w w' : World} {base : Nat} {e : TypeId} {s n : Nat} {v : Value} {xs : List Value} (h : w.ownsRow base e s v n xs) (hb : Below w.heap.size w w') : w'.ownsRow base e s v n xs :=
  ⟨h.1, h.2.imp id fun ⟨g, cap, cur, h1, h2, h3, h4⟩ => ⟨g, cap, cur, h1, h2, (hb.block g (row_lt h3)).trans h3, h4⟩⟩
theorem below_then {B : Nat} {w w1 w2 : World} (h : Below B w w1) (h' : Below w1.heap.size w1 w2) (hB : B ≤ w.heap.size) : Below B w w2 :=
  h.trans (h'.mono (Nat.le_trans hB h.size))

set_option maxHeartbeats 4000000 in
set_option maxRecDepth 100000 in
theorem frameRows_few (w : World) {p : Option Addr} {c : Nat} {L : List (Option Addr × Nat × List UInt8)} (h : IsL w p c L) (hl : L.length ≤ 20) :
    Calls Try.prog 7 #[.slice p L.length c] w fun e w' => e = .returned (.bool true) ∧ Below w.heap.size w w' := by
  have g0 : ¬ (20 : Int) < (L.length : Int) := by omega
  have H := Lib.hid h
  clear h
  go_enter Try.func7, Try.ntmps7
  go_wp2
  go_loopw [3, 5, 16] (fun v3 _ v16 wr => ∃ (i : Nat) (q : Option Addr) (d : Nat) (A : List UInt8), v3 = .slice q A.length d ∧ v16 = .int .i64 i ∧ i ≤ L.length ∧ wr.ownsRow w.heap.size 5 1 (.slice q A.length d) A.length (A.map bv) ∧ Below w.heap.size w wr ∧ Hid (A = allB (L.take i)) ∧ A.length ≤ i * 300 ∧ Hid (∀ x ∈ L.take i, x.2.2.length ≤ 200))
    (fun _ _ v16 _ => L.length - (intOf v16).toNat)
  case atStart => exact ⟨0, none, 0, [], rfl, rfl, Nat.zero_le _, ⟨rfl, .inl ⟨rfl, rfl⟩⟩, Below.refl _ _, rfl, Nat.le_refl _, fun x hx => by simp at hx⟩
  case round =>
    obtain ⟨i, q, d, A, rfl, rfl, hi, hown, hbel, HA, hAl, HX⟩ := hrel
    have HO := Lib.hid hown
    have HB := Lib.hid hbel
    clear hown hbel
    by_cases h1 : i < L.length
    · have g1 : (i : Int) < (L.length : Int) := by omega
      obtain ⟨b, o, rfl, hb, hc⟩ := H.out.cells (by omega)
      obtain ⟨⟨qa, ca, a⟩, hxa⟩ : ∃ x, L[i]? = some x := ⟨_, List.getElem?_eq_getElem h1⟩
      have k1 : wr.cell? ⟨b, o + i, none⟩ = some (.slice qa a.length ca) := (HB.out.cell (p := ⟨b, o + i, none⟩) hb).trans (hc _ _ hxa)
      have IA := Lib.hid ((H.out.bytes _ (List.mem_of_getElem? hxa)).below HB.out)
      have HXA := Lib.hid hxa
      clear hc hxa
      dsimp only at IA
      by_cases h2 : a.length ≤ 200
      · have g2 : ¬ (200 : Int) < (a.length : Int) := by omega
        have HT := Lib.hid (frText wr IA.out (by omega))
        have hel := size_le (n := a.length) (by omega)
        rw [← enc_length] at hel
        have hst := allB_step HXA.out
        dsimp only at hst
        generalize hT : enc a.length ++ a = T at *
        have hTl : T.length ≤ 300 := by rw [← hT, List.length_append]; omega
        have HST := Lib.hid hst
        clear hst hT hel
        go_wp2_with fail
        refine HT.out.mono ?_
        rintro e w1 ⟨q1, d1, rfl, hn⟩
        have HN := Lib.hid hn.isB
        have HB1 := Lib.hid (below_then HB.out hn.below (Nat.le_refl _))
        have HO1 := Lib.hid (owns_below HO.out hn.below)
        have hs := HB1.out.size
        clear hn
        go_wp2_with (at_builtin; refine wp_append_bytes _ rfl _ _ rfl w.heap.size _ _ _ rfl HO1.out hs HN.out _ rfl rfl ?rb ?_)
        case rb => omega
        intro v' w2 hown2 hb2
        obtain ⟨q2, d2, rfl⟩ := own_slice hown2
        have he : A.length + T.length = (A ++ T).length := by simp
        rw [he, ← List.map_append] at hown2
        have HO2 := Lib.hid hown2
        have HB2 : Hid (Below w.heap.size w w2) := HB1.out.trans hb2
        have HA2 : Hid (A ++ T = allB (L.take (i + 1))) := by show _ = _; rw [HST.out, ← HA.out]
        have HX2 : Hid (∀ x ∈ L.take (i + 1), x.2.2.length ≤ 200) := by
          intro x hx
          rw [List.take_add_one, HXA.out] at hx
          rcases List.mem_append.1 hx with hx | hx
          · exact HX.out x hx
          · simp at hx
            subst hx
            exact h2
        clear hown2 hb2 hs
        go_wp2
        go_roundw
        case rel => exact ⟨i + 1, q2, d2, A ++ T, by rw [he], by go_num, by omega, HO2.out, HB2.out, HA2, by rw [List.length_append]; omega, HX2⟩
        case measure => simp [intOf]; omega
      · have g2 : (200 : Int) < (a.length : Int) := by omega
        go_wp2_with fail
        refine (awake _).mono ?_
        rintro e w' ⟨rfl, hbel⟩
        have HB2 := Lib.hid (below_then HB.out hbel (Nat.le_refl _))
        clear hbel
        go_wp2
        go_ret
        exact ⟨rfl, HB2.out⟩
    · obtain rfl : i = L.length := by omega
      obtain ⟨wL, rfl⟩ : ∃ x, x = wr := ⟨_, rfl⟩
      have g1 : ¬ (L.length : Int) < (L.length : Int) := by omega
      rw [List.take_length] at HA HX
      have hq : ∀ x, q = some x → x.block < wL.heap.size := fun x hx => by subst hx; exact (HO.out.lt _ rfl).2
      have HQ := Lib.hid hq
      clear hq
      go_wp2_with fail
      refine (newReaderK wL (IsB.own HO.out) (by omega)).mono ?_
      rintro e w2 ⟨g, rfl, hge, hkeep, hbel⟩
      have HGE := Lib.hid hge
      have HK := Lib.hid hkeep
      have HO2 := Lib.hid (owns_below HO.out hbel)
      have HB2 := Lib.hid (below_then HB.out hbel (Nat.le_refl _))
      have HS2 := Lib.hid hbel.size
      clear hge hkeep hbel
      go_wp2
      go_loopw [7, 35] (fun _ v35 w3 => ∃ (j : Nat) (B : List UInt8), v35 = .int .i64 j ∧ j ≤ A.length ∧ B.length = A.length ∧ w3.ownsRow w.heap.size 5 1 (.slice q A.length d) A.length (B.map bv) ∧ Below w.heap.size w w3 ∧ Agree wL.heap.size w2 w3)
        (fun _ v35 _ => A.length - (intOf v35).toNat)
      case atStart => exact ⟨0, A, rfl, Nat.zero_le _, rfl, HO2.out, HB2.out, fun _ _ _ => rfl⟩
      case round =>
        obtain ⟨j, B, rfl, hj, hBl, hown, hbel, hag⟩ := hrel
        obtain ⟨w3, rfl⟩ : ∃ x, x = wr := ⟨_, rfl⟩
        by_cases h1 : j < A.length
        · have g2 : (j : Int) < (A.length : Int) := by omega
          rcases hown.2 with ⟨_, hn⟩ | ⟨gq, cap, cur, hv, hgq, _⟩
          · omega
          · injection hv with hv1 hv2 hv3
            subst hv1; subst hv3
            obtain ⟨y, hy⟩ : ∃ y, B[j]? = some y := ⟨_, List.getElem?_eq_getElem (by omega)⟩
            have hcell : w3.cell? ⟨gq, j, none⟩ = some (.int .u8 (y.toNat : Int)) := by
              rw [hown.cellAt j (by omega), List.getElem?_map, hy]
              rfl
            have hfr : w3.frozen? ⟨gq, j, none⟩ = false := hown.frozenAt j
            have hst := (hown.stored j (bv (u8 ((y.toNat + 1) % 256)))).1
            rw [← List.map_set, bv_u8 (by omega)] at hst
            have hb2 := hbel.setCell (p := ⟨gq, j, none⟩) hgq (.int .u8 (((y.toNat + 1) % 256 : Nat) : Int))
            have hag2 : Agree wL.heap.size w2 (w3.setCell ⟨gq, j, none⟩ (.int .u8 (((y.toNat + 1) % 256 : Nat) : Int))) := fun k hk1 hk2 => by
              rw [Below.heap_setCell w3 _ _ k (fun e => by have := HQ.out _ rfl; simp at e this; omega)]
              exact hag k hk1 hk2
            generalize hzz : (y.toNat + 1) % 256 = z at *
            have ez : ((y.toNat : Int) + 1) % 256 = (z : Int) := by omega
            have HST := Lib.hid hst
            have HB3 := Lib.hid hb2
            have HAG := Lib.hid hag2
            clear hst hb2 hag2 hag hown hbel hy hzz
            go_wp2
            go_roundw
            case rel => exact ⟨j + 1, B.set j (u8 z), by go_num, by omega, by simpa using hBl, HST.out, HB3.out, HAG.out⟩
            case measure => simp [intOf]; omega
        · obtain rfl : j = A.length := by omega
          have g2 : ¬ (A.length : Int) < (A.length : Int) := by omega
          have HR3 : Hid (Rd w3 g (allB (L.drop 0)) 0) := by show Rd w3 g (allB (L.drop 0)) 0; rw [List.drop_zero, ← HA.out]; exact HK.out w3 hag
          have HB3 := Lib.hid hbel
          have HAL : Hid ((allB L).length ≤ 6000) := by show (allB L).length ≤ 6000; rw [← HA.out]; omega
          clear hown hbel hag hBl
          go_wp2
          go_loopw [9, 47] (fun _ v47 w4 => ∃ (k : Nat), v47 = .int .i64 k ∧ k ≤ L.length ∧ Rd w4 g (allB (L.drop k)) 0 ∧ Below w.heap.size w w4)
            (fun _ v47 _ => L.length - (intOf v47).toNat)
          case atStart => exact ⟨0, rfl, Nat.zero_le _, HR3.out, HB3.out⟩
          case round =>
            obtain ⟨k, rfl, hk, hrd, hbel⟩ := hrel
            obtain ⟨w4, rfl⟩ : ∃ x, x = wr := ⟨_, rfl⟩
            by_cases h1 : k < L.length
            · have g3 : (k : Int) < (L.length : Int) := by omega
              obtain ⟨b, o, rfl, hb, hc⟩ := H.out.cells (by omega)
              obtain ⟨⟨qa, ca, a⟩, hxa⟩ : ∃ x, L[k]? = some x := ⟨_, List.getElem?_eq_getElem h1⟩
              have k1 : w4.cell? ⟨b, o + k, none⟩ = some (.slice qa a.length ca) := (hbel.cell (p := ⟨b, o + k, none⟩) hb).trans (hc _ _ hxa)
              have hIA := H.out.bytes _ (List.mem_of_getElem? hxa)
              have ha2 : a.length ≤ 200 := HX.out _ (List.mem_of_getElem? hxa)
              have hle := allB_le L k
              have hll := HAL.out
              have htx := rdText w4.drew 200 200 (by omega) (by omega) (by omega) (hrd.below (Below.refl _ w4).drew)
              rw [allB_drop hxa] at htx
              dsimp only at htx hIA
              rw [text_next (by omega) _ ha2] at htx
              dsimp only at htx
              have HTX := Lib.hid htx
              have hB := hbel.drew
              have HKB : Hid (∀ W, Below w.heap.size w W → (Go.convert 23 9 (.slice qa a.length ca)).run Try.prog W = .ok (.string (str a)) W) := fun W hW => conv_of (hIA.below hW)
              have HG : Hid (w.heap.size ≤ g) := by show w.heap.size ≤ g; have := HGE.out; have := HB.out.size; omega
              have kb := HKB.out _ hB
              clear hc hxa hIA htx hle hll hrd hbel
              go_upto_region 22 with fail
              go_region_with (go_at_call 17; refine HTX.out.mono ?_; rintro e w' ⟨q5, d5, rfl, hr⟩; have k := conv_of hr.ob.isB; have hB := hB.trans (below_grown hr.grown HG.out hB.size); have kb := HKB.out _ hB; have hR := hr.rd)
              all_goals (have HR := Lib.hid hR; have HBB := Lib.hid hB; clear hR hB; go_wp2; go_roundw)
              all_goals first
                | exact ⟨_, by go_num, by omega, HR.out, HBB.out⟩
                | (simp [intOf]; omega)
            · obtain rfl : k = L.length := by omega
              have g3 : ¬ (L.length : Int) < (L.length : Int) := by omega
              rw [List.drop_length] at hrd
              have HEND : Hid (Calls Try.prog 16 #[.pointer (some ⟨g, 0, none⟩)] w4 fun en w' => en = .returned (.int .i64 0) ∧ w4 = w') := rdEnd w4 hrd
              have HB4 := Lib.hid hbel
              clear hrd hbel
              go_wp2_with fail
              refine HEND.out.mono ?_
              rintro e w' ⟨rfl, rfl⟩
              go_wp2_with fail
              refine (awake _).mono ?_
              rintro e w' ⟨rfl, hbel⟩
              have HB5 := Lib.hid (below_then HB4.out hbel (Nat.le_refl _))
              clear hbel
              go_wp2
              go_ret
              exact ⟨rfl, HB5.out⟩

set_option maxHeartbeats 1000000 in
set_option maxRecDepth 100000 in
theorem frameRows_law (w : World) {p : Option Addr} {c : Nat} {L : List (Option Addr × Nat × List UInt8)} (h : IsL w p c L) :
    Calls Try.prog 7 #[.slice p L.length c] w fun e w' => e = .returned (.bool true) ∧ Below w.heap.size w w' := by
  by_cases hl : L.length ≤ 20
  · exact frameRows_few w h hl
  · have g0 : (20 : Int) < (L.length : Int) := by omega
    go_enter Try.func7, Try.ntmps7
    go_wp2_with fail
    refine (awake _).mono ?_
    rintro e w' ⟨rfl, hbel⟩
    have HB := Lib.hid hbel
    clear hbel
    go_wp2
    go_ret
    exact ⟨rfl, HB.out⟩
end Go.Proofs.Ytdiliajpcgfpoaa
