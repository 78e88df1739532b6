/- The walk of FrameReads. Printed by wip/tools/gen_frreads.py. -/
import Derived.Test.YtdiliajpcgfpoaaOps
import Derived.Test.YtdiliajpcgfpoaaFrOne
namespace Go.Proofs.Ytdiliajpcgfpoaa
open Go.RowKit

theorem rdLeftS (w : World) {g : Nat} {s : ByteArray} {e : Nat} (h : Rd w g s.data.toList e) : Calls Try.prog 22 #[.pointer (some ⟨g, 0, none⟩)] w fun en w' => en = .returned (.int .i64 (s.size : Int)) ∧ w = w' := by
  have := rdLeft w h
  rwa [show s.data.toList.length = s.size from by simp] at this
theorem below_on {B : Nat} {w w1 w2 : World} (h : Below B w w1) (h' : Below w1.heap.size w1 w2) (hB : B ≤ w.heap.size) : Below B w w2 :=
  h.trans (h'.mono (Nat.le_trans hB h.size))

theorem textOp_rest (l : List UInt8) (m : Nat) : (textOp l 0 m).2.1.length ≤ l.length := by
  rw [textOp_zero]
  split
  · split
    · exact Nat.le_refl _
    · split
      · exact Nat.le_refl _
      · simp
  · exact Nat.le_refl _
theorem textOp_bad (l : List UInt8) {e : Nat} (m : Nat) (he : e ≠ 0) : textOp l e m = ([], l, e) := by
  have h : textOp l e m = if (numOp l e).2.2 = 0 then
      (if m < (numOp l e).1 then ([], l, 4) else if (numOp l e).2.1.length < (numOp l e).1 then ([], l, 3) else ((numOp l e).2.1.take (numOp l e).1, (numOp l e).2.1.drop (numOp l e).1, 0))
    else ([], (numOp l e).2.1, (numOp l e).2.2) := rfl
  have hn : numOp l e = (0, l, e) := by unfold numOp; rw [if_neg he]
  rw [h, hn]
  dsimp only
  rw [if_neg he]

set_option maxHeartbeats 8000000 in
set_option maxRecDepth 100000 in
theorem frameReads_few (w : World) {p : Option Addr} {c : Nat} {l : List UInt8} (h : IsB w p c l) (hl : l.length ≤ 400) {po : Option Addr} {co : Nat} {L : List (Int × Int)} (ho : IsO w po co L) (hL : L.length ≤ 60) :
    Calls Try.prog 5 #[.slice p l.length c, .slice po L.length co] w fun e w' => e = .returned (.bool true) ∧ Below w.heap.size w w' := by
  have g0 : ¬ (400 : Int) < (l.length : Int) := by omega
  have g1 : ¬ (60 : Int) < (L.length : Int) := by omega
  have H := Lib.hid h
  have HO := Lib.hid ho
  have hnew := newReader w h (by omega)
  have HNEW := Lib.hid hnew
  clear h ho hnew
  go_enter Try.func5, Try.ntmps5
  go_wp2_with fail
  refine HNEW.out.mono ?_
  rintro e w1 ⟨g, rfl, hge, hrd, hbel⟩
  have k0 := conv_of (H.out.below hbel)
  have HGE : Hid (w.heap.size ≤ g) := hge
  have HB1 := Lib.hid hbel
  have HR1 : Hid (Rd w1 g (str l).data.toList 0) := by show Rd w1 g (str l).data.toList 0; rw [str_data]; exact hrd
  have hsz : (str l).size ≤ 400 := by rw [str_size]; exact hl
  clear HNEW hge hrd hbel
  go_wp2
  go_loopw [6, 7, 9, 10, 11, 12, 13, 14, 15, 16, 17, 36, 42, 60, 83] (fun v6 v7 _ _ _ _ _ _ _ _ _ v36 _ _ _ wr => ∃ (i e : Nat) (s : ByteArray), v6 = .string s ∧ v7 = .int .i64 e ∧ v36 = .int .i64 i ∧ i ≤ L.length ∧ s.size ≤ 400 ∧ Rd wr g s.data.toList e ∧ Below w.heap.size w wr)
    (fun _ _ _ _ _ _ _ _ _ _ _ v36 _ _ _ _ => L.length - (intOf v36).toNat)
  case atStart => exact ⟨0, 0, str l, rfl, rfl, rfl, Nat.zero_le _, hsz, HR1.out, HB1.out⟩
  case round =>
    obtain ⟨i, e, s, rfl, rfl, rfl, hi, hs, hrd, hbel⟩ := hrel
    by_cases h1 : i < L.length
    · have g2 : (i : Int) < (L.length : Int) := by omega
      obtain ⟨b, o, rfl, hb, hc⟩ := HO.out.cells (by omega)
      obtain ⟨⟨k, n⟩, hx⟩ : ∃ x, L[i]? = some x := ⟨_, List.getElem?_eq_getElem h1⟩
      have hn64 := HO.out.wf _ (List.mem_of_getElem? hx)
      have hc2 := hc _ _ hx
      have k1 : wr.cell? ⟨b, o + i * 2, none⟩ = some (.int .i64 k) := (hbel.cell (p := ⟨b, o + i * 2, none⟩) hb).trans hc2.1
      have k2 : wr.cell? ⟨b, o + i * 2 + 1, none⟩ = some (.int .i64 n) := (hbel.cell (p := ⟨b, o + i * 2 + 1, none⟩) hb).trans hc2.2
      have R1 : Hid (Rd (wr.alloc (.cells #[.int .i64 k, .int .i64 n] 40)) g s.data.toList e) := hrd.below ((Below.refl wr.heap.size wr).alloc (Nat.le_refl _) _)
      have B1 : Hid (Below w.heap.size w (wr.alloc (.cells #[.int .i64 k, .int .i64 n] 40))) := hbel.alloc hbel.size _
      clear hc hx hc2 hrd hbel
      by_cases e1 : k = 1
      · subst e1
        obtain ⟨x, u, ec, hd⟩ : ∃ a b c, dec s.data.toList = (a, b, c) := ⟨_, _, _, rfl⟩
        have hread : ∀ W, Calls Try.prog 18 #[.string s] W fun en w' => ∃ t : ByteArray, en = .returned (.tuple #[.int .u64 (x : Int), .string t, .int .i64 (ec : Int)]) ∧ t.data.toList = s.data.toList.drop u ∧ Below W.heap.size W w' := fun W => by
          have := refRead W s (by omega)
          rw [hd] at this
          exact this.mono fun en w' ⟨t, h1, h2, nn, h3⟩ => ⟨t, h1, h2, by rw [h3]; exact below_drewN (Below.refl _ _) _⟩
        have HREAD := Lib.hid hread
        have HD := Lib.hid hd
        clear hread hd
        by_cases he : e = 0
        · subst he
          go_wp2_with fail
          refine (HREAD.out _).mono ?_
          rintro en w2 ⟨t, rfl, ht, hb⟩
          have hnum := rdNumber w2 (R1.out.below hb)
          have hop : numOp s.data.toList 0 = (x, t.data.toList, ec) := by unfold numOp; rw [if_pos rfl, HD.out, ht]
          rw [hop] at hnum
          dsimp only at hnum
          have HNUM := Lib.hid hnum
          have B2 := Lib.hid (below_on B1.out hb (Nat.le_refl _))
          have hts : t.size ≤ 400 := by
            have := congrArg List.length ht
            simp at this
            omega
          clear hnum hop hb ht
          go_wp2_with fail
          refine HNUM.out.mono ?_
          rintro en w3 ⟨rfl, hr3, hgr⟩
          have R3 := Lib.hid hr3
          have B3 : Hid (Below w.heap.size w w3) := B2.out.trans (below_grown hgr HGE.out B2.out.size)
          clear hr3 hgr
          go_wp2_with fail
          refine (rdErr _ R3.out).mono ?_
          rintro en w' ⟨rfl, rfl⟩
          go_wp2_with fail
          refine (rdLeftS _ R3.out).mono ?_
          rintro en w' ⟨rfl, rfl⟩
          go_wp2
          go_roundw
          case rel => exact ⟨i + 1, ec, t, rfl, by first | rfl | go_num, by go_num, by omega, hts, R3.out, B3.out⟩
          case measure => simp [intOf]; omega
        · have ge : ¬ (e : Int) = 0 := by omega
          go_wp2_with fail
          refine (HREAD.out _).mono ?_
          rintro en w2 ⟨t, rfl, ht, hb⟩
          have hnum := rdNumber w2 (R1.out.below hb)
          have hop : numOp s.data.toList e = (0, s.data.toList, e) := by unfold numOp; rw [if_neg he]
          rw [hop] at hnum
          dsimp only at hnum
          have HNUM := Lib.hid hnum
          have B2 := Lib.hid (below_on B1.out hb (Nat.le_refl _))
          clear hnum hop hb ht
          go_wp2_with fail
          refine HNUM.out.mono ?_
          rintro en w3 ⟨rfl, hr3, hgr⟩
          have R3 := Lib.hid hr3
          have B3 : Hid (Below w.heap.size w w3) := B2.out.trans (below_grown hgr HGE.out B2.out.size)
          clear hr3 hgr
          go_wp2_with fail
          refine (rdErr _ R3.out).mono ?_
          rintro en w' ⟨rfl, rfl⟩
          go_wp2_with fail
          refine (rdLeftS _ R3.out).mono ?_
          rintro en w' ⟨rfl, rfl⟩
          go_wp2
          go_roundw
          case rel => exact ⟨i + 1, e, s, rfl, by first | rfl | go_num, by go_num, by omega, hs, R3.out, B3.out⟩
          case measure => simp [intOf]; omega
      · by_cases e2 : k = 2
        · subst e2
          obtain ⟨m, hm⟩ : ∃ m : Nat, max n 0 = (m : Int) := ⟨(max n 0).toNat, by omega⟩
          have hm63 : m ≤ 9223372036854775807 := by
            simp [Lit.wf, IntKind.min, IntKind.max, IntKind.signed, IntKind.bits] at hn64
            omega
          have hsl : s.data.toList.length ≤ 400 := by simpa using hs
          obtain ⟨T, R, E, ht⟩ : ∃ a b c, textOp s.data.toList 0 m = (a, b, c) := ⟨_, _, _, rfl⟩
          have htake : ∀ W, Calls Try.prog 19 #[.string s, .int .i64 n] W fun en w' => ∃ t r : ByteArray, en = .returned (.tuple #[.string t, .string r, .int .i64 (E : Int)]) ∧ t.data.toList = T ∧ r.data.toList = R ∧ Below W.heap.size W w' := fun W => by
            have := refTake W s (by omega) n m hm hm63
            rw [ht] at this
            exact this
          have hRl := textOp_rest s.data.toList m
          rw [ht] at hRl
          dsimp only at hRl
          have HTAKE := Lib.hid htake
          have HT := Lib.hid ht
          have HM := Lib.hid hm
          clear htake ht hm
          by_cases he : e = 0
          · subst he
            go_wp2_with fail
            refine (HTAKE.out _).mono ?_
            rintro en w2 ⟨t, r, rfl, htT, hrR, hb⟩
            have kc : w2.cell? ⟨wr.heap.size, 1, none⟩ = some (.int .i64 n) := (hb.cell (p := ⟨wr.heap.size, 1, none⟩) (by simp)).trans (cell_of_row _ _ 1 _ _ (0, 0) (heap_alloc_new wr _))
            have htx := rdText w2 n m HM.out hm63 (by omega) (R1.out.below hb)
            rw [HT.out] at htx
            dsimp only at htx
            have HTX := Lib.hid htx
            have B2 := Lib.hid (below_on B1.out hb (Nat.le_refl _))
            obtain rfl : str T = t := by rw [← htT, str_of]
            have hts : r.size ≤ 400 := by
              have := congrArg List.length hrR
              simp at this
              omega
            have HR := Lib.hid hrR
            clear htx hb htT hrR
            go_wp2_with fail
            refine HTX.out.mono ?_
            rintro en w3 ⟨q, d, rfl, hr⟩
            have kv := conv_of hr.ob.isB
            have R3 : Hid (Rd w3 g r.data.toList E) := by show Rd w3 g r.data.toList E; rw [HR.out]; exact hr.rd
            have B3 : Hid (Below w.heap.size w w3) := B2.out.trans (below_grown hr.grown HGE.out B2.out.size)
            dsimp only at kv
            clear hr
            go_wp2_with fail
            refine (rdErr _ R3.out).mono ?_
            rintro en w' ⟨rfl, rfl⟩
            go_wp2_with fail
            refine (rdLeftS _ R3.out).mono ?_
            rintro en w' ⟨rfl, rfl⟩
            go_wp2
            go_roundw
            case rel => exact ⟨i + 1, E, r, rfl, by first | rfl | go_num, by go_num, by omega, hts, R3.out, B3.out⟩
            case measure => simp [intOf]; omega
          · have ge : ¬ (e : Int) = 0 := by omega
            go_wp2_with fail
            refine (HTAKE.out _).mono ?_
            rintro en w2 ⟨t, r, rfl, htT, hrR, hb⟩
            have kc : w2.cell? ⟨wr.heap.size, 1, none⟩ = some (.int .i64 n) := (hb.cell (p := ⟨wr.heap.size, 1, none⟩) (by simp)).trans (cell_of_row _ _ 1 _ _ (0, 0) (heap_alloc_new wr _))
            have htx := rdText w2 n m HM.out hm63 (by omega) (R1.out.below hb)
            rw [textOp_bad s.data.toList m he] at htx
            dsimp only at htx
            have HTX := Lib.hid htx
            have B2 := Lib.hid (below_on B1.out hb (Nat.le_refl _))
            clear htx hb htT hrR
            go_wp2_with fail
            refine HTX.out.mono ?_
            rintro en w3 ⟨q, d, rfl, hr⟩
            have kv : (Go.convert 23 9 (.slice q 0 d)).run Try.prog w3 = .ok (.string ⟨#[]⟩) w3 := conv_of hr.ob.isB
            have R3 : Hid (Rd w3 g s.data.toList e) := hr.rd
            have B3 : Hid (Below w.heap.size w w3) := B2.out.trans (below_grown hr.grown HGE.out B2.out.size)
            clear hr
            go_wp2_with fail
            refine (rdErr _ R3.out).mono ?_
            rintro en w' ⟨rfl, rfl⟩
            go_wp2_with fail
            refine (rdLeftS _ R3.out).mono ?_
            rintro en w' ⟨rfl, rfl⟩
            go_wp2
            go_roundw
            case rel => exact ⟨i + 1, e, s, rfl, by first | rfl | go_num, by go_num, by omega, hs, R3.out, B3.out⟩
            case measure => simp [intOf]; omega
        · by_cases e3 : k = 3
          · subst e3
            obtain ⟨m, hm⟩ : ∃ m : Nat, max n 0 = (m : Int) := ⟨(max n 0).toNat, by omega⟩
            have hm63 : m ≤ 9223372036854775807 := by
              simp [Lit.wf, IntKind.min, IntKind.max, IntKind.signed, IntKind.bits] at hn64
              omega
            have hsl : s.data.toList.length ≤ 400 := by simpa using hs
            by_cases he : e = 0
            · subst he
              by_cases hms : s.size < m
              · have gm : (s.size : Int) < (m : Int) := by omega
                have hop : takeOp s.data.toList 0 m = ([], s.data.toList, 3) := by unfold takeOp; rw [if_pos rfl, if_pos (by simpa using hms)]
                have htk := rdTake _ n m hm (by omega) R1.out
                rw [hop] at htk
                dsimp only at htk
                have HTK := Lib.hid htk
                clear htk hop hms
                go_wp2_with fail
                refine HTK.out.mono ?_
                rintro en w3 ⟨q, d, rfl, hr⟩
                have kv : (Go.convert 23 9 (.slice q 0 d)).run Try.prog w3 = .ok (.string ⟨#[]⟩) w3 := conv_of hr.ob.isB
                have R3 : Hid (Rd w3 g s.data.toList 3) := hr.rd
                have B3 : Hid (Below w.heap.size w w3) := B1.out.trans (below_grown hr.grown HGE.out B1.out.size)
                clear hr
                go_wp2_with fail
                refine (rdErr _ R3.out).mono ?_
                rintro en w' ⟨rfl, rfl⟩
                go_wp2_with fail
                refine (rdLeftS _ R3.out).mono ?_
                rintro en w' ⟨rfl, rfl⟩
                go_wp2
                go_roundw
                case rel => exact ⟨i + 1, 3, s, rfl, by first | rfl | go_num, by go_num, by omega, hs, R3.out, B3.out⟩
                case measure => simp [intOf]; omega
              · have gm : ¬ (s.size : Int) < (m : Int) := by omega
                have hop : takeOp s.data.toList 0 m = (s.data.toList.take m, s.data.toList.drop m, 0) := by unfold takeOp; rw [if_pos rfl, if_neg (by simpa using hms)]
                have hex : str (s.data.toList.take m) = s.extract 0 m := by rw [← str_of (s.extract 0 m)]; simp
                have HEX := Lib.hid hex
                have HOP := Lib.hid hop
                have HM := Lib.hid hm
                clear hop hex hms
                go_wp2_with fail
                go_quiet (fail)
                go_wp2_with fail
                have htk := rdTake _ n m HM.out (by omega) (R1.out.below (below_drewN (Below.refl _ _) nq))
                rw [HOP.out] at htk
                dsimp only at htk
                refine htk.mono ?_
                rintro en w3 ⟨q, d, rfl, hr⟩
                have kv0 := conv_of hr.ob.isB
                dsimp only at kv0
                rw [HEX.out, List.length_take, show s.data.toList.length = s.size from by simp] at kv0
                have kv : (Go.convert 23 9 (.slice q (min m s.size) d)).run Try.prog w3 = .ok (.string (s.extract 0 m)) w3 := kv0
                clear kv0
                have hB1 := below_drewN B1.out nq
                have R3 : Hid (Rd w3 g (s.extract m s.size).data.toList 0) := by show Rd w3 g (s.extract m s.size).data.toList 0; rw [Lib.extract_to_end]; exact hr.rd
                have B3 : Hid (Below w.heap.size w w3) := hB1.trans (below_grown hr.grown HGE.out hB1.size)
                have hes : (s.extract m s.size).size ≤ 400 := by simp; omega
                clear hr htk hB1
                go_wp2_with fail
                refine (rdErr _ R3.out).mono ?_
                rintro en w' ⟨rfl, rfl⟩
                go_wp2_with fail
                refine (rdLeftS _ R3.out).mono ?_
                rintro en w' ⟨rfl, rfl⟩
                go_wp2
                go_roundw
                case rel => exact ⟨i + 1, 0, s.extract m s.size, rfl, by first | rfl | go_num, by go_num, by omega, hes, R3.out, B3.out⟩
                case measure => simp [intOf]; omega
            · have ge : ¬ (e : Int) = 0 := by omega
              have hop : takeOp s.data.toList e m = ([], s.data.toList, e) := by unfold takeOp; rw [if_neg he]
              have htk := rdTake _ n m hm (by omega) R1.out
              rw [hop] at htk
              dsimp only at htk
              have HTK := Lib.hid htk
              clear htk hop
              go_wp2_with fail
              refine HTK.out.mono ?_
              rintro en w3 ⟨q, d, rfl, hr⟩
              have kv : (Go.convert 23 9 (.slice q 0 d)).run Try.prog w3 = .ok (.string ⟨#[]⟩) w3 := conv_of hr.ob.isB
              have R3 : Hid (Rd w3 g s.data.toList e) := hr.rd
              have B3 : Hid (Below w.heap.size w w3) := B1.out.trans (below_grown hr.grown HGE.out B1.out.size)
              clear hr
              go_wp2_with fail
              refine (rdErr _ R3.out).mono ?_
              rintro en w' ⟨rfl, rfl⟩
              go_wp2_with fail
              refine (rdLeftS _ R3.out).mono ?_
              rintro en w' ⟨rfl, rfl⟩
              go_wp2
              go_roundw
              case rel => exact ⟨i + 1, e, s, rfl, by first | rfl | go_num, by go_num, by omega, hs, R3.out, B3.out⟩
              case measure => simp [intOf]; omega
          · go_wp2_with fail
            refine (rdErr _ R1.out).mono ?_
            rintro en w' ⟨rfl, rfl⟩
            go_wp2_with fail
            refine (rdLeftS _ R1.out).mono ?_
            rintro en w' ⟨rfl, rfl⟩
            go_wp2
            go_roundw
            case rel => exact ⟨i + 1, e, s, rfl, rfl, by go_num, by omega, hs, R1.out, B1.out⟩
            case measure => simp [intOf]; omega
    · obtain rfl : i = L.length := by omega
      have g2 : ¬ (L.length : Int) < (L.length : Int) := by omega
      have hend := rdEnd wr hrd
      have BW := Lib.hid hbel
      have hsl : s.data.toList.length = s.size := by simp
      clear hrd hbel
      by_cases he : e = 0
      · subst he
        by_cases hz : 0 < s.size
        · have gz : (0 : Int) < (s.size : Int) := by omega
          rw [show endE s.data.toList 0 = 7 from by unfold endE; rw [if_pos ⟨rfl, by omega⟩]] at hend
          have HEND := Lib.hid hend
          clear hend hsl
          go_wp2_with fail
          refine HEND.out.mono ?_
          rintro en w' ⟨rfl, rfl⟩
          go_wp2_with fail
          refine (awake _).mono ?_
          rintro en w' ⟨rfl, hb⟩
          have B2 := Lib.hid (below_on BW.out hb (Nat.le_refl _))
          clear hb
          go_wp2
          go_ret
          exact ⟨rfl, B2.out⟩
        · have gz : ¬ (0 : Int) < (s.size : Int) := by omega
          rw [show endE s.data.toList 0 = 0 from by unfold endE; rw [if_neg (by omega)]] at hend
          have HEND := Lib.hid hend
          clear hend hsl
          go_wp2_with fail
          refine HEND.out.mono ?_
          rintro en w' ⟨rfl, rfl⟩
          go_wp2_with fail
          refine (awake _).mono ?_
          rintro en w' ⟨rfl, hb⟩
          have B2 := Lib.hid (below_on BW.out hb (Nat.le_refl _))
          clear hb
          go_wp2
          go_ret
          exact ⟨rfl, B2.out⟩
      · have ge : ¬ (e : Int) = 0 := by omega
        rw [show endE s.data.toList e = e from by unfold endE; rw [if_neg (by omega)]] at hend
        have HEND := Lib.hid hend
        clear hend hsl
        go_wp2_with fail
        refine HEND.out.mono ?_
        rintro en w' ⟨rfl, rfl⟩
        go_wp2_with fail
        refine (awake _).mono ?_
        rintro en w' ⟨rfl, hb⟩
        have B2 := Lib.hid (below_on BW.out hb (Nat.le_refl _))
        clear hb
        go_wp2
        go_ret
        exact ⟨rfl, B2.out⟩

set_option maxHeartbeats 1000000 in
set_option maxRecDepth 100000 in
theorem frameReads_law (w : World) {p : Option Addr} {c : Nat} {l : List UInt8} (h : IsB w p c l) {po : Option Addr} {co : Nat} {L : List (Int × Int)} (ho : IsO w po co L) :
    Calls Try.prog 5 #[.slice p l.length c, .slice po L.length co] w fun e w' => e = .returned (.bool true) ∧ Below w.heap.size w w' := by
  by_cases hl : l.length ≤ 400
  · by_cases hL : L.length ≤ 60
    · exact frameReads_few w h hl ho hL
    · have g0 : ¬ (400 : Int) < (l.length : Int) := by omega
      have g1 : (60 : Int) < (L.length : Int) := by omega
      go_enter Try.func5, Try.ntmps5
      go_wp2_with fail
      refine (awake _).mono ?_
      rintro e w' ⟨rfl, hbel⟩
      have HB := Lib.hid hbel
      clear hbel
      go_wp2
      go_ret
      exact ⟨rfl, HB.out⟩
  · have g0 : (400 : Int) < (l.length : Int) := by omega
    go_enter Try.func5, Try.ntmps5
    go_wp2_with fail
    refine (awake _).mono ?_
    rintro e w' ⟨rfl, hbel⟩
    have HB := Lib.hid hbel
    clear hbel
    go_wp2
    go_ret
    exact ⟨rfl, HB.out⟩
end Go.Proofs.Ytdiliajpcgfpoaa

