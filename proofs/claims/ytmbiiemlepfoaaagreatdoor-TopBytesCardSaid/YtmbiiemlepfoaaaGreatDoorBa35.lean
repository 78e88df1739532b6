/- The law: TopBytes. The six listed tables of the top laws' rows: what they give a walk; a world that holds them. -/
import Derived.Test.YtmbiiemlepfoaaaGreatDoorBa33
import Derived.Test.YtmbiiemlepfoaaaGreatDoorBa34
import Derived.Test.YtmbiiemlepfoaaaGreatDoorRows
import Derived.Deep.DeepHandedRow
import Derived.Deep.DeepWitnessRowRef
import Derived.Lib.LaidIn
import Derived.Lib.LaidSlice
import Derived.PinnedBridge
import Derived.ProofKit
import Derived.SizedLaws
import Derived.Shelf.Vars

/-! The law: TopBytes. -/
namespace Go.Proofs.YtmbiiemlepfoaaaGreatDoor
open Go.RowKit
set_option linter.unusedVariables false

/-- What the laws ask of the world. -/
structure TopW (w : World) : Prop where
  stat : Stat w
  tab : TabAt 2 Lib.deBruijn32tab w
  start : StartAt w
theorem TopW.keep {w w' : World} (h : TopW w) (hb : Below 7 w w') : TopW w' := ⟨h.stat.keep hb, tab_keep h.tab (hb.block 2 (by omega)), StartAt.keep h.start (hb.block 0 (by omega))⟩
theorem TopW.below {w w' : World} (h : TopW w) (hb : Below w.heap.size w w') : TopW w' := h.keep (le7 hb h.stat.big)
theorem TopW.alive {w : World} (h : TopW w) : Calls Tryz.prog 6 #[] w fun e w' => e = .returned (.bool true) ∧ Below w.heap.size w w' := aliveW w h.stat h.tab h.start

set_option maxHeartbeats 2000000 in
set_option maxRecDepth 100000 in
theorem bytesBig (w : World) (hW : TopW w) {p p2 : Option Addr} {c c2 : Nat} {ds b : List UInt8} (h : ds.length > 400 ∨ b.length > 3000) :
    Calls Tryz.prog 3 #[.slice p ds.length c, .slice p2 b.length c2] w fun e w' => e = .returned (.bool true) ∧ Below w.heap.size w w' := by
  have CA := Lib.hid hW.alive
  clear hW
  by_cases h1 : (ds.length : Int) > 400
  · clear h
    go_enter Tryz.func3, Tryz.ntmps3
    go_wp2_with (go_at_call 6; ((with_reducible refine (CA.out).mono ?_)); rintro e w1 ⟨rfl, hb⟩)
    go_ret
    exact ⟨rfl, hb⟩
  · have h2 : (b.length : Int) > 3000 := by omega
    clear h
    go_enter Tryz.func3, Tryz.ntmps3
    go_wp2_with (go_at_call 6; ((with_reducible refine (CA.out).mono ?_)); rintro e w1 ⟨rfl, hb⟩)
    go_ret
    exact ⟨rfl, hb⟩

set_option maxHeartbeats 4000000 in
set_option maxRecDepth 100000 in
theorem bytesErr (w : World) (hW : TopW w) {p p2 : Option Addr} {c c2 : Nat} {ds b : List UInt8} (hd : IsB w p c ds) (hb : IsB w p2 c2 b) (h1 : ds.length ≤ 400) (h2 : b.length ≤ 3000) (he : (readM b).2 ≠ 0) :
    Calls Tryz.prog 3 #[.slice p ds.length c, .slice p2 b.length c2] w fun e w' => e = .returned (.bool true) ∧ Below w.heap.size w w' := by
  have CO := Lib.hid (mapsOpenGe w hd)
  obtain ⟨E, hE⟩ : ∃ E, E = (readM b).2 := ⟨_, rfl⟩
  have CR : Hid (∀ W, Calls Tryz.prog 8 #[.string (str b)] W (Ref27R W E)) := Lib.hid (fun W => by rw [hE]; exact ref27Read W b (by omega))
  have CD : Hid (∀ W mp, Below w.heap.size w W → Calls Tryz.prog 9 #[.pointer (some ⟨mp, 0, none⟩), .slice p2 b.length c2] W fun e w' => e = .returned (.tuple #[.int .i64 0, .int .i64 (E : Int)]) ∧ Below W.heap.size W w') := Lib.hid (fun W mp hW => by
    rw [hE]
    exact mapsDecodeErr W (hb.below hW) (by omega) he)
  have KB := Lib.hid (fun W (hW : Below w.heap.size w W) => conv_ofq (hb.below hW))
  have CA := Lib.hid (fun W (hb : Below w.heap.size w W) => (hW.below hb).alive)
  have g1 : ¬ (ds.length : Int) > 400 := by omega
  have g2 : ¬ (b.length : Int) > 3000 := by omega
  have gE : ((E : Int) != 0) = true := by simp; omega
  have gE2 : ((E : Int) == 0) = false := by simp; omega
  obtain ⟨dt, hdt⟩ : ∃ dt, dt = ds.take 16777216 := ⟨_, rfl⟩
  have hdl : dt.length = ds.length := by rw [hdt, List.length_take]; omega
  rw [← hdt] at CO
  have HDL := Lib.hid hdl
  clear hW hd hb h1 h2 he hE hdt hdl
  go_enter Tryz.func3, Tryz.ntmps3
  go_wp2_with first
    | (go_at_call 7; ((with_reducible refine (CO.out).mono ?_)); rintro e w1 ⟨mp, g, sb, r, S, rfl, hm, hb1, hg⟩; have kb := KB.out w1 hb1; have HM := Lib.hid hm; have HB1 := Lib.hid hb1; clear hm hb1 hg)
    | (go_at_call 8; ((with_reducible refine (CR.out _).mono ?_)); rintro e w2 ⟨v, rfl, hb2⟩; have HB2 := Lib.hid (HB1.out.trans (hb2.mono HB1.out.size)); have HM2 := Lib.hid (HM.out.below hb2); clear hb2)
    | (go_at_call 9; ((with_reducible refine (CD.out _ _ HB2.out).mono ?_)); rintro e w3 ⟨rfl, hb3⟩; have HB3 := Lib.hid (HB2.out.trans (hb3.mono HB2.out.size)); have HM3 := Lib.hid (HM2.out.below hb3); have CH := Lib.hid (mapsHandlesNone w3 (HM2.out.below hb3)); clear hb3)
    | (go_at_call 10; ((with_reducible refine (CH.out).mono ?_)); rintro e w4 ⟨rfl, hb4⟩; have HB4 := Lib.hid (HB3.out.trans (hb4.mono HB3.out.size)); have cl := mapsLeft w4 (HM3.out.below hb4); rw [HDL.out] at cl; have CL := Lib.hid cl; clear hb4 cl)
    | (go_at_call 11; ((with_reducible refine (CL.out).mono ?_)); rintro e w5 ⟨rfl, rfl⟩)
    | (go_at_call 6; ((with_reducible refine (CA.out _ HB4.out).mono ?_)); rintro e w6 ⟨rfl, hb6⟩)
    | fail
  go_ret
  exact ⟨rfl, HB4.out.trans (hb6.mono HB4.out.size)⟩

set_option maxHeartbeats 4000000 in
set_option maxRecDepth 100000 in
theorem bytesDry (w : World) (hW : TopW w) {p p2 : Option Addr} {c c2 : Nat} {ds b : List UInt8} (hd : IsB w p c ds) (hb : IsB w p2 c2 b) (h1 : ds.length < 16) (h2 : b.length ≤ 3000) (he' : (readM b).2 = 0) :
    Calls Tryz.prog 3 #[.slice p ds.length c, .slice p2 b.length c2] w fun e w' => e = .returned (.bool true) ∧ Below w.heap.size w w' := by
  have CO := Lib.hid (mapsOpenGe w hd)
  have CR : Hid (∀ W, Calls Tryz.prog 8 #[.string (str b)] W (Ref27R W 0)) := Lib.hid (fun W => by have := ref27Read W b (by omega); rwa [he'] at this)
  obtain ⟨dt, hdt⟩ : ∃ dt, dt = ds.take 16777216 := ⟨_, rfl⟩
  have hdl : dt.length = ds.length := by rw [hdt, List.length_take]; omega
  have CD : Hid (∀ W S D mp g sb r, Below w.heap.size w W → MapsAt W S D mp g sb r dt 0 [] 0 → Calls Tryz.prog 9 #[.pointer (some ⟨mp, 0, none⟩), .slice p2 b.length c2] W fun e w' => e = .returned (.tuple #[.int .i64 0, .int .i64 11]) ∧ Below W.heap.size W w') := Lib.hid (fun W S D mp g sb r hW hm =>
    mapsDecodeDry W hm (by decide) (by omega) (hb.below hW) (by omega) he')
  have KB := Lib.hid (fun W (hW : Below w.heap.size w W) => conv_ofq (hb.below hW))
  have CA := Lib.hid (fun W (hb : Below w.heap.size w W) => (hW.below hb).alive)
  have g1 : ¬ (ds.length : Int) > 400 := by omega
  have g2 : ¬ (b.length : Int) > 3000 := by omega
  have g3 : (ds.length : Int) < 16 := by omega
  rw [← hdt] at CO
  have HDL := Lib.hid hdl
  clear hW hd hb h1 h2 he' hdt hdl
  go_enter Tryz.func3, Tryz.ntmps3
  go_wp2_with first
    | (go_at_call 7; ((with_reducible refine (CO.out).mono ?_)); rintro e w1 ⟨mp, g, sb, r, S, rfl, hm, hb1, hg⟩; have kb := KB.out w1 hb1; have HM := Lib.hid hm; have HB1 := Lib.hid hb1; clear hm hb1 hg)
    | (go_at_call 8; ((with_reducible refine (CR.out _).mono ?_)); rintro e w2 ⟨v, rfl, hb2⟩; have HB2 := Lib.hid (HB1.out.trans (hb2.mono HB1.out.size)); have HM2 := Lib.hid (HM.out.below hb2); clear hb2)
    | (go_at_call 9; ((with_reducible refine (CD.out _ _ _ _ _ _ _ HB2.out HM2.out).mono ?_)); rintro e w3 ⟨rfl, hb3⟩; have HB3 := Lib.hid (HB2.out.trans (hb3.mono HB2.out.size)); have HM3 := Lib.hid (HM2.out.below hb3); have CH := Lib.hid (mapsHandlesNone w3 (HM2.out.below hb3)); clear hb3)
    | (go_at_call 10; ((with_reducible refine (CH.out).mono ?_)); rintro e w4 ⟨rfl, hb4⟩; have HB4 := Lib.hid (HB3.out.trans (hb4.mono HB3.out.size)); have cl := mapsLeft w4 (HM3.out.below hb4); rw [HDL.out] at cl; have CL := Lib.hid cl; clear hb4 cl)
    | (go_at_call 11; ((with_reducible refine (CL.out).mono ?_)); rintro e w5 ⟨rfl, rfl⟩)
    | (go_at_call 6; ((with_reducible refine (CA.out _ HB4.out).mono ?_)); rintro e w6 ⟨rfl, hb6⟩)
    | fail
  go_ret
  exact ⟨rfl, HB4.out.trans (hb6.mono HB4.out.size)⟩

set_option maxHeartbeats 4000000 in
set_option maxRecDepth 100000 in
theorem bytesGood (w : World) (hW : TopW w) {p p2 : Option Addr} {c c2 : Nat} {ds b : List UInt8} (hd : IsB w p c ds) (hb : IsB w p2 c2 b) (h0 : 16 ≤ ds.length) (h1 : ds.length ≤ 400) (h2 : b.length ≤ 3000) (he' : (readM b).2 = 0) :
    Calls Tryz.prog 3 #[.slice p ds.length c, .slice p2 b.length c2] w fun e w' => e = .returned (.bool true) ∧ Below w.heap.size w w' := by
  have CO := Lib.hid (mapsOpenGe w hd)
  have CR : Hid (∀ W, Calls Tryz.prog 8 #[.string (str b)] W (Ref27R W 0)) := Lib.hid (fun W => by have := ref27Read W b (by omega); rwa [he'] at this)
  obtain ⟨dt, hdt⟩ : ∃ dt, dt = ds.take 16777216 := ⟨_, rfl⟩
  have hdl : dt.length = ds.length := by rw [hdt, List.length_take]; omega
  obtain ⟨M, hM⟩ : ∃ M, readM b = (M, 0) := ⟨(readM b).1, by rw [← he']⟩
  obtain ⟨hmb, _, hlen, hMl, _⟩ := read_back hM
  have hfl : (fromT M).list = M := fromT_list _ M (Nat.le_refl _)
  have CD : Hid (∀ W S mp g sb r, Below w.heap.size w W → (w.heap.size ≤ g ∧ w.heap.size ≤ sb ∧ w.heap.size ≤ r) → ∀ D, (∀ j, W.heap.size ≤ j → D j) → MapsAt W S D mp g sb r dt 0 [] 0 → Calls Tryz.prog 9 #[.pointer (some ⟨mp, 0, none⟩), .slice p2 b.length c2] W fun e w' => e = .returned (.tuple #[.int .i64 1, .int .i64 0]) ∧ MapsAt w' S D mp g sb r (dt.drop 16) 1 [(1, readCh (dt.take 16) M)] 1 ∧ Below w.heap.size w w') := Lib.hid (fun W S mp g sb r hWW hg D hD hm => by
    have hw2 := hW.below hWW
    refine (mapsDecode W hD hm (by decide) (by omega) (by omega) (by omega) (hb.below hWW) (by omega) hM (by have := hw2.stat.big; omega) hw2.tab hw2.start).mono ?_
    rintro e w' ⟨h1, h2, h3⟩
    exact ⟨h1, h2, hWW.trans (h3.to_below (by rintro k (rfl | rfl | rfl) <;> omega) hWW.size)⟩)
  have CE : Hid (∀ W S D mp g sb r, MapsAt W S D mp g sb r (dt.drop 16) 1 [(1, readCh (dt.take 16) M)] 1 → Calls Tryz.prog 12 #[.pointer (some ⟨mp, 0, none⟩), .int .i64 1] W fun e w' => ∃ q d, e = .returned (.tuple #[.slice q b.length d, .int .i64 0]) ∧ IsB w' q d b ∧ Below W.heap.size W w') := Lib.hid (fun W S D mp g sb r hm => by
    refine (mapsEncode W hm (hd := 1) (x := (1, readCh (dt.take 16) M)) rfl ?_ ?_ ?_).mono ?_
    · intro x hx
      have hx : x ∈ (fromT M).list := hx
      rw [hfl] at hx
      have := hlen x hx
      omega
    · show (fromT M).size ≤ 1000000
      rw [← T.list_length, hfl]
      omega
    · show sizeM (fromT M) ≤ 16777216
      rw [sizeM_enc, hfl, hmb]
      omega
    · rintro e w' ⟨q, d, rfl, ho, hb'⟩
      have hl2 : mapB (readCh (dt.take 16) M).t.list = b := by show mapB (fromT M).list = b; rw [hfl, hmb]
      dsimp only at ho ⊢
      rw [hl2] at ho ⊢
      exact ⟨q, d, rfl, (OB.of_own ho).isB, hb'⟩)
  have KB := Lib.hid (fun W (hW : Below w.heap.size w W) => conv_ofq (hb.below hW))
  have CA := Lib.hid (fun W (hb : Below w.heap.size w W) => (hW.below hb).alive)
  have g1 : ¬ (ds.length : Int) > 400 := by omega
  have g2 : ¬ (b.length : Int) > 3000 := by omega
  have g3 : ¬ (ds.length : Int) < 16 := by omega
  have g4 : (dt.drop 16).length = ds.length - 16 := by rw [List.length_drop, hdl]
  have g5 : (((dt.drop 16).length : Nat) : Int) = (ds.length : Int) - 16 := by omega
  rw [← hdt] at CO
  have HDL := Lib.hid g5
  have e0 : ((str b).toList == (str b).toList) = true := beq_self_eq_true _
  clear hW hd hb h0 h1 h2 he' hdt hdl hM hmb hlen hMl hfl g4 g5
  go_enter Tryz.func3, Tryz.ntmps3
  go_wp2_with first
    | (go_at_call 7; ((with_reducible refine (CO.out).mono ?_)); rintro e w1 ⟨mp, g, sb, r, S, rfl, hm, hb1, hg⟩; have kb := KB.out w1 hb1; have HM := Lib.hid hm; have HB1 := Lib.hid hb1; have HG := Lib.hid hg; clear hm hb1 hg)
    | (go_at_call 8; ((with_reducible refine (CR.out _).mono ?_)); rintro e w2 ⟨v, rfl, hb2⟩; have HB2 := Lib.hid (HB1.out.trans (hb2.mono HB1.out.size)); have HM2 := Lib.hid (HM.out.below hb2); have HD2 := Lib.hid (fun j (hj : w2.heap.size ≤ j) => Nat.le_trans hb2.size hj); clear hb2)
    | (go_at_call 9; ((with_reducible refine (CD.out _ _ _ _ _ _ HB2.out HG.out _ HD2.out HM2.out).mono ?_)); rintro e w3 ⟨rfl, hm3, hb3⟩; have HB3 := Lib.hid hb3; have HM3 := Lib.hid hm3; clear hb3 hm3)
    | (go_at_call 12; ((with_reducible refine (CE.out _ _ _ _ _ _ _ HM3.out).mono ?_)); rintro e w4 ⟨q, d, rfl, hib, hb4⟩; have kc := conv_ofq hib; have kb4 := KB.out w4 (HB3.out.trans (hb4.mono HB3.out.size)); have HB4 := Lib.hid (HB3.out.trans (hb4.mono HB3.out.size)); have cl := mapsLeft w4 (HM3.out.below hb4); rw [HDL.out] at cl; have CL := Lib.hid cl; clear hb4 cl hib)
    | (go_at_call 11; ((with_reducible refine (CL.out).mono ?_)); rintro e w5 ⟨rfl, rfl⟩)
    | (go_at_call 6; ((with_reducible refine (CA.out _ HB4.out).mono ?_)); rintro e w6 ⟨rfl, hb6⟩)
    | fail
  go_ret
  exact ⟨rfl, HB4.out.trans (hb6.mono HB4.out.size)⟩

/-- The law holds. -/
theorem topBytes (w : World) (hW : TopW w) {p p2 : Option Addr} {c c2 : Nat} {ds b : List UInt8} (hd : IsB w p c ds) (hb : IsB w p2 c2 b) :
    Calls Tryz.prog 3 #[.slice p ds.length c, .slice p2 b.length c2] w fun e w' => e = .returned (.bool true) ∧ Below w.heap.size w w' := by
  by_cases h : ds.length > 400 ∨ b.length > 3000
  · exact bytesBig w hW h
  · by_cases he : (readM b).2 = 0
    · by_cases h0 : ds.length < 16
      · exact bytesDry w hW hd hb h0 (by omega) he
      · exact bytesGood w hW hd hb (by omega) (by omega) (by omega) he
    · exact bytesErr w hW hd hb (by omega) (by omega) he
end Go.Proofs.YtmbiiemlepfoaaaGreatDoor

/-! The six listed tables of the top laws' rows: what they give a walk; a world that holds them. -/
namespace Go.Proofs.YtmbiiemlepfoaaaGreatDoor
open Go.Shelf Go.ChangeShapes Go.WideShapes Go.ChangeAt Go.RowKit Go.Lib

theorem own : ownKnob Tryz.prog.godebug = none := by kernel_rfl
theorem laidOut : laidOutB Tryz.prog = true := by kernel_rfl
/-- What the rows list. -/
def tabs : List (String × DataW Unit) := [("math/bits.deBruijn32tab", Rows.laid_math_bits_deBruijn32tab), ("math/bits.deBruijn64tab", Rows.laid_math_bits_deBruijn64tab), ("brushwood/sip.start", Rows.laid_brushwood_sip_start), ("internal/strconv.uint64pow10", Rows.laid_internal_strconv_uint64pow10), ("unicode/utf8.acceptRanges", Rows.laid_unicode_utf8_acceptRanges), ("unicode/utf8.first", Rows.laid_unicode_utf8_first)]
def tab32 : List Int := Lib.deBruijn32tab.map fun (n : Nat) => (n : Int)
def tab64 : List Int := Lib.deBruijn64tab.map fun (n : Nat) => (n : Int)
def tabStart : List Int := [8317987319222330741, 7237128888997146477, 7816392313619706465, 8387220255154660723]
theorem acc_eq : (Rows.laid_unicode_utf8_acceptRanges : DataW Unit) = Lib.acceptData := by kernel_rfl
theorem first_eq : Rows.laid_unicode_utf8_first = Lib.firstData := Pinned.utf8First_eq
theorem t32_eq : (Rows.laid_math_bits_deBruijn32tab : DataW Unit) = Lib.tabData .u8 tab32 := by kernel_rfl
theorem t64_eq : (Rows.laid_math_bits_deBruijn64tab : DataW Unit) = Lib.tabData .u8 tab64 := by kernel_rfl
theorem start_eq : (Rows.laid_brushwood_sip_start : DataW Unit) = Lib.tabData .u64 tabStart := by kernel_rfl
theorem pow_eq : (Rows.laid_internal_strconv_uint64pow10 : DataW Unit) = Lib.tabData .u64 Lib.pow10Tab := by kernel_rfl
theorem tabs_eq : tabs = [("math/bits.deBruijn32tab", Lib.tabData .u8 tab32), ("math/bits.deBruijn64tab", Lib.tabData .u8 tab64), ("brushwood/sip.start", Lib.tabData .u64 tabStart), ("internal/strconv.uint64pow10", Lib.tabData .u64 Lib.pow10Tab), ("unicode/utf8.acceptRanges", Lib.acceptData), ("unicode/utf8.first", Lib.firstData)] := by
  unfold tabs; rw [acc_eq, first_eq, t32_eq, t64_eq, start_eq, pow_eq]
theorem tabIs_of_reads {W : World} {name : String} {k : IntKind} {zs : List Int} {g : Nat} {t e : TypeId} {n : Nat}
    (hg : Tryz.prog.globalNamed name = some g) (hty : (Tryz.prog.globals[g]?).map (·.type) = some t) (ht : Tryz.prog.underlying t = some (.array n e)) (he : Tryz.prog.underlying e = some (.int k)) (hce : Tryz.prog.cellsOf e = 1) (hct : Tryz.prog.cellsOf t = n)
    (h : VarReads Tryz.prog W name (tabData k zs)) : TabIs Tryz.prog W name k zs := by
  obtain ⟨g', t', cs, fuel, p, hg', ht', hvar, hd⟩ := h
  obtain rfl := Option.some.inj (hg.symm.trans hg')
  obtain rfl := Option.some.inj (hty.symm.trans ht')
  unfold TabIs
  rw [hvar, ← cells_of_tab ht he hce hct hd]
theorem topW_of {W : World} (h : laidMet Tryz.prog tabs W) (hsh : W.ShapedOpen Tryz.prog) : TopW W := by
  rw [tabs_eq] at h
  have hU : Lib.Utf8Tabs 3 4 W := utf8Tabs_of_reads (ρ := Tryz.lays260_ren) Tryz.lays260 ⟨by kernel_rfl, by kernel_rfl, by kernel_rfl, by kernel_rfl, by kernel_rfl, by kernel_rfl, by kernel_rfl⟩ (Lib.laidMet.reads h (.tail _ (.tail _ (.tail _ (.tail _ (.tail _ (.head _))))))) (Lib.laidMet.reads h (.tail _ (.tail _ (.tail _ (.tail _ (.head _))))))
  have h32 := tabIs_of_reads (g := 2) (t := 439) (e := 5) (n := 32) (by kernel_rfl) (by kernel_rfl) (by kernel_rfl) (by kernel_rfl) (by kernel_rfl) (by kernel_rfl) (Lib.laidMet.reads h (n := "math/bits.deBruijn32tab") (.head _))
  have h64 := tabIs_of_reads (g := 6) (t := 449) (e := 5) (n := 64) (by kernel_rfl) (by kernel_rfl) (by kernel_rfl) (by kernel_rfl) (by kernel_rfl) (by kernel_rfl) (Lib.laidMet.reads h (n := "math/bits.deBruijn64tab") (.tail _ (.head _)))
  have hst := tabIs_of_reads (g := 0) (t := 362) (e := 48) (n := 4) (by kernel_rfl) (by kernel_rfl) (by kernel_rfl) (by kernel_rfl) (by kernel_rfl) (by kernel_rfl) (Lib.laidMet.reads h (n := "brushwood/sip.start") (.tail _ (.tail _ (.head _))))
  have c6 := h64.cell (g := 6) (by kernel_rfl) 0 (by decide)
  have hz : 7 ≤ W.heap.size := by
    rcases Nat.lt_or_ge 6 W.heap.size with h' | h'
    · exact h'
    · simp [World.cell?, Array.getElem?_eq_none h'] at c6
  refine ⟨⟨cell_of_shapedOpen_int (zero := #[.int .i64 0]) (t := 3) (g := 1) hsh (of_decide_eq_true (by kernel_rfl)) (by kernel_rfl) rfl (by kernel_rfl) (by kernel_rfl) Tryz.underlying3, hU, hz⟩, fun j hj => ?_, ?_⟩
  · have hj' : j < tab32.length := by simpa [tab32] using hj
    rw [h32.cell (g := 2) (by kernel_rfl) j hj']
    congr 2
    unfold tab32
    rw [List.getD_eq_getElem?_getD, List.getD_eq_getElem?_getD, List.getElem?_map]
    cases Lib.deBruijn32tab[j]? <;> rfl
  · exact ⟨hst.cell (g := 0) (by kernel_rfl) 0 (by decide), hst.cell (g := 0) (by kernel_rfl) 1 (by decide), hst.cell (g := 0) (by kernel_rfl) 2 (by decide), hst.cell (g := 0) (by kernel_rfl) 3 (by decide)⟩

/-- The settled world, the six tables laid. -/
noncomputable def laidWorld (os : Os) : World :=
  let w0 := World.holding Tryz.prog os ⟨#[], #[], []⟩
  let put (h : Array Obj) (g : Nat) (cs : Array Value) : Array Obj := h.modify g fun
    | .cells _ t frozen => .cells cs t frozen
    | o => o
  let h1 := put w0.heap 2 (tab32.map fun z => Value.int .u8 z).toArray
  let h2 := put h1 6 (tab64.map fun z => Value.int .u8 z).toArray
  let h3 := put h2 0 (tabStart.map fun z => Value.int .u64 z).toArray
  let h4 := put h3 5 (Lib.pow10Tab.map fun z => Value.int .u64 z).toArray
  let h5 := put h4 3 (Lib.firstTab.map fun z => Value.int .u8 z).toArray
  let h6 := put h5 4 ((List.range 16).flatMap fun i => [Value.int .u8 (Lib.accLo i), Value.int .u8 (Lib.accHi i)]).toArray
  { w0 with heap := h6 }
set_option maxRecDepth 100000 in
theorem laid_met (os : Os) (args : Array Value) : laidMet Tryz.prog tabs ((laidWorld os).forCall (fun _ _ => 0) ⟨#[], args, []⟩).memory := by
  rw [tabs_eq]
  exact (LaidIn.of_run [2, 6, 0, 5, 4, 3] 8 (by kernel_rfl) (by kernel_rfl) (by kernel_rfl) (by kernel_rfl)).met
end Go.Proofs.YtmbiiemlepfoaaaGreatDoor
