/- The walk of script.read, for a line whose letters are taken. The three lines of alive, read. Pairs that are being read: a row of the call's own. The walk of script.Parse, for alive's text. The walks of script.same (two calls that are one), one, text. -/
import Derived.Test.YtmbiiemlepfoaaaGreatDoorFl25
import Derived.Test.YtmbiiemlepfoaaaGreatDoorFl26
import Derived.Test.YtmbiiemlepfoaaaGreatDoorFl12
import Derived.Recover
import Derived.Defers
import Derived.Test.YtmbiiemlepfoaaaGreatDoorFl24
import Derived.Test.YtmbiiemlepfoaaaGreatDoorFl06

namespace Go.Proofs.YtmbiiemlepfoaaaGreatDoor
open Go.RowKit
set_option linter.unusedVariables false
theorem read_idle (p q : Addr) (w : World) :
    CallsD Tryz.prog 224 #[.pointer (some p), .pointer (some q)] .returning w fun e u' w' => e = .returned (.tuple #[]) ∧ u' = .returning ∧ w' = w := by
  have hnil : ∀ w : World, (binOp BinOp.neq 20 .nilIface .nilIface).run Tryz.prog w = .ok (.bool false) w := fun _ => by kernel_rfl
  refine callsD_of_wpS Tryz.func224 rfl fun c₀ cs hu => ?_
  apply wpS_seq
  apply wpS_region
  simp [wpOpsS, go_sem, recoverD, hu, Tryz.ntmps224, Exit.thenS]
  apply wpS_seq
  apply wpS_region
  simp [wpOpsS, go_sem, Exit.thenS, hnil]
  refine wpS_cond (t := false) (by simp [Act.eval, Array.replicate]) ?_
  simp only [Bool.false_eq_true, if_false]
  refine wpS_of_wp (wp_skip ?_)
  cases c₀
  simp_all [bodyPostS, results, Exit.thenS]
def cs0 (K : Nat) : List Value := [.int .i64 (K : Int), .int .i64 0, .int .i64 0, .int .i64 0, .int .i64 0, .slice none 0 0, .slice none 0 0, .slice none 0 0, .slice none 0 0, .bool false]
structure Stat (w : World) : Prop where
  gm : GM w
  tabs : Lib.Utf8Tabs 3 4 w
  big : 7 ≤ w.heap.size
theorem Stat.keep {w w' : World} (h : Stat w) (hb : Below 7 w w') : Stat w' := ⟨h.gm.keep (hb.block 1 (by omega)), tabs5 h.tabs ⟨hb.os, hb.tape, hb.output, hb.size, fun k hk => hb.block k (by omega)⟩, Nat.le_trans h.big hb.size⟩
theorem alloc3 (w : World) (a b c : Obj) : (((w.alloc a).alloc b).alloc c).heap[w.heap.size]? = some a ∧ (((w.alloc a).alloc b).alloc c).heap[w.heap.size + 1]? = some b ∧ (((w.alloc a).alloc b).alloc c).heap[w.heap.size + 2]? = some c ∧ Below w.heap.size w (((w.alloc a).alloc b).alloc c) := by
  refine ⟨?_, ?_, ?_, (((Below.refl w.heap.size w).alloc (Nat.le_refl _) _).alloc (by simp) _).alloc (by simp; omega) _⟩
  · exact ((Below.heap_alloc _ _ _ (by simp; omega)).trans (Below.heap_alloc _ _ _ (by simp))).trans (heap_alloc_new w a)
  · have h := heap_alloc_new (w.alloc a) b
    rw [show (w.alloc a).heap.size = w.heap.size + 1 from by simp] at h
    exact (Below.heap_alloc _ _ _ (by simp)).trans h
  · have h := heap_alloc_new ((w.alloc a).alloc b) c
    rw [show ((w.alloc a).alloc b).heap.size = w.heap.size + 2 from by simp] at h
    exact h
theorem belowLe {B B' : Nat} {w w' : World} (h : Below B w w') (hb : B' ≤ B) : Below B' w w' := ⟨h.os, h.tape, h.output, h.size, fun k hk => h.block k (by omega)⟩
theorem le7 {w w' : World} (h : Below w.heap.size w w') (hz : 7 ≤ w.heap.size) : Below 7 w w' := ⟨h.os, h.tape, h.output, h.size, fun k hk => h.block k (by omega)⟩
theorem OB.iterAt {w : World} {q : Option Addr} {d : Nat} {l : List UInt8} (h : OB w q d l) {k : Nat} {s : ByteArray} {pos : Nat} (hk : w.heap[k]? = some (.stringIter s pos)) (pos' : Nat) : OB (w.iterAt k s pos') q d l :=
  ⟨h.cap, h.nil, h.big, fun hl => by
    obtain ⟨b, o, cs, hq, hb, hc⟩ := h.row hl
    refine ⟨b, o, cs, hq, (Lib.iterAt_other w k b s pos' (fun e => ?_)).trans hb, hc⟩
    subst e
    rw [hk] at hb
    cases hb⟩
theorem Kp.lower {b : Nat} {w w' : World} (h : Kp b w w') (hb : b ≤ w.heap.size) : Below b w w' := ⟨h.grown.os, h.grown.tape, h.grown.output, h.grown.size, fun k hk => h.grown.block k (by omega) (by simp; omega)⟩
theorem info_180 : (Tryz.prog.info? 180).map (·.size) = some 10 := by kernel_rfl
theorem row_180 : (Tryz.prog.underlying 180).map (·.isRow) = some true := by kernel_rfl
theorem results_150 (tmps : Array Value) (w : World) (g k : Nat) (l : List Value) (fr : Nat × Nat) (hp : tmps.getD 2 undef = .pointer (some ⟨g, 0, none⟩)) (hq : tmps.getD 3 undef = .pointer (some ⟨k, 0, none⟩))
    (hg : w.heap[g]? = some (.cells l.toArray 180 fr)) (hl : l.length = 10) (hk : w.cell? ⟨k, 0, none⟩ = some (.int .i64 0)) : (results Tryz.f150 tmps).run Tryz.prog w = .ok (.tuple #[.agg l.toArray, .int .i64 0]) w := by
  obtain ⟨d, hd, hr⟩ := und_of row_180
  have hp' : tmps[2]?.getD undef = .pointer (some ⟨g, 0, none⟩) := by simpa using hp
  have hq' : tmps[3]?.getD undef = .pointer (some ⟨k, 0, none⟩) := by simpa using hq
  have hres : Tryz.f150.results = #[.cell 2 180, .cell 3 29] := rfl
  have hA := run_loadVar_mid w g 0 180 l d (range_row hg) hd hr (by rw [info_180, hl])
  have hB : (loadVar 29 ⟨k, 0, none⟩).run Tryz.prog w = .ok (.int .i64 0) w := by simp [go_sem, hk]
  simp [results, hres, hp', hq', asAddr, hA, hB]
theorem Ln.stat {W w : World} {b : Nat} {s : List UInt8} {cs : List Value} (h : Ln W b s cs w) (hW : Stat W) (hb : 7 ≤ b) : Stat w := hW.keep ⟨h.below.os, h.below.tape, h.below.output, h.below.size, fun k hk => h.below.block k (by omega)⟩
set_option maxHeartbeats 4000000 in
set_option maxRecDepth 100000 in
theorem readLine (w : World) (hS : Stat w) (s word args r : List UInt8) (f : Bool) (K : Nat) (hK1 : 1 ≤ K) (hK2 : K ≤ 20) (hform : formM K = (word, args)) (hs : s.length ≤ 1000) (hcut : Lib.cut s [32] = (word, r, f)) (hwl : word.length ≤ s.length)
    (huniq : ∀ k, 1 ≤ k → k ≤ 20 → ((str (formM k).1).toList == (str word).toList) = decide (k = K)) (hargs : ∀ i n, bA args i = n → n < 128)
    (I : World → Nat → Nat → World → Prop) (R : List Value → World → Prop)
    (h0 : ∀ W b w', Ln W b (s.drop word.length) (cs0 K) w' → I W b 0 w')
    (hst : ∀ W b pos w' w'', I W b pos w' → w''.heap[b]? = w'.heap[b]? → Below b w' w'' → (∀ q d x, OB w' q d x → OB w'' q d x) → I W b pos w'')
    (hstep : ∀ W b pos c w', args[pos]? = some c → 7 ≤ b → Stat W → I W b pos w' → Calls Tryz.prog 228 #[.pointer (some ⟨b, 0, none⟩), .int .i32 (c.toNat : Int)] w' fun e w'' => e = .returned (.tuple #[]) ∧ I W b (pos + 1) w'' ∧ Kp b w' w'')
    (hend : ∀ W b w', I W b args.length w' → ∃ a0 a1 a2 a3 a4 a5 a6 a7 a8 a9, Ln W b [] [a0, a1, a2, a3, a4, a5, a6, a7, a8, a9] w' ∧ (#[a0, a1, a2, a3, a4, a5, a6, a7, a8, a9].all (·.oneCell')) = true ∧ R [a0, a1, a2, a3, a4, a5, a6, a7, a8, a9] w')
    (hR : ∀ l w' w'', (∀ q d x, OB w' q d x → OB w'' q d x) → R l w' → R l w'') :
    Calls Tryz.prog 150 #[.string (str s)] w fun e w' => ∃ l : List Value, e = .returned (.tuple #[.agg l.toArray, .int .i64 0]) ∧ R l w' ∧ Below w.heap.size w w' := by
  have hmf : ∀ (fn : Fn) (first cap : Array Value) (w : World), (Instr.makeFunc fn first cap).run Tryz.prog w = .ok (.func fn first cap) w := fun _ _ _ _ => rfl
  have HS := Lib.hid hS
  have CM := Lib.hid mustYes
  have HU := Lib.hid huniq
  have HI0 := Lib.hid h0
  have HIS := Lib.hid hst
  have HIT := Lib.hid hstep
  have HIE := Lib.hid hend
  have HRR := Lib.hid hR
  have HF := Lib.hid hform
  obtain ⟨WX, hWX⟩ : ∃ WX, WX = (((w.alloc (.cells #[.int .i64 0, .int .i64 0, .int .i64 0, .int .i64 0, .int .i64 0, .slice none 0 0, .slice none 0 0, .slice none 0 0, .slice none 0 0, .bool false] 180)).alloc (.cells #[.int .i64 0] 29)).alloc (.cells #[.string (str s), .int .i64 0, .int .i64 0, .int .i64 0, .int .i64 0, .int .i64 0, .slice none 0 0, .slice none 0 0, .slice none 0 0, .slice none 0 0, .bool false] 349)) := ⟨_, rfl⟩
  have lW : Ln WX (w.heap.size + 2) s (cs0 0) (((w.alloc (.cells #[.int .i64 0, .int .i64 0, .int .i64 0, .int .i64 0, .int .i64 0, .slice none 0 0, .slice none 0 0, .slice none 0 0, .slice none 0 0, .bool false] 180)).alloc (.cells #[.int .i64 0] 29)).alloc (.cells #[.string (str s), .int .i64 0, .int .i64 0, .int .i64 0, .int .i64 0, .int .i64 0, .slice none 0 0, .slice none 0 0, .slice none 0 0, .slice none 0 0, .bool false] 349)) := ⟨(alloc3 w _ _ _).2.2.1, by rw [← hWX]; exact Below.refl _ _⟩
  have sW : Stat WX := hS.keep (by rw [hWX]; exact le7 (alloc3 w _ _ _).2.2.2 hS.big)
  have bW : 7 ≤ w.heap.size + 2 := by have := hS.big; omega
  have CW := Lib.hid (lineWord lW (by rw [← hWX]; exact sW.gm) (by omega) f hcut hwl)
  have SW := Lib.hid sW
  have rC : WX.heap[w.heap.size]? = some (.cells #[.int .i64 0, .int .i64 0, .int .i64 0, .int .i64 0, .int .i64 0, .slice none 0 0, .slice none 0 0, .slice none 0 0, .slice none 0 0, .bool false] 180) := by rw [hWX]; exact (alloc3 w _ _ _).1
  have rE : WX.heap[w.heap.size + 1]? = some (.cells #[.int .i64 0] 29) := by rw [hWX]; exact (alloc3 w _ _ _).2.1
  have bX : Below w.heap.size w WX := by rw [hWX]; exact (alloc3 w _ _ _).2.2.2
  have RC := Lib.hid rC
  have RE := Lib.hid rE
  have BX := Lib.hid bX
  have CF : Hid (∀ (k : Nat) (W : World), 1 ≤ k → k ≤ 20 → GM W → Calls Tryz.prog 226 #[.int .i64 (k : Int)] W fun e w' => e = .returned (.tuple #[.string (str (formM k).1), .string (str (formM k).2)]) ∧ ∃ n, w' = W.drewN n) := Lib.hid (fun k W h1 h2 hg => formAt k h1 h2 W hg)
  clear lW sW hS huniq h0 hst hstep hend hR hform hWX rC rE bX
  go_enter_defers Tryz.func150, Tryz.ntmps150
  go_wp2_with (go_at_call 225; ((with_reducible refine (CW.out).mono ?_)); rintro e w1 ⟨rfl, l1, k1⟩; have L1 := Lib.hid l1; have K1 := Lib.hid k1; clear l1 k1)
  go_loopw [6, 7, 8] (fun v6 _ _ wr => ∃ k : Nat, v6 = .int .i64 (k : Int) ∧ 1 ≤ k ∧ k ≤ 21 ∧ Ln WX (w.heap.size + 2) (s.drop word.length) (if K < k then cs0 K else cs0 0) wr)
    (fun v6 _ _ wr => match v6 with | .int _ k => (21 - k).toNat | _ => 0)
  case atStart => exact ⟨1, rfl, by omega, by omega, by rw [if_neg (by omega)]; exact L1.out⟩
  case round =>
    obtain ⟨k, rfl, hk1, hk2, hl⟩ := hrel
    by_cases hk : k ≤ 20
    · have hki : (k : Int) ≤ 20 := by omega
      have CK := Lib.hid (CF.out k wr hk1 hk (hl.stat SW.out bW).gm)
      have hcmp := HU.out k hk1 hk
      have HL := Lib.hid hl
      have HK1 := Lib.hid hk1
      obtain ⟨nm, hnm⟩ : ∃ nm, nm = (formM k).1 := ⟨_, rfl⟩
      rw [← hnm] at hcmp CK
      clear hl hnm hk1
      by_cases hkK : k = K
      · rw [decide_eq_true hkK] at hcmp
        have hl1 := HL.out
        rw [if_neg (by omega)] at hl1
        have cK : wr.cell? ⟨w.heap.size + 2, 1, none⟩ = some (.int .i64 0) := cell_of_row wr _ 1 _ _ (0, 0) hl1.row
        have fK : wr.frozen? ⟨w.heap.size + 2, 1, none⟩ = false := hl1.f 1
        clear hl1
        have HKK := Lib.hid hkK
        clear hkK
        go_wp2_with (go_at_call 226; ((with_reducible refine (CK.out).mono ?_)); rintro e w2 ⟨rfl, n, rfl⟩)
        refine ⟨⟨k + 1, by go_num, by omega, by omega, ?_⟩, ?_⟩
        · rw [if_pos (by have := HKK.out; omega)]
          have h := HL.out
          rw [if_neg (by have := HKK.out; omega)] at h
          have h2 := (h.drewN n).cell 0 (.int .i64 (k : Int))
          rw [HKK.out] at h2 ⊢
          exact h2
        · show (21 - ((k : Int) + 1)).toNat < (21 - (k : Int)).toNat
          omega
      · rw [decide_eq_false hkK] at hcmp
        have HKK := Lib.hid hkK
        clear hkK
        go_wp2_with (go_at_call 226; ((with_reducible refine (CK.out).mono ?_)); rintro e w2 ⟨rfl, n, rfl⟩)
        refine ⟨⟨k + 1, by go_num, by omega, by omega, ?_⟩, ?_⟩
        · have h := HL.out.drewN n
          by_cases hlt : K < k
          · rw [if_pos hlt] at h
            rw [if_pos (by omega)]
            exact h
          · rw [if_neg hlt] at h
            rw [if_neg (by have := HKK.out; omega)]
            exact h
        · show (21 - ((k : Int) + 1)).toNat < (21 - (k : Int)).toNat
          omega
    · have hki : ¬ (k : Int) ≤ 20 := by omega
      rw [if_pos (by omega)] at hl
      have cK : wr.cell? ⟨w.heap.size + 2, 1, none⟩ = some (.int .i64 (K : Int)) := cell_of_row wr _ 1 _ _ (0, 0) hl.row
      have CMK : Hid (∀ W, Calls Tryz.prog 227 #[.bool (decide (0 < K))] W fun e w' => e = .returned (.tuple #[]) ∧ w' = W) := by rw [decide_eq_true (by omega : 0 < K)]; exact CM
      have CK := Lib.hid (CF.out K wr hK1 hK2 (hl.stat SW.out bW).gm)
      rw [HF.out] at CK
      have HL := Lib.hid (HI0.out _ _ _ hl)
      have HLB := Lib.hid hl.below
      have HLT := Lib.hid (row_ltB hl.row)
      clear hl
      go_wp2_with first
        | (go_at_call 226; ((with_reducible refine (CK.out).mono ?_)); rintro e wL ⟨rfl, hn⟩; have HN := Lib.hid hn; clear hn)
        | (go_at_call 227; ((with_reducible refine (CMK.out _).mono ?_)); rintro e w2 ⟨rfl, rfl⟩)
      obtain ⟨n, hwL⟩ := HN.out
      have hIL : I WX (w.heap.size + 2) 0 wL := HIS.out _ _ _ _ _ HL.out (by rw [hwL]; rfl) (by rw [hwL]; exact belowDr (Below.refl _ _) n) (by rw [hwL]; exact (Kp.below (b := 0) (belowDr (Below.refl _ _) n)).bytes)
      have hBL : Below (w.heap.size + 2) WX wL := by rw [hwL]; exact belowDr HLB.out n
      have hbl : w.heap.size + 2 < wL.heap.size := by rw [hwL]; exact HLT.out
      have HIL := Lib.hid hIL
      have HBL := Lib.hid hBL
      have HBLT := Lib.hid hbl
      clear hIL hBL hwL CK HLB HL cK hbl
      go_loopw [12] (fun _ wr => ∃ pos : Nat, pos ≤ args.length ∧ wr.heap[wL.heap.size]? = some (.stringIter (str args) pos) ∧ I WX (w.heap.size + 2) pos wr ∧ Below (w.heap.size + 2) WX wr)
        (fun _ wr => args.length - wr.iterPos wL.heap.size)
      case atStart =>
        have hbi : Below wL.heap.size wL (wL.iter (str args) 0) := (Below.refl _ wL).alloc (Nat.le_refl _) _
        exact ⟨0, Nat.zero_le _, World.iter_heap _ _ _, HIS.out _ _ _ _ _ HIL.out (hbi.block _ HBLT.out) (belowLe hbi (Nat.le_of_lt HBLT.out)) (Kp.below (b := 0) hbi).bytes, HBL.out.trans (belowLe hbi (Nat.le_of_lt HBLT.out))⟩
      case round =>
        obtain ⟨pos, hpos, hit, hI, hB⟩ := hrel
        obtain ⟨wS, rfl⟩ : ∃ x, x = wr := ⟨_, rfl⟩
        by_cases h1 : pos < args.length
        · have hnx := fun ty => Lib.run_next_any_at (P := Tryz.prog) wS wL.heap.size (str args) pos ty hit (by rw [str_size]; exact h1)
          have hca : args[pos]? = some (args[pos]'h1) := List.getElem?_eq_getElem h1
          obtain ⟨c, hc⟩ : ∃ c, c = args[pos]'h1 := ⟨_, rfl⟩
          rw [← hc] at hca
          have hbA : bA args pos = c.toNat := by unfold bA; simp [hca]
          rw [dec_asc args pos c.toNat hbA (hargs _ _ hbA)] at hnx
          dsimp only at hnx
          obtain ⟨wI, hwI⟩ : ∃ x, x = wS.iterAt wL.heap.size (str args) (pos + 1) := ⟨_, rfl⟩
          have hz : wL.heap.size < wS.heap.size := row_ltB hit
          have hIi : I WX (w.heap.size + 2) pos wI := HIS.out _ _ _ _ _ hI (by rw [hwI]; exact Lib.iterAt_other _ _ _ _ _ (Nat.ne_of_lt HBLT.out)) (by rw [hwI]; exact Lib.below_iterAt (Below.refl _ _) (Nat.le_of_lt HBLT.out) _ _) (fun q d x h => by rw [hwI]; exact h.iterAt hit _)
          have hiI : wI.heap[wL.heap.size]? = some (.stringIter (str args) (pos + 1)) := by rw [hwI]; exact Lib.iterAt_heap _ _ _ _ _ hit
          have hBI : Below (w.heap.size + 2) WX wI := by rw [hwI]; exact Lib.below_iterAt hB (Nat.le_of_lt HBLT.out) _ _
          have CT := Lib.hid (HIT.out WX _ pos c wI hca bW SW.out hIi)
          have hps : wS.iterPos wL.heap.size = pos := by unfold World.iterPos; rw [hit]
          rw [← hwI] at hnx
          have HII := Lib.hid hiI
          have HBI := Lib.hid hBI
          have HPS := Lib.hid hps
          have HP1 := Lib.hid h1
          clear hI hB hit hIi hiI hBI hwI hca hc hbA hps h1 hz
          go_wp2_with (go_at_call 228; ((with_reducible refine (CT.out).mono ?_)); rintro e w4 ⟨rfl, h4, k4⟩; have H4 := Lib.hid h4; have K4 := Lib.hid k4; clear h4 k4)
          have hz4 : wL.heap.size < wI.heap.size := row_ltB HII.out
          refine ⟨⟨pos + 1, by have := HP1.out; omega, (K4.out.grown.block _ hz4 (by have := HBLT.out; simp; omega)).trans HII.out, H4.out, HBI.out.trans (K4.out.lower (by have := HBLT.out; omega))⟩, ?_⟩
          have h5 : w4.heap[wL.heap.size]? = some (.stringIter (str args) (pos + 1)) := (K4.out.grown.block _ hz4 (by have := HBLT.out; simp; omega)).trans HII.out
          have h6 : w4.iterPos wL.heap.size = pos + 1 := by unfold World.iterPos; rw [h5]
          have := HP1.out
          rw [h6, HPS.out]
          omega
        · have kn := fun ty => Lib.run_next_end_at (P := Tryz.prog) wS wL.heap.size (str args) pos ty hit (by rw [str_size]; omega)
          obtain rfl : pos = args.length := by omega
          obtain ⟨a0, a1, a2, a3, a4, a5, a6, a7, a8, a9, hl, hone, hR⟩ := HIE.out _ _ _ hI
          have HL := Lib.hid hl
          have HR := Lib.hid hR
          have HB := Lib.hid hB
          have r0 := hl.row
          have c0 : wS.cell? ⟨w.heap.size + 2, 0, none⟩ = some (.string (str [])) := cell_of_row wS _ 0 _ _ (0, 0) r0
          have c1 : wS.cell? ⟨w.heap.size + 2, 1, none⟩ = some a0 := cell_of_row wS _ 1 _ _ (0, 0) r0
          have c2 : wS.cell? ⟨w.heap.size + 2, 2, none⟩ = some a1 := cell_of_row wS _ 2 _ _ (0, 0) r0
          have c3 : wS.cell? ⟨w.heap.size + 2, 3, none⟩ = some a2 := cell_of_row wS _ 3 _ _ (0, 0) r0
          have c4 : wS.cell? ⟨w.heap.size + 2, 4, none⟩ = some a3 := cell_of_row wS _ 4 _ _ (0, 0) r0
          have c5 : wS.cell? ⟨w.heap.size + 2, 5, none⟩ = some a4 := cell_of_row wS _ 5 _ _ (0, 0) r0
          have c6 : wS.cell? ⟨w.heap.size + 2, 6, none⟩ = some a5 := cell_of_row wS _ 6 _ _ (0, 0) r0
          have c7 : wS.cell? ⟨w.heap.size + 2, 7, none⟩ = some a6 := cell_of_row wS _ 7 _ _ (0, 0) r0
          have c8 : wS.cell? ⟨w.heap.size + 2, 8, none⟩ = some a7 := cell_of_row wS _ 8 _ _ (0, 0) r0
          have c9 : wS.cell? ⟨w.heap.size + 2, 9, none⟩ = some a8 := cell_of_row wS _ 9 _ _ (0, 0) r0
          have c10 : wS.cell? ⟨w.heap.size + 2, 10, none⟩ = some a9 := cell_of_row wS _ 10 _ _ (0, 0) r0
          have rC := (hB.block w.heap.size (by omega)).trans RC.out
          have rE := (hB.block (w.heap.size + 1) (by omega)).trans RE.out
          have hem : (str []).toList.isEmpty = true := by rw [ByteArray.toList_eq]; rfl
          have rE' : (wS.setRow w.heap.size #[a0, a1, a2, a3, a4, a5, a6, a7, a8, a9]).heap[w.heap.size + 1]? = some (.cells #[.int .i64 0] 29) := (setRow_other (by omega)).trans rE
          have e0 : (wS.setRow w.heap.size #[a0, a1, a2, a3, a4, a5, a6, a7, a8, a9]).cell? ⟨w.heap.size + 1, 0, none⟩ = some (.int .i64 0) := cell_of_row _ _ 0 _ _ (0, 0) rE'
          have g0 : (wS.setRow w.heap.size #[a0, a1, a2, a3, a4, a5, a6, a7, a8, a9]).frozen? ⟨w.heap.size + 1, 0, none⟩ = false := frozen_of_row _ _ 0 _ _ rE'
          have RC2 := Lib.hid rC
          have RE2 := Lib.hid rE'
          clear hl hR r0 hB rC rE rE'
          go_wp2_with first
            | (go_at_call 227; ((with_reducible refine (CM.out _).mono ?_)); rintro e w2 ⟨rfl, rfl⟩)
            | (refine wpList_store_row rfl 180 _ _ rfl w.heap.size rfl #[a0, a1, a2, a3, a4, a5, a6, a7, a8, a9] rfl 180 _ RC2.out (by rw [info_180]; rfl) (by rfl) hone ?_)
            | fail
          refine leaves_cons (f := 224) (args := #[.pointer (some ⟨w.heap.size, 0, none⟩), .pointer (some ⟨w.heap.size + 1, 0, none⟩)]) (by simp) (by simp [go_sem]) ?_
          refine (read_idle ⟨w.heap.size, 0, none⟩ ⟨w.heap.size + 1, 0, none⟩ _).mono ?_
          rintro e u' w'' ⟨rfl, rfl, rfl⟩
          simp [Leaves, settle, go_sem]
          obtain ⟨W2, hW2⟩ : ∃ x, x = (w2.setRow w.heap.size #[a0, a1, a2, a3, a4, a5, a6, a7, a8, a9]).setCell ⟨w.heap.size + 1, 0, none⟩ (.int .i64 0) := ⟨_, rfl⟩
          rw [← hW2]
          have o2 : ∀ k, k ≠ w.heap.size + 1 → W2.heap[k]? = (w2.setRow w.heap.size #[a0, a1, a2, a3, a4, a5, a6, a7, a8, a9]).heap[k]? := fun k hk => by rw [hW2]; exact Below.heap_setCell _ _ _ _ (fun e => hk e)
          have z2 : W2.heap.size = w2.heap.size := by rw [hW2]; simp [World.setCell, World.setRow]
          have hrow : W2.heap[w.heap.size]? = some (.cells (List.toArray [a0, a1, a2, a3, a4, a5, a6, a7, a8, a9]) 180) := (o2 _ (by omega)).trans (setRow_heap _ _ _ _ _ _ RC2.out)
          have hce : W2.cell? ⟨w.heap.size + 1, 0, none⟩ = some (.int .i64 0) := by rw [hW2]; exact World.cell?_setCell_same' _ _ _ (by rw [e0]; rfl)
          have hbel : Below w.heap.size w W2 := by
            rw [hW2]
            exact (below_setRow (BX.out.trans (belowLe HB.out (by omega))) (Nat.le_refl _) _).setCell (by show w.heap.size ≤ w.heap.size + 1; omega) _
          refine ⟨_, results_150 _ _ w.heap.size (w.heap.size + 1) [a0, a1, a2, a3, a4, a5, a6, a7, a8, a9] _ rfl rfl hrow rfl hce, _, rfl, ?_, hbel⟩
          refine HRR.out _ _ _ (fun q d x hx => ?_) HR.out
          have hx1 : OB (w2.setRow w.heap.size #[a0, a1, a2, a3, a4, a5, a6, a7, a8, a9]) q d x := hx.other RC2.out (by decide) fun k _ hk => setRow_other hk
          rw [hW2]
          exact hx1.other RE2.out (by decide) fun k _ hk => Below.heap_setCell _ _ _ _ (fun e => hk e)
def lineNew : List UInt8 := [110, 101, 119]
def linePut : List UInt8 := [112, 117, 116, 32, 49, 32, 34, 107, 34, 32, 34, 118, 34]
def lineEnc : List UInt8 := [101, 110, 99, 111, 100, 101, 32, 50]
theorem uniq (word : List UInt8) (K : Nat) (h : ∀ k : Fin 21, 1 ≤ k.1 → ((formM k.1).1 == word) = decide (k.1 = K)) : ∀ k, 1 ≤ k → k ≤ 20 → ((str (formM k).1).toList == (str word).toList) = decide (k = K) := by
  intro k h1 h2
  rw [ByteArray.toList_eq, ByteArray.toList_eq, str_data, str_data]
  exact h ⟨k, by omega⟩ h1
theorem ascii_args (args : List UInt8) (h : args.all (fun c => decide (c.toNat < 128)) = true) : ∀ i n, bA args i = n → n < 128 := by
  intro i n hn
  subst hn
  unfold bA
  by_cases hi : i < args.length
  · rw [List.getD_eq_getElem?_getD, List.getElem?_eq_getElem hi, Option.getD_some]
    exact of_decide_eq_true (List.all_eq_true.1 h _ (List.getElem_mem hi))
  · rw [List.getD_eq_getElem?_getD, List.getElem?_eq_none (by omega)]; decide
theorem Ln.move {W w w' : World} {b : Nat} {s : List UInt8} {cs : List Value} (h : Ln W b s cs w) (hr : w'.heap[b]? = w.heap[b]?) (hb : Below b w w') : Ln W b s cs w' := ⟨hr.trans h.row, h.below.trans hb⟩
set_option maxRecDepth 100000 in
theorem readNew (w : World) (hS : Stat w) : Calls Tryz.prog 150 #[.string (str lineNew)] w fun e w' => e = .returned (.tuple #[.agg (cs0 2).toArray, .int .i64 0]) ∧ Below w.heap.size w w' := by
  refine (readLine w hS lineNew [110, 101, 119] [] [] false 2 (by omega) (by omega) rfl (by decide) (by decide) (by decide) (uniq _ _ (by decide)) (ascii_args _ (by decide))
    (fun W b pos w' => Ln W b [] (cs0 2) w') (fun l w' => l = cs0 2) (fun W b w' h => h) (fun W b pos w' w'' h hr hb _ => h.move hr hb) (fun W b pos c w' hc => by simp at hc)
    (fun W b w' h => ⟨_, _, _, _, _, _, _, _, _, _, h, (by first | decide | simp [Value.oneCell']), rfl⟩) (fun l w' w'' _ h => h)).mono ?_
  rintro e w' ⟨l, rfl, rfl, hb⟩
  exact ⟨rfl, hb⟩
def csEnc : List Value := [.int .i64 17, .int .i64 2, .int .i64 0, .int .i64 0, .int .i64 0, .slice none 0 0, .slice none 0 0, .slice none 0 0, .slice none 0 0, .bool false]
set_option maxRecDepth 100000 in
theorem readEnc (w : World) (hS : Stat w) : Calls Tryz.prog 150 #[.string (str lineEnc)] w fun e w' => e = .returned (.tuple #[.agg csEnc.toArray, .int .i64 0]) ∧ Below w.heap.size w w' := by
  refine (readLine w hS lineEnc [101, 110, 99, 111, 100, 101] [104] [50] true 17 (by omega) (by omega) rfl (by decide) (by decide) (by decide) (uniq _ _ (by decide)) (ascii_args _ (by decide))
    (fun W b pos w' => if pos = 0 then Ln W b [32, 50] (cs0 17) w' else Ln W b [] csEnc w') (fun l w' => l = csEnc) (fun W b w' h => h) ?_ ?_
    (fun W b w' h => ⟨_, _, _, _, _, _, _, _, _, _, h, (by first | decide | simp [Value.oneCell']), rfl⟩) (fun l w' w'' _ h => h)).mono ?_
  · intro W b pos w' w'' h hr hb _
    by_cases h0 : pos = 0
    · rw [if_pos h0] at h ⊢; exact h.move hr hb
    · rw [if_neg h0] at h ⊢; exact h.move hr hb
  · intro W b pos c w' hc hb hSW h
    obtain rfl : pos = 0 := by
      have := (List.getElem?_eq_some_iff.1 hc).1
      simp at this; exact this
    obtain rfl : c = 104 := (Option.some.inj hc).symm
    rw [if_pos rfl] at h
    refine (takeH h (h.stat hSW hb).gm (by omega) (by decide) (d := 50) (by decide) (by decide) (r := []) false (by decide) (by decide) rfl).mono ?_
    rintro e w'' ⟨rfl, h2, h3⟩
    exact ⟨rfl, by rw [if_neg (by omega)]; exact h2, h3⟩
  · rintro e w' ⟨l, rfl, rfl, hb⟩
    exact ⟨rfl, hb⟩
def csPut (q : Option Addr) (d : Nat) (q2 : Option Addr) (d2 : Nat) : List Value := [.int .i64 4, .int .i64 1, .int .i64 0, .int .i64 0, .int .i64 0, .slice q 1 d, .slice q2 1 d2, .slice none 0 0, .slice none 0 0, .bool false]
def PutSt (W : World) (b pos : Nat) (w' : World) : Prop :=
  match pos with
  | 0 => Ln W b [32, 49, 32, 34, 107, 34, 32, 34, 118, 34] (cs0 4) w'
  | 1 => Ln W b [32, 34, 107, 34, 32, 34, 118, 34] ((cs0 4).set 1 (.int .i64 1)) w'
  | 2 => ∃ q d, Ln W b [32, 34, 118, 34] (((cs0 4).set 1 (.int .i64 1)).set 5 (.slice q 1 d)) w' ∧ OB w' q d [107]
  | _ => ∃ q d q2 d2, Ln W b [] (csPut q d q2 d2) w' ∧ OB w' q d [107] ∧ OB w' q2 d2 [118]
theorem parsK : pars [34, 107, 34] = some [107] := by decide
theorem parsV : pars [34, 118, 34] = some [118] := by decide
set_option maxRecDepth 100000 in
theorem readPut (w : World) (hS : Stat w) : Calls Tryz.prog 150 #[.string (str linePut)] w fun e w' => ∃ q d q2 d2, e = .returned (.tuple #[.agg (csPut q d q2 d2).toArray, .int .i64 0]) ∧ OB w' q d [107] ∧ OB w' q2 d2 [118] ∧ Below w.heap.size w w' := by
  refine (readLine w hS linePut [112, 117, 116] [104, 107, 118] [49, 32, 34, 107, 34, 32, 34, 118, 34] true 4 (by omega) (by omega) rfl (by decide) (by decide) (by decide) (uniq _ _ (by decide)) (ascii_args _ (by decide))
    PutSt (fun l w' => ∃ q d q2 d2, l = csPut q d q2 d2 ∧ OB w' q d [107] ∧ OB w' q2 d2 [118]) (fun W b w' h => h) ?_ ?_ ?_ ?_).mono ?_
  · intro W b pos w' w'' h hr hb hk
    match pos, h with
    | 0, h => exact h.move hr hb
    | 1, h => exact h.move hr hb
    | 2, ⟨q, d, h, h2⟩ => exact ⟨q, d, h.move hr hb, hk _ _ _ h2⟩
    | n + 3, ⟨q, d, q2, d2, h, h2, h3⟩ => exact ⟨q, d, q2, d2, h.move hr hb, hk _ _ _ h2, hk _ _ _ h3⟩
  · intro W b pos c w' hc hb hSW h
    have hp : pos < 3 := (List.getElem?_eq_some_iff.1 hc).1
    match pos, hp, hc, h with
    | 0, _, hc, h =>
      obtain rfl : c = 104 := (Option.some.inj hc).symm
      replace h : Ln W b [32, 49, 32, 34, 107, 34, 32, 34, 118, 34] (cs0 4) w' := h
      refine (takeH h (h.stat hSW hb).gm (by omega) (by decide) (d := 49) (by decide) (by decide) (r := [34, 107, 34, 32, 34, 118, 34]) true (by decide) (by decide) rfl).mono ?_
      rintro e w'' ⟨rfl, h2, h3⟩
      exact ⟨rfl, h2, h3⟩
    | 1, _, hc, h =>
      obtain rfl : c = 107 := (Option.some.inj hc).symm
      replace h : Ln W b [32, 34, 107, 34, 32, 34, 118, 34] ((cs0 4).set 1 (.int .i64 1)) w' := h
      refine (takeK h (by decide) (by decide) (by decide) (h.stat hSW hb).tabs (by omega) parsK rfl).mono ?_
      rintro e w'' ⟨rfl, q, d, h2, h3, h4⟩
      exact ⟨rfl, ⟨q, d, h2, h3⟩, h4⟩
    | 2, _, hc, ⟨q, d, h, hq⟩ =>
      obtain rfl : c = 118 := (Option.some.inj hc).symm
      refine (takeV h (by decide) (by decide) (by decide) (h.stat hSW hb).tabs (by omega) parsV rfl).mono ?_
      rintro e w'' ⟨rfl, q2, d2, h2, h3, h4⟩
      exact ⟨rfl, ⟨q, d, q2, d2, h2, h4.bytes _ _ _ hq, h3⟩, h4⟩
  · rintro W b w' ⟨q, d, q2, d2, h, h2, h3⟩
    exact ⟨_, _, _, _, _, _, _, _, _, _, h, (by first | decide | simp [Value.oneCell']), q, d, q2, d2, rfl, h2, h3⟩
  · rintro l w' w'' hk ⟨q, d, q2, d2, h, h2, h3⟩
    exact ⟨q, d, q2, d2, h, hk _ _ _ h2, hk _ _ _ h3⟩
  · rintro e w' ⟨l, rfl, ⟨q, d, q2, d2, rfl, h2, h3⟩, hb⟩
    exact ⟨q, d, q2, d2, rfl, h2, h3, hb⟩
def restM : Nat → List UInt8
  | 0 => lineNew ++ 10 :: (linePut ++ 10 :: (lineEnc ++ [10]))
  | 1 => linePut ++ 10 :: (lineEnc ++ [10])
  | 2 => lineEnc ++ [10]
  | _ => []
def lineM : Nat → List UInt8
  | 0 => lineNew
  | 1 => linePut
  | _ => lineEnc
def CallM : Nat → List Value → World → Prop
  | 0, l, _ => l = cs0 2
  | 1, l, w => ∃ q d q2 d2, l = csPut q d q2 d2 ∧ OB w q d [107] ∧ OB w q2 d2 [118]
  | _, l, _ => l = csEnc
theorem CallM.keep {w w' : World} (h : ∀ q d x, OB w q d x → OB w' q d x) : ∀ {j : Nat} {l : List Value}, CallM j l w → CallM j l w'
  | 0, _, hc => hc
  | 1, _, ⟨q, d, q2, d2, hl, h1, h2⟩ => ⟨q, d, q2, d2, hl, h _ _ _ h1, h _ _ _ h2⟩
  | _ + 2, _, hc => hc
theorem CallM.one {w : World} : ∀ {j : Nat} {l : List Value}, CallM j l w → ∃ a0 a1 a2 a3 a4 a5 a6 a7 a8 a9, l = [a0, a1, a2, a3, a4, a5, a6, a7, a8, a9] ∧ (l.all (·.oneCell')) = true
  | 0, _, h => by subst h; exact ⟨_, _, _, _, _, _, _, _, _, _, rfl, by simp [cs0, Value.oneCell']⟩
  | 1, _, ⟨q, d, q2, d2, hl, h1, h2⟩ => by subst hl; exact ⟨_, _, _, _, _, _, _, _, _, _, rfl, by simp [csPut, Value.oneCell']⟩
  | _ + 2, _, h => by
    have h : _ = csEnc := h
    subst h; exact ⟨_, _, _, _, _, _, _, _, _, _, rfl, by simp [csEnc, Value.oneCell']⟩
theorem readM_ (j : Nat) (hj : j < 3) (w : World) (hS : Stat w) : Calls Tryz.prog 150 #[.string (str (lineM j))] w fun e w' => ∃ l, e = .returned (.tuple #[.agg l.toArray, .int .i64 0]) ∧ CallM j l w' ∧ Below w.heap.size w w' := by
  match j, hj with
  | 0, _ => exact (readNew w hS).mono fun e w' ⟨h1, h2⟩ => ⟨_, h1, rfl, h2⟩
  | 1, _ => exact (readPut w hS).mono fun e w' ⟨q, d, q2, d2, h1, h2, h3, h4⟩ => ⟨_, h1, ⟨q, d, q2, d2, rfl, h2, h3⟩, h4⟩
  | 2, _ => exact (readEnc w hS).mono fun e w' ⟨h1, h2⟩ => ⟨_, h1, rfl, h2⟩
theorem cutL (j : Nat) (hj : j < 3) : Lib.cut (restM j) [10] = (lineM j, restM (j + 1), true) := by
  match j, hj with
  | 0, _ => decide
  | 1, _ => decide
  | 2, _ => decide
theorem restM_ne (j : Nat) (hj : j < 3) : (str (restM j)).toList.isEmpty = false := by
  rw [ByteArray.toList_eq, str_data]
  match j, hj with
  | 0, _ => rfl
  | 1, _ => rfl
  | 2, _ => rfl
theorem restM_len (j : Nat) (hj : j < 3) : (restM j).length ≤ 1000 := by
  match j, hj with
  | 0, _ => decide
  | 1, _ => decide
  | 2, _ => decide
def CallsM : Nat → List Value → World → Prop
  | 0, vs, _ => vs = []
  | j + 1, vs, w => ∃ ws l, vs = ws ++ l ∧ CallsM j ws w ∧ CallM j l w
theorem CallsM.keep {w w' : World} (h : ∀ q d x, OB w q d x → OB w' q d x) : ∀ {j : Nat} {l : List Value}, CallsM j l w → CallsM j l w'
  | 0, _, hc => hc
  | _ + 1, _, ⟨ws, l, h1, h2, h3⟩ => ⟨ws, l, h1, h2.keep h, h3.keep h⟩
theorem info180 : (Tryz.prog.info? 180).map (fun i => (i.zero, i.size, i.bytes)) = some (some (.agg #[.int .i64 0, .int .i64 0, .int .i64 0, .int .i64 0, .int .i64 0, .slice none 0 0, .slice none 0 0, .slice none 0 0, .slice none 0 0, .bool false]), 10, 144) := by kernel_rfl
theorem below3 (w : World) (a b : Obj) : Below w.heap.size w ((w.alloc a).alloc b).drew := (((Below.refl _ w).alloc (Nat.le_refl _) a).alloc (by simp) b).drew
theorem below2 (w : World) (a b : Obj) : Below w.heap.size w ((w.alloc a).alloc b) := ((Below.refl _ w).alloc (Nat.le_refl _) a).alloc (by simp) b
theorem row3 (w : World) (a b : Obj) : ((w.alloc a).alloc b).drew.heap[w.heap.size + 1]? = some b := by
  have h := heap_alloc_new (w.alloc a) b
  rw [show (w.alloc a).heap.size = w.heap.size + 1 from by simp] at h
  exact h
theorem own_slice180 {w : World} {base n : Nat} {v : Value} {vs : List Value} (ho : w.ownsRow base 180 10 v n vs) : ∃ q d, v = .slice q n d := by
  rcases ho.2 with ⟨hv, hn⟩ | ⟨g, cap, cur, hv, _⟩
  · subst hn; exact ⟨none, 0, hv⟩
  · exact ⟨_, _, hv⟩
theorem own_row180 {w : World} {base n : Nat} {v : Value} {vs : List Value} (ho : w.ownsRow base 180 10 v n vs) {r : Nat} (hr : v.ownBlock = some r) : base ≤ r ∧ ∃ cur, w.heap[r]? = some (.cells cur 180) := by
  rcases ho.2 with ⟨hv, hn⟩ | ⟨g, cap, cur, hv, hg, hh, _⟩
  · rw [hv] at hr; cases hr
  · rw [hv] at hr
    obtain rfl : g = r := by simpa [Value.ownBlock] using hr
    exact ⟨hg, cur, hh⟩
theorem OB.app180 {w w' : World} {base n : Nat} {v : Value} {vs : List Value} (ho : w.ownsRow base 180 10 v n vs) (hg : w.grownBy w' v.ownBlock) {q : Option Addr} {d : Nat} {l : List UInt8} (h : OB w q d l) : OB w' q d l := by
  cases hr : v.ownBlock with
  | none => exact h.below ⟨hg.os, hg.tape, hg.output, hg.size, fun k hk => hg.block k hk (by rw [hr]; simp)⟩
  | some r =>
    obtain ⟨_, cur, hrow⟩ := own_row180 ho hr
    exact h.other hrow (by decide) fun k hk hne => hg.block k hk (by rw [hr]; simp [hne])
structure PS (B j : Nat) (w : World) (q : Option Addr) (c : Nat) (vs : List Value) (W : World) : Prop where
  own : W.ownsRow w.heap.size 180 10 (.slice q j c) j vs
  calls : CallsM j vs W
  below : Below w.heap.size w W
theorem PS.next {B j : Nat} {w W W' : World} {q : Option Addr} {c : Nat} {vs : List Value} (h : PS B j w q c vs W) (hb : Below W.heap.size W W') : PS B j w q c vs W' :=
  ⟨owns_belowq h.own hb, h.calls.keep fun q d x hx => hx.below hb, h.below.trans (hb.mono h.below.size)⟩
set_option maxHeartbeats 4000000 in
set_option maxRecDepth 100000 in
theorem scriptParse (w : World) (hS : Stat w) : Calls Tryz.prog 76 #[.string (str (restM 0))] w fun e w' => ∃ q c vs, e = .returned (.tuple #[.slice q 3 c, .int .i64 0, .int .i64 0]) ∧ w'.ownsRow w.heap.size 180 10 (.slice q 3 c) 3 vs ∧ CallsM 3 vs w' ∧ Below w.heap.size w w' := by
  have HS := Lib.hid hS
  clear hS
  go_enter Tryz.func76, Tryz.ntmps76
  go_wp2
  go_loopw [0, 5] (fun v0 v5 wr => ∃ (j : Nat) (q : Option Addr) (c : Nat) (vs : List Value), j ≤ 3 ∧ v0 = .string (str (restM j)) ∧ v5 = .slice q j c ∧ wr.ownsRow w.heap.size 180 10 (.slice q j c) j vs ∧ CallsM j vs wr ∧ Below w.heap.size w wr)
    (fun v0 _ _ => match v0 with | .string s => s.size | _ => 0)
  case atStart => exact ⟨0, none, 0, [], by omega, rfl, rfl, World.ownsRow_nil _ _ _ _, rfl, Below.refl _ _⟩
  case round =>
    obtain ⟨j, q, c, vs, hj, rfl, rfl, how, hcs, hb⟩ := hrel
    by_cases h3 : j < 3
    · have hne := restM_ne j h3
      have hsw : Stat wr := HS.out.keep (le7 hb HS.out.big)
      have CC := Lib.hid (cutLit wr hsw.gm (restM j) #[10] (by have := restM_len j h3; omega))
      rw [show Lib.cut (restM j) (#[10] : Array UInt8).toList = (lineM j, restM (j + 1), true) from cutL j h3] at CC
      have CR := Lib.hid (fun W hW => readM_ j h3 W hW)
      have hjz : ((j : Int) == 4096) = false := by simp; omega
      have HP := Lib.hid (show PS 0 j w q c vs wr from ⟨how, hcs, hb⟩)
      have HST := Lib.hid (fun n => (show Stat (wr.drewN n) from hsw.keep ⟨rfl, rfl, rfl, Nat.le_refl _, fun _ _ => rfl⟩))
      obtain ⟨i0, hi, hz0, hz1, hz2⟩ := info_parts info180
      have HZ1 := Lib.hid hz1
      have HZ2 := Lib.hid hz2
      have H3 := Lib.hid h3
      clear how hcs hb hsw hz1 hz2 h3 hj
      go_wp2_with first
        | (go_at_call 149; ((with_reducible refine (CC.out).mono ?_)); rintro e w1 ⟨rfl, hn⟩; have hs1 : Stat w1 := (by obtain ⟨n, rfl⟩ := hn; exact HST.out n); have hp1 : PS 0 j w q c vs w1 := (by obtain ⟨n, rfl⟩ := hn; exact HP.out.next (belowDr (Below.refl _ _) n)); have HS1 := Lib.hid hs1; have HP1 := Lib.hid hp1; clear hn hs1 hp1)
        | (go_at_call 150; ((with_reducible refine (CR.out _ HS1.out).mono ?_)); rintro e w2 ⟨l, rfl, hl, hb2⟩; obtain ⟨a0, a1, a2, a3, a4, a5, a6, a7, a8, a9, rfl, hone⟩ := hl.one; have HL := Lib.hid hl; have HP2 := Lib.hid (HP1.out.next hb2); clear hl hb2)
        | (refine wpList_store_row rfl 180 _ _ rfl w2.heap.size rfl #[a0, a1, a2, a3, a4, a5, a6, a7, a8, a9] rfl 180 _ (heap_alloc_new w2 _) (by rw [info_180]; rfl) (by rfl) (by simpa using hone) ?_; rw [World.setRow_alloc_new])
        | (refine wpList_append_own _ rfl _ _ 173 rfl w.heap.size 180 i0 (.agg #[.int .i64 0, .int .i64 0, .int .i64 0, .int .i64 0, .int .i64 0, .slice none 0 0, .slice none 0 0, .slice none 0 0, .slice none 0 0, .bool false]) 10 144 Tryz.underlying173 hi hz0 HZ1.out HZ2.out rfl (by omega) _ j vs rfl (HP2.out.next (below3 w2 _ _)).own ⟨w2.heap.size + 1, 0, none⟩ 1 1 [a0, a1, a2, a3, a4, a5, a6, a7, a8, a9] rfl rfl (World.news_of_block (cs := #[a0, a1, a2, a3, a4, a5, a6, a7, a8, a9]) (t := 180) (fr := (0, 0)) (row3 w2 _ _)) (by simpa using hone) (by have := H3.out; unfold maxLen; omega) (by have := H3.out; omega) (by have := HP2.out.below.size; simp; omega) ?_
           intro v7 w7 ho7 hg7 _
           obtain ⟨q8, c8, rfl⟩ := own_slice180 ho7
           have HO7 := Lib.hid ho7
           have HG7 := Lib.hid hg7
           clear ho7 hg7)
        | fail
      have hp3 := HP2.out.next (below2 w2 (.cells #[a0, a1, a2, a3, a4, a5, a6, a7, a8, a9] 180) (.cells #[a0, a1, a2, a3, a4, a5, a6, a7, a8, a9] 180))
      have hob : ∀ q d x, OB w2 q d x → OB w7 q d x := fun q' d x hx => (hx.below (below2 w2 _ _)).app180 hp3.own HG7.out
      refine ⟨⟨j + 1, q8, c8, vs ++ [a0, a1, a2, a3, a4, a5, a6, a7, a8, a9], by have := H3.out; omega, rfl, rfl, HO7.out, ⟨_, _, rfl, HP2.out.calls.keep hob, HL.out.keep hob⟩, hp3.below.grown HG7.out hp3.below.size (fun r e => (own_row180 hp3.own e).1)⟩, ?_⟩
      show (str (restM (j + 1))).size < (str (restM j)).size
      rw [str_size, str_size]
      have h3 := H3.out
      match j, h3 with
      | 0, _ => decide
      | 1, _ => decide
      | 2, _ => decide
    · obtain rfl : j = 3 := by omega
      have hem : (str (restM 3)).toList.isEmpty = true := by rw [ByteArray.toList_eq]; rfl
      have HP := Lib.hid (show PS 0 3 w q c vs wr from ⟨how, hcs, hb⟩)
      clear how hcs hb h3
      go_wp2
      go_ret3
      exact ⟨q, c, vs, rfl, HP.out.own, HP.out.calls, HP.out.below⟩
theorem eqYes (w : World) {p q : Option Addr} {c d : Nat} {l : List UInt8} (h : IsB w p c l) (h2 : IsB w q d l) : Calls Tryz.prog 217 #[.slice p l.length c, .slice q l.length d] w fun e w' => e = .returned (.bool true) ∧ w' = w := by
  have := Tryz.bytes_Equal_strs _ _ (str l) (str l) w (conv_ofq h) (conv_ofq h2)
  rw [beq_self_eq_true] at this
  exact this
def callV (k h g n m : Int) (p5 : Option Addr) (c5 : Nat) (l5 : List UInt8) (p6 : Option Addr) (c6 : Nat) (l6 : List UInt8) : Value := .agg #[.int .i64 k, .int .i64 h, .int .i64 g, .int .i64 n, .int .i64 m, .slice p5 l5.length c5, .slice p6 l6.length c6, .slice none 0 0, .slice none 0 0, .bool false]
set_option maxHeartbeats 4000000 in
set_option maxRecDepth 100000 in
theorem scriptSame (w : World) (k h g n m : Int) {p5 q5 p6 q6 : Option Addr} {c5 d5 c6 d6 : Nat} {l5 l6 : List UInt8} (h5 : IsB w p5 c5 l5) (g5 : IsB w q5 d5 l5) (h6 : IsB w p6 c6 l6) (g6 : IsB w q6 d6 l6) :
    Calls Tryz.prog 230 #[callV k h g n m p5 c5 l5 p6 c6 l6, callV k h g n m q5 d5 l5 q6 d6 l6] w fun e w' => e = .returned (.bool true) ∧ Below w.heap.size w w' := by
  have C5 := Lib.hid (fun W (hW : Below w.heap.size w W) => eqYes W (h5.below hW) (g5.below hW))
  have C6 := Lib.hid (fun W (hW : Below w.heap.size w W) => eqYes W (h6.below hW) (g6.below hW))
  have C0 : Hid (∀ W, Calls Tryz.prog 217 #[.slice none 0 0, .slice none 0 0] W fun e w' => e = .returned (.bool true) ∧ w' = W) := Lib.hid (fun W => eqYes (l := []) W (IsB.none_ W) (IsB.none_ W))
  have e1 := fun x : Int => bne_self_eq_false x
  clear h5 g5 h6 g6
  unfold callV
  go_enter Tryz.func230, Tryz.ntmps230
  go_wp2_with first
    | (go_at_call 217; ((with_reducible refine (C5.out _ (below2 w _ _)).mono ?_)); rintro e w1 ⟨rfl, rfl⟩)
    | (go_at_call 217; ((with_reducible refine (C6.out _ (below2 w _ _)).mono ?_)); rintro e w1 ⟨rfl, rfl⟩)
    | (go_at_call 217; ((with_reducible refine (C0.out _).mono ?_)); rintro e w1 ⟨rfl, rfl⟩)
  go_ret
  exact ⟨rfl, below2 w _ _⟩
theorem below1 (w : World) (a : Obj) : Below w.heap.size w (w.alloc a) := (Below.refl _ w).alloc (Nat.le_refl _) a
set_option maxHeartbeats 4000000 in
set_option maxRecDepth 100000 in
theorem oneH (w : World) (k g n m : Int) (j : Nat) (hj : j < 100) (p5 p6 : Option Addr) (c5 c6 : Nat) (l5 l6 : List UInt8) :
    Calls Tryz.prog 229 #[callV k (j : Int) g n m p5 c5 l5 p6 c6 l6, .int .i32 104] w fun e w' => e = .returned (.tuple #[.string (str (Lib.decDigits j)), .bool true]) ∧ Below w.heap.size w w' := by
  have CI : Hid (∀ W, Calls Tryz.prog 233 #[.int .i64 (j : Int)] W fun e w' => e = .returned (.string (str (Lib.decDigits j))) ∧ w' = W) := Lib.hid (fun W => Tryz.strconv_Itoa_small j hj W)
  have h1 : (0 : Int) ≤ (j : Int) := by omega
  have h2 : (j : Int) ≤ 999999 := by omega
  unfold callV
  go_enter Tryz.func229, Tryz.ntmps229
  go_wp2_with first
    | (go_at_call 233; ((with_reducible refine (CI.out _).mono ?_)); rintro e w1 ⟨rfl, rfl⟩)
  go_ret2
  exact ⟨rfl, below1 w _⟩
set_option maxHeartbeats 4000000 in
set_option maxRecDepth 100000 in
theorem oneK (w : World) (hT : Lib.Utf8Tabs 3 4 w) (k h g n m : Int) {p5 p6 : Option Addr} {c5 c6 : Nat} {l5 l6 : List UInt8} (h5 : IsB w p5 c5 l5) (hl : l5.length ≤ 2000) :
    Calls Tryz.prog 229 #[callV k h g n m p5 c5 l5 p6 c6 l6, .int .i32 107] w fun e w' => e = .returned (.tuple #[.string (str (qt l5)), .bool true]) ∧ Below w.heap.size w w' := by
  have CP := Lib.hid (fun W (hW : Below w.heap.size w W) => printW W (h5.below hW) hl (Utf8Tabs_below hT hW))
  clear hT h5
  unfold callV
  go_enter Tryz.func229, Tryz.ntmps229
  go_wp2_with first
    | (go_at_call 232; ((with_reducible refine (CP.out _ (below1 w _)).mono ?_)); rintro e w1 ⟨rfl, hb⟩)
  go_ret2
  exact ⟨rfl, (below1 w _).trans (hb.mono (by simp))⟩
set_option maxHeartbeats 4000000 in
set_option maxRecDepth 100000 in
theorem oneV (w : World) (hT : Lib.Utf8Tabs 3 4 w) (k h g n m : Int) {p5 p6 : Option Addr} {c5 c6 : Nat} {l5 l6 : List UInt8} (h6 : IsB w p6 c6 l6) (hl : l6.length ≤ 2000) :
    Calls Tryz.prog 229 #[callV k h g n m p5 c5 l5 p6 c6 l6, .int .i32 118] w fun e w' => e = .returned (.tuple #[.string (str (qt l6)), .bool true]) ∧ Below w.heap.size w w' := by
  have CP := Lib.hid (fun W (hW : Below w.heap.size w W) => printW W (h6.below hW) hl (Utf8Tabs_below hT hW))
  clear hT h6
  unfold callV
  go_enter Tryz.func229, Tryz.ntmps229
  go_wp2_with first
    | (go_at_call 232; ((with_reducible refine (CP.out _ (below1 w _)).mono ?_)); rintro e w1 ⟨rfl, hb⟩)
  go_ret2
  exact ⟨rfl, (below1 w _).trans (hb.mono (by simp))⟩
end Go.Proofs.YtmbiiemlepfoaaaGreatDoor
