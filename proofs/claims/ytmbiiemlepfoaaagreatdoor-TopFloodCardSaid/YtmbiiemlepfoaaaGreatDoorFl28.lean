/- The walk of script.Call.text. The walks of script.lay, told. A chart's cells behind one name; the walks of Index, Len over it. The walk of chart.New. -/
import Derived.Test.YtmbiiemlepfoaaaGreatDoorFl27
import Derived.Test.YtmbiiemlepfoaaaGreatDoorFl24
import Derived.Test.YtmbiiemlepfoaaaGreatDoorFl12

namespace Go.Proofs.YtmbiiemlepfoaaaGreatDoor
open Go.RowKit
set_option linter.unusedVariables false
theorem wpList_load180 {ops : Array Oper} {rest : List Oper} {o : Oper} {a : Act} {w : World} {Q : Exit → Act → World → Prop} (hgd : o.guard = none) (x : Operand) (ho : o.op = .load 180 x)
    (b f : Nat) (hx : a.eval x = .pointer (some ⟨b, f, none⟩)) (cs : List Value) (hc : w.rangeAt b f cs) (hl : cs.length = 10)
    (h : wpList Tryz.prog ops Q rest (a.put o.dst (.agg cs.toArray)) w) : wpList Tryz.prog ops Q (o :: rest) a w := by
  obtain ⟨d, hd, hr⟩ := und_of row_180
  exact wpList_load_mid hgd 180 x ho b f hx cs d hc hd hr (by rw [info_180, hl]) h
def callL (k h g n m : Int) (p5 : Option Addr) (c5 : Nat) (l5 : List UInt8) (p6 : Option Addr) (c6 : Nat) (l6 : List UInt8) : List Value := [.int .i64 k, .int .i64 h, .int .i64 g, .int .i64 n, .int .i64 m, .slice p5 l5.length c5, .slice p6 l6.length c6, .slice none 0 0, .slice none 0 0, .bool false]
theorem join_sp (a b : List UInt8) : str a ++ ((⟨#[32]⟩ : ByteArray) ++ str b) = str (a ++ 32 :: b) := by
  apply ByteArray.ext
  simp [str]
theorem join_nl (a : List UInt8) : str a ++ (⟨#[10]⟩ : ByteArray) = str (a ++ [10]) := by
  apply ByteArray.ext
  simp [str]
set_option maxHeartbeats 4000000 in
set_option maxRecDepth 100000 in
theorem callText (w : World) (hS : Stat w) (K : Nat) (hK1 : 1 ≤ K) (hK2 : K ≤ 20) (h g n m : Int) {p5 p6 : Option Addr} {c5 c6 : Nat} {l5 l6 : List UInt8} (h5 : IsB w p5 c5 l5) (h6 : IsB w p6 c6 l6)
    (word args line : List UInt8) (hform : formM K = (word, args)) (hw : word.isEmpty = false) (hargs : ∀ i n, bA args i = n → n < 128) (hal : args.length ≤ 1000)
    (acc outs : Nat → List UInt8) (ha0 : acc 0 = word) (ha : ∀ i, i < args.length → acc (i + 1) = acc i ++ 32 :: outs i) (hal2 : acc args.length = line) (hsa : ∀ i, i ≤ args.length → (acc i).length ≤ 1000) (hso : ∀ i, i < args.length → (outs i).length ≤ 1000)
    (hone : ∀ W pos c, Below w.heap.size w W → args[pos]? = some c → Calls Tryz.prog 229 #[callV K h g n m p5 c5 l5 p6 c6 l6, .int .i32 (c.toNat : Int)] W fun e w' => e = .returned (.tuple #[.string (str (outs pos)), .bool true]) ∧ Below W.heap.size W w')
    (hread : ∀ W, Below w.heap.size w W → Calls Tryz.prog 150 #[.string (str line)] W fun e w' => ∃ q5 d5 q6 d6, e = .returned (.tuple #[callV K h g n m q5 d5 l5 q6 d6 l6, .int .i64 0]) ∧ IsB w' q5 d5 l5 ∧ IsB w' q6 d6 l6 ∧ Below W.heap.size W w') :
    Calls Tryz.prog 151 #[callV K h g n m p5 c5 l5 p6 c6 l6] w fun e w' => e = .returned (.tuple #[.string (str (line ++ [10])), .bool true]) ∧ Below w.heap.size w w' := by
  have CF : Hid (∀ (W : World), Below w.heap.size w W → Calls Tryz.prog 226 #[.int .i64 (K : Int)] W fun e w' => e = .returned (.tuple #[.string (str word), .string (str args)]) ∧ ∃ n, w' = W.drewN n) := Lib.hid (fun W hb => by
    have := formAt K hK1 hK2 W (hS.keep (le7 hb hS.big)).gm
    rw [hform] at this
    exact this)
  have hem : (str word).toList.isEmpty = false := by rw [ByteArray.toList_eq, str_data]; exact hw
  have H5 := Lib.hid h5
  have H6 := Lib.hid h6
  have CO := Lib.hid hone
  have CR := Lib.hid hread
  have HA := Lib.hid ha
  have HA0 := Lib.hid ha0
  have HAL := Lib.hid hal2
  clear hS h5 h6 hone hread hform hw ha ha0 hal2
  unfold callV
  go_enter Tryz.func151, Tryz.ntmps151
  go_wp2_with first
    | (go_at_call 226; ((with_reducible refine (CF.out _ (below1 w _)).mono ?_)); rintro e wL ⟨rfl, hn⟩; have HN := Lib.hid hn; clear hn)
    | fail
  have rowL : wL.heap[w.heap.size]? = some (.cells (callL K h g n m p5 c5 l5 p6 c6 l6).toArray 180) := by
    obtain ⟨x, hx⟩ := HN.out
    rw [hx]
    exact heap_alloc_new w _
  have hbL : Below w.heap.size w wL := by
    obtain ⟨x, hx⟩ := HN.out
    rw [hx]
    exact belowDr (below1 w _) x
  have RL := Lib.hid rowL
  have BL := Lib.hid hbL
  have hzL : w.heap.size < wL.heap.size := row_ltB rowL
  clear rowL hbL HN
  go_loopw [4, 7, 8, 9] (fun v4 _ _ _ wr => ∃ pos : Nat, pos ≤ args.length ∧ v4 = .string (str (acc pos)) ∧ wr.heap[wL.heap.size]? = some (.stringIter (str args) pos) ∧ Below wL.heap.size wL wr)
    (fun _ _ _ _ wr => args.length - wr.iterPos wL.heap.size)
  case atStart => exact ⟨0, Nat.zero_le _, by rw [HA0.out], World.iter_heap _ _ _, below1 wL _⟩
  case round =>
    obtain ⟨pos, hpos, rfl, hit, hB⟩ := hrel
    obtain ⟨wS, rfl⟩ : ∃ x, x = wr := ⟨_, rfl⟩
    have hbw : Below w.heap.size w wS := BL.out.trans (hB.mono BL.out.size)
    by_cases h1 : pos < args.length
    · have hnx := fun ty => Lib.run_next_any_at (P := Tryz.prog) wS wL.heap.size (str args) pos ty hit (by rw [str_size]; exact h1)
      have hca : args[pos]? = some (args[pos]'h1) := List.getElem?_eq_getElem h1
      obtain ⟨c, hc⟩ : ∃ c, c = args[pos]'h1 := ⟨_, rfl⟩
      rw [← hc] at hca
      have hbA : bA args pos = c.toNat := by unfold bA; simp [hca]
      rw [dec_asc args pos c.toNat hbA (hargs _ _ hbA)] at hnx
      dsimp only at hnx
      obtain ⟨wI, hwI⟩ : ∃ x, x = wS.iterAt wL.heap.size (str args) (pos + 1) := ⟨_, rfl⟩
      have hz : wL.heap.size < wS.heap.size := row_ltB hit
      have hiI : wI.heap[wL.heap.size]? = some (.stringIter (str args) (pos + 1)) := by rw [hwI]; exact Lib.iterAt_heap _ _ _ _ _ hit
      have hBI : Below wL.heap.size wL wI := by rw [hwI]; exact Lib.below_iterAt hB (Nat.le_refl _) _ _
      have rI : wI.heap[w.heap.size]? = some (.cells (callL K h g n m p5 c5 l5 p6 c6 l6).toArray 180) := (hBI.block _ hzL).trans RL.out
      have CT := Lib.hid (CO.out wI pos c (BL.out.trans (hBI.mono BL.out.size)) hca)
      unfold callV at CT
      have s1 : (str (acc pos)).size ≤ 1000 := by rw [str_size]; exact hsa pos hpos
      have s2 : (str (outs pos)).size ≤ 1000 := by rw [str_size]; exact hso pos h1
      have hps : wS.iterPos wL.heap.size = pos := by unfold World.iterPos; rw [hit]
      have hrg : wI.rangeAt w.heap.size 0 (callL K h g n m p5 c5 l5 p6 c6 l6) := range_row rI
      rw [← hwI] at hnx
      have HII := Lib.hid hiI
      have HBI := Lib.hid hBI
      have HPS := Lib.hid hps
      have HP1 := Lib.hid h1
      have HRG := Lib.hid hrg
      clear hB hit hiI hBI hwI hca hc hbA hps h1 hz rI hrg hbw
      go_wp2_with first
        | (refine wpList_load180 rfl _ rfl w.heap.size 0 rfl [.int .i64 K, .int .i64 h, .int .i64 g, .int .i64 n, .int .i64 m, .slice p5 l5.length c5, .slice p6 l6.length c6, .slice none 0 0, .slice none 0 0, .bool false] HRG.out rfl ?_)
        | (go_at_call 229; ((with_reducible refine (CT.out).mono ?_)); rintro e w4 ⟨rfl, hb4⟩; have HB4 := Lib.hid hb4; clear hb4)
        | fail
      rw [join_sp]
      refine ⟨⟨pos + 1, by have := HP1.out; omega, by rw [HA.out _ HP1.out], (HB4.out.block _ (row_ltB HII.out)).trans HII.out, HBI.out.trans (HB4.out.mono HBI.out.size)⟩, ?_⟩
      have h5 : w4.heap[wL.heap.size]? = some (.stringIter (str args) (pos + 1)) := (HB4.out.block _ (row_ltB HII.out)).trans HII.out
      have h6 : w4.iterPos wL.heap.size = pos + 1 := by unfold World.iterPos; rw [h5]
      have := HP1.out
      rw [h6, HPS.out]
      omega
    · have kn := fun ty => Lib.run_next_end_at (P := Tryz.prog) wS wL.heap.size (str args) pos ty hit (by rw [str_size]; omega)
      obtain rfl : pos = args.length := by omega
      have CRD := Lib.hid (CR.out wS hbw)
      unfold callV at CRD
      have s1 : (str line).size ≤ 1000 := by rw [str_size, ← HAL.out]; exact hsa _ (Nat.le_refl _)
      rw [HAL.out]
      have rS : wS.heap[w.heap.size]? = some (.cells (callL K h g n m p5 c5 l5 p6 c6 l6).toArray 180) := (hB.block _ hzL).trans RL.out
      have HRS := Lib.hid rS
      have HB := Lib.hid hbw
      have HSZ := Lib.hid hzL
      clear hB hit rS hbw hzL
      go_wp2_with first
        | (go_at_call 150; ((with_reducible refine (CRD.out).mono ?_)); rintro e w2 ⟨q5, d5, q6, d6, rfl, g5, g6, hb2⟩; have G5 := Lib.hid g5; have G6 := Lib.hid g6; have HB2 := Lib.hid hb2; clear g5 g6 hb2)
        | (refine wpList_store_row rfl 180 _ _ rfl w2.heap.size rfl #[.int .i64 K, .int .i64 h, .int .i64 g, .int .i64 n, .int .i64 m, .slice q5 l5.length d5, .slice q6 l6.length d6, .slice none 0 0, .slice none 0 0, .bool false] rfl 180 _ (heap_alloc_new w2 _) (by rw [info_180]; rfl) (by rfl) (by simp [Value.oneCell']) ?_; rw [World.setRow_alloc_new]; obtain ⟨w3, hw3⟩ : ∃ x, x = w2.alloc (.cells #[.int .i64 K, .int .i64 h, .int .i64 g, .int .i64 n, .int .i64 m, .slice q5 l5.length d5, .slice q6 l6.length d6, .slice none 0 0, .slice none 0 0, .bool false] 180) := ⟨_, rfl⟩; rw [← hw3]; have r3 : w3.heap[w.heap.size]? = some (.cells #[.int .i64 K, .int .i64 h, .int .i64 g, .int .i64 n, .int .i64 m, .slice p5 l5.length c5, .slice p6 l6.length c6, .slice none 0 0, .slice none 0 0, .bool false] 180) := (by rw [hw3]; exact ((below1 w2 _).block _ (Nat.lt_of_lt_of_le (row_ltB HRS.out) HB2.out.size)).trans ((HB2.out.block _ (row_ltB HRS.out)).trans HRS.out)); have s3 : w3.heap[w2.heap.size]? = some (.cells #[.int .i64 K, .int .i64 h, .int .i64 g, .int .i64 n, .int .i64 m, .slice q5 l5.length d5, .slice q6 l6.length d6, .slice none 0 0, .slice none 0 0, .bool false] 180) := (by rw [hw3]; exact heap_alloc_new w2 _); have HW3 := Lib.hid (show Below w2.heap.size w2 w3 from hw3 ▸ below1 w2 _); have z0 : w3.cell? ⟨w.heap.size, 0, none⟩ = some (.int .i64 K) := cell_of_row w3 _ 0 _ _ (0, 0) r3; have z1 : w3.cell? ⟨w.heap.size, 1, none⟩ = some (.int .i64 h) := cell_of_row w3 _ 1 _ _ (0, 0) r3; have z2 : w3.cell? ⟨w.heap.size, 2, none⟩ = some (.int .i64 g) := cell_of_row w3 _ 2 _ _ (0, 0) r3; have z3 : w3.cell? ⟨w.heap.size, 3, none⟩ = some (.int .i64 n) := cell_of_row w3 _ 3 _ _ (0, 0) r3; have z4 : w3.cell? ⟨w.heap.size, 4, none⟩ = some (.int .i64 m) := cell_of_row w3 _ 4 _ _ (0, 0) r3; have z5 : w3.cell? ⟨w.heap.size, 5, none⟩ = some (.slice p5 l5.length c5) := cell_of_row w3 _ 5 _ _ (0, 0) r3; have z6 : w3.cell? ⟨w.heap.size, 6, none⟩ = some (.slice p6 l6.length c6) := cell_of_row w3 _ 6 _ _ (0, 0) r3; have z7 : w3.cell? ⟨w.heap.size, 7, none⟩ = some (.slice none 0 0) := cell_of_row w3 _ 7 _ _ (0, 0) r3; have z8 : w3.cell? ⟨w.heap.size, 8, none⟩ = some (.slice none 0 0) := cell_of_row w3 _ 8 _ _ (0, 0) r3; have z9 : w3.cell? ⟨w.heap.size, 9, none⟩ = some (.bool false) := cell_of_row w3 _ 9 _ _ (0, 0) r3; have y0 : w3.cell? ⟨w2.heap.size, 0, none⟩ = some (.int .i64 K) := cell_of_row w3 _ 0 _ _ (0, 0) s3; have y1 : w3.cell? ⟨w2.heap.size, 1, none⟩ = some (.int .i64 h) := cell_of_row w3 _ 1 _ _ (0, 0) s3; have y2 : w3.cell? ⟨w2.heap.size, 2, none⟩ = some (.int .i64 g) := cell_of_row w3 _ 2 _ _ (0, 0) s3; have y3 : w3.cell? ⟨w2.heap.size, 3, none⟩ = some (.int .i64 n) := cell_of_row w3 _ 3 _ _ (0, 0) s3; have y4 : w3.cell? ⟨w2.heap.size, 4, none⟩ = some (.int .i64 m) := cell_of_row w3 _ 4 _ _ (0, 0) s3; have y5 : w3.cell? ⟨w2.heap.size, 5, none⟩ = some (.slice q5 l5.length d5) := cell_of_row w3 _ 5 _ _ (0, 0) s3; have y6 : w3.cell? ⟨w2.heap.size, 6, none⟩ = some (.slice q6 l6.length d6) := cell_of_row w3 _ 6 _ _ (0, 0) s3; have y7 : w3.cell? ⟨w2.heap.size, 7, none⟩ = some (.slice none 0 0) := cell_of_row w3 _ 7 _ _ (0, 0) s3; have y8 : w3.cell? ⟨w2.heap.size, 8, none⟩ = some (.slice none 0 0) := cell_of_row w3 _ 8 _ _ (0, 0) s3; have y9 : w3.cell? ⟨w2.heap.size, 9, none⟩ = some (.bool false) := cell_of_row w3 _ 9 _ _ (0, 0) s3; clear hw3 r3 s3; have CS := Lib.hid (scriptSame w3 K h g n m ((G5.out.below HW3.out)) ((H5.out.below (HB.out.trans (HB2.out.mono HB.out.size))).below HW3.out) (G6.out.below HW3.out) ((H6.out.below (HB.out.trans (HB2.out.mono HB.out.size))).below HW3.out)); unfold callV at CS)
        | (go_at_call 230; ((with_reducible refine (CS.out).mono ?_)); rintro e w5 ⟨rfl, hb5⟩; have HB5 := Lib.hid hb5; clear hb5)
        | fail
      go_ret2
      rw [join_nl]
      have b2 := HB.out.trans (HB2.out.mono HB.out.size)
      have b3 := b2.trans (HW3.out.mono b2.size)
      exact ⟨rfl, b3.trans (HB5.out.mono b3.size)⟩
def TextOf (w : World) (x : Value) (t : List UInt8) : Prop :=
  x = .iface 9 (.string (str t)) ∨ (∃ j : Nat, j < 100 ∧ x = .iface 3 (.int .i64 (j : Int)) ∧ t = Lib.decDigits j) ∨ (∃ p c l, x = .iface 22 (.slice p l.length c) ∧ IsB w p c l ∧ l.length ≤ 2000 ∧ t = qt l)
theorem info9 : (Tryz.prog.info? 9).map (fun i => (i.zero, i.size, i.bytes)) = some (some (.string ⟨#[]⟩), 1, 16) := by kernel_rfl
theorem own_slice9 {w : World} {base n : Nat} {v : Value} {vs : List Value} (ho : w.ownsRow base 9 1 v n vs) : ∃ q d, v = .slice q n d := by
  rcases ho.2 with ⟨hv, hn⟩ | ⟨g, cap, cur, hv, _⟩
  · subst hn; exact ⟨none, 0, hv⟩
  · exact ⟨_, _, hv⟩
theorem own_ge9 {w : World} {base n : Nat} {v : Value} {vs : List Value} (ho : w.ownsRow base 9 1 v n vs) {r : Nat} (hr : v.ownBlock = some r) : base ≤ r := by
  rcases ho.2 with ⟨hv, hn⟩ | ⟨g, cap, cur, hv, hg, hh, _⟩
  · rw [hv] at hr; cases hr
  · rw [hv] at hr
    obtain rfl : g = r := by simpa [Value.ownBlock] using hr
    exact hg
def strV (t : List UInt8) : Value := .string (str t)
def joinM (ts : List (List UInt8)) : List UInt8 := Lib.join ts [32]
theorem ta9 (v : Value) (w : World) : (Instr.typeAssert (.iface 9 v) 20 9 true).run Tryz.prog w = .ok (.tuple #[v, .bool true]) w := by
  simp [Instr.typeAssert, run_underlying Tryz.underlying9, go_sem]
theorem ta22 (v : Value) (w : World) : (Instr.typeAssert (.iface 22 v) 20 22 true).run Tryz.prog w = .ok (.tuple #[v, .bool true]) w := by
  simp [Instr.typeAssert, run_underlying Tryz.underlying22, go_sem]
theorem ta3 (v : Value) (w : World) : (Instr.typeAssert (.iface 3 v) 20 3 true).run Tryz.prog w = .ok (.tuple #[v, .bool true]) w := by
  simp [Instr.typeAssert, run_underlying Tryz.underlying3, go_sem]
theorem ta22_9 (v : Value) (w : World) : (Instr.typeAssert (.iface 22 v) 20 9 true).run Tryz.prog w = .ok (.tuple #[.string ⟨#[]⟩, .bool false]) w := by
  simp [Instr.typeAssert, run_underlying Tryz.underlying9, Tryz.zeroValue9, go_sem]
theorem ta3_9 (v : Value) (w : World) : (Instr.typeAssert (.iface 3 v) 20 9 true).run Tryz.prog w = .ok (.tuple #[.string ⟨#[]⟩, .bool false]) w := by
  simp [Instr.typeAssert, run_underlying Tryz.underlying9, Tryz.zeroValue9, go_sem]
theorem ta3_22 (v : Value) (w : World) : (Instr.typeAssert (.iface 3 v) 20 22 true).run Tryz.prog w = .ok (.tuple #[.slice none 0 0, .bool false]) w := by
  simp [Instr.typeAssert, run_underlying Tryz.underlying22, Tryz.zeroValue22, go_sem]
set_option maxHeartbeats 4000000 in
set_option maxRecDepth 100000 in
theorem scriptLay (w : World) (hS : Stat w) {b c n : Nat} (xs : List Value) (ts : List (List UInt8)) (hn : xs.length = n) (hn2 : ts.length = n) (hn3 : n ≤ 10) (hb : b < w.heap.size) (hc : ∀ (i : Nat) (x : Value), xs[i]? = some x → w.cell? ⟨b, i, none⟩ = some x)
    (ht : ∀ (i : Nat) (x : Value) (t : List UInt8), xs[i]? = some x → ts[i]? = some t → TextOf w x t) (hl : (joinM ts).length ≤ 100000) (h1 : 1 ≤ n) (hcn : n ≤ c) :
    Calls Tryz.prog 158 #[.slice (some ⟨b, 0, none⟩) n c] w fun e w' => e = .returned (.string (str (joinM ts ++ [10]))) ∧ Below w.heap.size w w' := by
  have HS := Lib.hid hS
  have HC := Lib.hid hc
  have HT := Lib.hid ht
  have HN := Lib.hid hn
  have HN2 := Lib.hid hn2
  have HCN := Lib.hid hcn
  obtain ⟨i0, hi, hz0, hz1, hz2⟩ := info_parts info9
  have HZ1 := Lib.hid hz1
  have HZ2 := Lib.hid hz2
  clear hS hc ht hn hn2 hz1 hz2 hcn
  go_enter Tryz.func158, Tryz.ntmps158
  go_wp2
  go_loopw [3, 5, 6, 7, 8, 11] (fun v3 _ _ _ _ v11 wr => ∃ (i : Nat) (q : Option Addr) (d : Nat), i ≤ n ∧ v11 = .int .i64 (i : Int) ∧ v3 = .slice q i d ∧ wr.ownsRow w.heap.size 9 1 (.slice q i d) i ((ts.map strV).take i) ∧ Below w.heap.size w wr)
    (fun _ _ _ _ _ v11 _ => n - (intOf v11).toNat)
  case atStart => exact ⟨0, none, 0, by omega, rfl, rfl, World.ownsRow_nil _ _ _ _, Below.refl _ _⟩
  case round =>
    obtain ⟨i, q, d, hi2, rfl, rfl, how, hbw⟩ := hrel
    by_cases hin : i < n
    · have hii : (i : Int) < (n : Int) := by omega
      have hxs : i < xs.length := by rw [HN.out]; exact hin
      have hts : i < ts.length := by rw [HN2.out]; exact hin
      obtain ⟨x, hx⟩ : ∃ x, xs[i]? = some x := ⟨_, List.getElem?_eq_getElem hxs⟩
      obtain ⟨t, htt⟩ : ∃ t, ts[i]? = some t := ⟨_, List.getElem?_eq_getElem hts⟩
      have hcell : wr.cell? ⟨b, i, none⟩ = some x := (hbw.cell hb).trans (HC.out i x hx)
      have hto := HT.out i x t hx htt
      have htk : (ts.map strV).take (i + 1) = (ts.map strV).take i ++ [strV t] := by
        rw [List.take_add_one, List.getElem?_map, htt]; simp
      have HTK := Lib.hid htk
      have HOW := Lib.hid how
      have HBW := Lib.hid hbw
      have HIN := Lib.hid hin
      clear how hbw htk hxs hts htt hx hin hi2
      rcases hto with rfl | ⟨j, hj, rfl, rfl⟩ | ⟨p, cc, l, rfl, hib, hll, rfl⟩
      · have hta := ta9
        go_wp2_with first
          | (refine wpList_append_own _ rfl _ _ 154 rfl w.heap.size 9 i0 (.string ⟨#[]⟩) 1 16 Tryz.underlying154 hi hz0 HZ1.out HZ2.out rfl (by omega) _ i ((ts.map strV).take i) rfl (owns_belowq HOW.out (below1 wr _)) ⟨wr.heap.size, 0, none⟩ 1 1 [.string (str t)] rfl rfl (World.news_of_block (cs := #[.string (str t)]) (t := 9) (fr := (0, 0)) (heap_alloc_new wr _)) (by simp [Value.oneCell']) (by have := HIN.out; unfold maxLen; omega) (by have := HIN.out; omega) (by have := (HBW.out).size; simp; omega) ?_; intro v7 w7 ho7 hg7 _; obtain ⟨q8, c8, rfl⟩ := own_slice9 ho7; have HO7 := Lib.hid ho7; have HG7 := Lib.hid hg7; clear ho7 hg7)
          | fail
        refine ⟨⟨i + 1, q8, c8, by have := HIN.out; omega, rfl, rfl, by rw [HTK.out]; exact HO7.out, (HBW.out.trans ((below1 wr _).mono (HBW.out).size)).grown HG7.out (by have := (HBW.out).size; simp; omega) (fun r e => own_ge9 HOW.out e)⟩, ?_⟩
        have := HIN.out
        show n - ((i : Int) + 1).toNat < n - (i : Int).toNat
        omega
      · have hta := ta3
        have hta2 := ta3_9
        have hta3 := ta3_22
        have CI : Hid (∀ W, Calls Tryz.prog 233 #[.int .i64 (j : Int)] W fun e w' => e = .returned (.string (str (Lib.decDigits j))) ∧ w' = W) := Lib.hid (fun W => Tryz.strconv_Itoa_small j hj W)
        go_wp2_with first
          | (go_at_call 233; ((with_reducible refine (CI.out _).mono ?_)); rintro e w1 ⟨rfl, rfl⟩)
          | (refine wpList_append_own _ rfl _ _ 154 rfl w.heap.size 9 i0 (.string ⟨#[]⟩) 1 16 Tryz.underlying154 hi hz0 HZ1.out HZ2.out rfl (by omega) _ i ((ts.map strV).take i) rfl (owns_belowq HOW.out (below1 w1 _)) ⟨w1.heap.size, 0, none⟩ 1 1 [.string (str (Lib.decDigits j))] rfl rfl (World.news_of_block (cs := #[.string (str (Lib.decDigits j))]) (t := 9) (fr := (0, 0)) (heap_alloc_new w1 _)) (by simp [Value.oneCell']) (by have := HIN.out; unfold maxLen; omega) (by have := HIN.out; omega) (by have := (HBW.out).size; simp; omega) ?_; intro v7 w7 ho7 hg7 _; obtain ⟨q8, c8, rfl⟩ := own_slice9 ho7; have HO7 := Lib.hid ho7; have HG7 := Lib.hid hg7; clear ho7 hg7)
          | fail
        refine ⟨⟨i + 1, q8, c8, by have := HIN.out; omega, rfl, rfl, by rw [HTK.out]; exact HO7.out, (HBW.out.trans ((below1 w1 _).mono (HBW.out).size)).grown HG7.out (by have := (HBW.out).size; simp; omega) (fun r e => own_ge9 HOW.out e)⟩, ?_⟩
        have := HIN.out
        show n - ((i : Int) + 1).toNat < n - (i : Int).toNat
        omega
      · have hta := ta22
        have hta2 := ta22_9
        have CP : Hid (Calls Tryz.prog 232 #[.slice p l.length cc] wr fun e w' => e = .returned (.string (str (qt l))) ∧ Below wr.heap.size wr w') := Lib.hid (printW wr (hib.below HBW.out) hll (HS.out.keep (le7 HBW.out HS.out.big)).tabs)
        clear hib
        go_wp2_with first
          | (go_at_call 232; ((with_reducible refine (CP.out).mono ?_)); rintro e w1 ⟨rfl, hb1⟩; have HB1 := Lib.hid hb1; clear hb1)
          | (refine wpList_append_own _ rfl _ _ 154 rfl w.heap.size 9 i0 (.string ⟨#[]⟩) 1 16 Tryz.underlying154 hi hz0 HZ1.out HZ2.out rfl (by omega) _ i ((ts.map strV).take i) rfl (owns_belowq (owns_belowq HOW.out HB1.out) (below1 w1 _)) ⟨w1.heap.size, 0, none⟩ 1 1 [.string (str (qt l))] rfl rfl (World.news_of_block (cs := #[.string (str (qt l))]) (t := 9) (fr := (0, 0)) (heap_alloc_new w1 _)) (by simp [Value.oneCell']) (by have := HIN.out; unfold maxLen; omega) (by have := HIN.out; omega) (by have := (HBW.out.trans (HB1.out.mono HBW.out.size)).size; simp; omega) ?_; intro v7 w7 ho7 hg7 _; obtain ⟨q8, c8, rfl⟩ := own_slice9 ho7; have HO7 := Lib.hid ho7; have HG7 := Lib.hid hg7; clear ho7 hg7)
          | fail
        refine ⟨⟨i + 1, q8, c8, by have := HIN.out; omega, rfl, rfl, by rw [HTK.out]; exact HO7.out, ((HBW.out.trans (HB1.out.mono HBW.out.size)).trans ((below1 w1 _).mono ((HBW.out.trans (HB1.out.mono HBW.out.size))).size)).grown HG7.out (by have := ((HBW.out.trans (HB1.out.mono HBW.out.size))).size; simp; omega) (fun r e => own_ge9 (owns_belowq HOW.out HB1.out) e)⟩, ?_⟩
        have := HIN.out
        show n - ((i : Int) + 1).toNat < n - (i : Int).toNat
        omega
    · obtain rfl : i = n := by omega
      rw [List.take_of_length_le (by rw [List.length_map, HN2.out]; exact Nat.le_refl _)] at how
      obtain ⟨g, hq, hbg, hce, hcap⟩ : ∃ g, q = some ⟨g, 0, none⟩ ∧ g < wr.heap.size ∧ (∀ (j : Nat) (x : ByteArray), (ts.map str)[j]? = some x → wr.cell? ⟨g, 0 + j, none⟩ = some (.string x)) ∧ i ≤ d := by
        rcases how.2 with ⟨hv, hn⟩ | ⟨g, cap, cur, hv, hg, hh, hnc, hcm, hcs, ht⟩
        · omega
        · injection hv with hv1 hv2 hv3
          refine ⟨g, hv1, row_ltB hh, fun j x hx => ?_, by rw [hv3]; exact hnc⟩
          rw [List.getElem?_map] at hx
          obtain ⟨t, htj, rfl⟩ := Option.map_eq_some_iff.1 hx
          have := how.cells (g := g) (by rw [hv1]; rfl) j (strV t) (by rw [List.getElem?_map, htj]; rfl)
          simpa [Addr.add_lit, strV] using this
      subst hq
      have hjm : (ts.map str).map (·.data.toList) = ts := by
        rw [List.map_map]
        conv => rhs; rw [← List.map_id ts]
        exact List.map_congr_left fun t _ => str_data t
      have hlen : (Lib.join ((ts.map str).map (·.data.toList)) (⟨#[32]⟩ : ByteArray).data.toList).length ≤ 140737488355328 := by rw [hjm]; exact Nat.le_trans hl (by omega)
      have CJ := Tryz.strings_Join g 0 d (ts.map str) ⟨#[32]⟩ wr hce hbg (by rw [List.length_map, HN2.out]; omega) (by rw [List.length_map, HN2.out]; exact hcap) hlen
      rw [List.length_map, HN2.out, hjm] at CJ
      have CJ' : Hid (Calls Tryz.prog 234 #[.slice (some ⟨g, 0, none⟩) i d, .string ⟨#[32]⟩] wr fun e w' => e = .returned (.string (str (joinM ts))) ∧ Below wr.heap.size wr w') := Lib.hid CJ
      have hs1 : (str (joinM ts)).size ≤ 100000 := by rw [str_size]; exact hl
      have HB := Lib.hid hbw
      clear how hce CJ hjm hlen hbw hbg
      go_wp2_with first
        | (go_at_call 234; ((with_reducible refine (CJ'.out).mono ?_)); rintro e w2 ⟨rfl, hb2⟩)
        | fail
      go_ret
      rw [join_nl]
      exact ⟨rfl, HB.out.trans (hb2.mono HB.out.size)⟩
theorem join2 (a b : List UInt8) : joinM [a, b] = a ++ 32 :: b := by simp [joinM, Lib.join, List.intercalate]
set_option maxHeartbeats 1000000 in
set_option maxRecDepth 100000 in
theorem scriptTold (w : World) (v : Value) (line : List UInt8) (hl : Calls Tryz.prog 158 #[v] w fun e w' => e = .returned (.string (str line)) ∧ Below w.heap.size w w') :
    Calls Tryz.prog 152 #[.int .i64 0, v] w fun e w' => e = .returned (.tuple #[.string (str line), .bool true]) ∧ Below w.heap.size w w' := by
  have HL := Lib.hid hl
  clear hl
  go_enter Tryz.func152, Tryz.ntmps152
  go_wp2_with (go_at_call 158; ((with_reducible refine (HL.out).mono ?_)); rintro e w1 ⟨rfl, hb⟩)
  go_ret2
  exact ⟨rfl, hb⟩
structure IsChart (cs : Array Value) (p : Option Addr) : Prop where
  size : cs.size = 18
  idx : cs[17]? = some (.pointer p)
set_option maxHeartbeats 1000000 in
set_option maxRecDepth 100000 in
theorem chartIndexO (w : World) {cs : Array Value} {p : Option Addr} (h : IsChart cs p) :
    Calls Tryz.prog 100 #[.agg cs] w fun e w' => e = .returned (.pointer p) ∧ w' = w.alloc (.cells cs 112) := by
  have c17 : (w.alloc (.cells cs 112)).cell? ⟨w.heap.size, 17, none⟩ = some (.pointer p) := by
    rw [cell_of_row _ _ 17 _ _ (0, 0) (heap_alloc_new w _)]
    exact h.idx
  go_enter Tryz.func100, Tryz.ntmps100
  have hx := h.idx
  have hz := h.size
  clear h
  go_wp2
  go_ret
  exact ⟨rfl, rfl⟩
set_option maxHeartbeats 1000000 in
set_option maxRecDepth 100000 in
theorem chartLenO (w : World) {D : Nat → Prop} {cs : Array Value} {p : Option Addr} (h : IsChart cs p) {t : T} (ht : TreeAt w D p t) :
    Calls Tryz.prog 98 #[.agg cs] w fun e w' => e = .returned (.int .i64 (t.size : Int)) ∧ w' = w.alloc (.cells cs 112) := by
  have hb := (Below.refl _ w).alloc (Nat.le_refl _) (.cells cs 112)
  have CS := Lib.hid (treeSize _ (ht.below hb))
  have c17 : (w.alloc (.cells cs 112)).cell? ⟨w.heap.size, 17, none⟩ = some (.pointer p) := by
    rw [cell_of_row _ _ 17 _ _ (0, 0) (heap_alloc_new w _)]
    exact h.idx
  have hx := h.idx
  have hz := h.size
  clear h ht
  go_enter Tryz.func98, Tryz.ntmps98
  go_wp2_with (go_at_call 64; ((with_reducible refine CS.out.mono ?_)); rintro e w1 ⟨rfl, rfl⟩)
  go_ret
  exact ⟨rfl, rfl⟩
structure IsCh (w : World) (D : Nat → Prop) (s : List UInt8) (n : Option N) (t : T) (cv : List Value) : Prop where
  len : s.length = 16
  parts : ∃ x p, cv = s.map bv ++ [x, .pointer p] ∧ NodeAt w D n x ∧ TreeAt w D p t
theorem IsCh.size {w : World} {D : Nat → Prop} {s : List UInt8} {n : Option N} {t : T} {cv : List Value} (h : IsCh w D s n t cv) : cv.length = 18 := by
  obtain ⟨x, p, rfl, _⟩ := h.parts
  simp [h.len]
theorem IsCh.chart {w : World} {D : Nat → Prop} {s : List UInt8} {n : Option N} {t : T} {cv : List Value} (h : IsCh w D s n t cv) : ∃ p, IsChart cv.toArray p ∧ TreeAt w D p t := by
  have hs := h.len
  obtain ⟨x, p, rfl, hx, ht⟩ := h.parts
  refine ⟨p, ⟨by simp [hs], ?_⟩, ht⟩
  rw [List.getElem?_toArray, List.getElem?_append_right (by simp [hs])]
  simp [hs]
theorem IsCh.below {w w' : World} {D : Nat → Prop} {s : List UInt8} {n : Option N} {t : T} {cv : List Value} (h : IsCh w D s n t cv) (hb : Below w.heap.size w w') : IsCh w' D s n t cv := by
  obtain ⟨x, p, rfl, hx, ht⟩ := h.parts
  exact ⟨h.len, x, p, rfl, hx.below hb, ht.below hb⟩
theorem IsCh.mono {w : World} {D D' : Nat → Prop} {s : List UInt8} {n : Option N} {t : T} {cv : List Value} (h : IsCh w D s n t cv) (hd : ∀ k, k < w.heap.size → D k → D' k) : IsCh w D' s n t cv := by
  obtain ⟨x, p, rfl, hx, ht⟩ := h.parts
  exact ⟨h.len, x, p, rfl, hx.mono hd, ht.mono hd⟩
theorem IsCh.one {w : World} {D : Nat → Prop} {s : List UInt8} {n : Option N} {t : T} {cv : List Value} (h : IsCh w D s n t cv) : cv.toArray.all (·.oneCell') = true := by
  obtain ⟨x, p, rfl, hx, ht⟩ := h.parts
  refine all_oneCell_toArray fun v hv => ?_
  rcases List.mem_append.1 hv with h | h
  · exact bv_one s v h
  · simp at h
    rcases h with rfl | rfl
    · exact hx.one
    · rfl
set_option maxHeartbeats 4000000 in
set_option maxRecDepth 100000 in
theorem chartNew (w : World) (D : Nat → Prop) (s : List UInt8) (hs : s.length = 16) : Calls Tryz.prog 91 #[.agg (s.map bv).toArray] w fun e w' => ∃ cv, e = .returned (.agg cv.toArray) ∧ IsCh w' D s none .nil cv ∧ Below w.heap.size w w' := by
  obtain ⟨W2, hW2⟩ : ∃ W, W = (w.alloc (.cells (s.map bv).toArray 105)).alloc (.cells #[.int .u8 0, .int .u8 0, .int .u8 0, .int .u8 0, .int .u8 0, .int .u8 0, .int .u8 0, .int .u8 0, .int .u8 0, .int .u8 0, .int .u8 0, .int .u8 0, .int .u8 0, .int .u8 0, .int .u8 0, .int .u8 0, .nilIface, .pointer none] 112) := ⟨_, rfl⟩
  have hB : Below w.heap.size w W2 := by rw [hW2]; exact ((Below.refl _ w).alloc (Nat.le_refl _) _).alloc (by simp) _
  have r0 : W2.heap[w.heap.size]? = some (.cells (s.map bv).toArray 105) := by rw [hW2]; exact heap_alloc2_old _ _ _
  have r1 : W2.heap[w.heap.size + 1]? = some (.cells #[.int .u8 0, .int .u8 0, .int .u8 0, .int .u8 0, .int .u8 0, .int .u8 0, .int .u8 0, .int .u8 0, .int .u8 0, .int .u8 0, .int .u8 0, .int .u8 0, .int .u8 0, .int .u8 0, .int .u8 0, .int .u8 0, .nilIface, .pointer none] 112) := by rw [hW2]; exact heap_alloc2_new _ _ _
  have hz : (s.map bv).toArray.size = 16 := by simp [hs]
  have R0 := Lib.hid (range_row r0)
  have HR1 := Lib.hid r1
  have HB := Lib.hid hB
  have CN := Lib.hid (trieNew' W2 D s hs)
  have fo : ∀ cv : List Value, cv.length = 17 → List.foldl (fun cs x => cs.setIfInBounds x.snd x.fst) (#[.int .u8 0, .int .u8 0, .int .u8 0, .int .u8 0, .int .u8 0, .int .u8 0, .int .u8 0, .int .u8 0, .int .u8 0, .int .u8 0, .int .u8 0, .int .u8 0, .int .u8 0, .int .u8 0, .int .u8 0, .int .u8 0, .nilIface, .pointer none] : Array Value) cv.zipIdx = (cv ++ [Value.pointer none]).toArray := fun cv h => fold18 h _
  have HF := Lib.hid fo
  have hone : ∀ {w' : World} (cv : List Value), IsTrie w' D s none cv → (cv ++ [Value.pointer none]).toArray.all (·.oneCell') = true := fun cv h => by
    obtain ⟨x, rfl, hx⟩ := h.root
    refine all_oneCell_toArray fun v hv => ?_
    rcases List.mem_append.1 hv with h | h
    · rcases List.mem_append.1 h with h | h
      · exact bv_one s v h
      · simp at h; subst h; exact hx.one
    · simp at h; subst h; rfl
  clear fo r0 r1 hB
  go_enter Tryz.func91, Tryz.ntmps91
  go_wp2_with (refine wpList_load105 rfl _ rfl _ 0 rfl (s.map bv) (World.rangeAt_alloc (range_row (heap_alloc_new w _)) _) (by simpa using hs) ?_)
  rw [← hW2]
  clear hW2
  go_wp2_with first
    | (go_at_call 165; ((with_reducible refine (CN.out).mono ?_)); rintro e w3 ⟨cv, rfl, ht3, hb3⟩; have HT3 := Lib.hid ht3; have HB3 := Lib.hid (HB.out.trans (hb3.mono HB.out.size)); have hr3 := Lib.hid ((hb3.block _ (row_ltT HR1.out)).trans HR1.out); have hl3 : cv.length = 17 := (by obtain ⟨x, h, _⟩ := ht3.root; rw [h]; simp [hs]); have hf3 := HF.out cv hl3; clear ht3 hb3)
    | (refine wpList_store_row rfl 112 _ _ rfl (w.heap.size + 1) rfl (cv ++ [Value.pointer none]).toArray rfl 112 _ hr3.out (by rw [info_112]; simp [hl3]) (by simp [hl3]) (hone cv HT3.out) ?_)
  obtain ⟨x, rfl, hx⟩ := HT3.out.root
  have hx : x = .nilIface := hx
  subst hx
  have hl : (s.map bv ++ [Value.nilIface] ++ [Value.pointer none]).length = 18 := by simp [hs]
  refine bodyPost_ret (results_row1 rfl _ _ (w.heap.size + 1) 112 (s.map bv ++ [Value.nilIface] ++ [Value.pointer none]) (0, 0) rfl (setRow_heap _ _ _ _ 112 (0, 0) hr3.out) row_112 (by rw [info_112, hl])) rfl ⟨_, rfl, ⟨hs, .nilIface, none, by simp, rfl, rfl⟩, ?_⟩
  exact below_setRow HB3.out (by omega) _
end Go.Proofs.YtmbiiemlepfoaaaGreatDoor
