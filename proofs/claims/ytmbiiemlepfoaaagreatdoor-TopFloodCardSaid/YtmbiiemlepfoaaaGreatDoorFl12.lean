/- The walk of graft.put into of any node, of graft.Put. A whole row loaded, stored, as an arm of a walk. The walks of trie.New, trie.Put. The walk of pair.Check. A Source's state in memory: bytes of its own, with room behind them; a struct of two fields. The walks of Left, Taken, New. append of bytes onto a source's bytes. The walk of Feed. -/
import Derived.Test.YtmbiiemlepfoaaaGreatDoorFl11
import Derived.Test.YtmbiiemlepfoaaaGreatDoorFl06
import Derived.Deep.MidRow
import Derived.Deep.WholeRow
import Derived.Test.YtmbiiemlepfoaaaGreatDoorFl02
import Derived.BigQuiet
import Derived.Test.YtmbiiemlepfoaaaGreatDoorFl01
import Derived.ArgAppend
import Derived.Deep.Upon

namespace Go.Proofs.YtmbiiemlepfoaaaGreatDoor
open Go.RowKit
set_option linter.unusedVariables false
set_option maxHeartbeats 2000000 in
set_option maxRecDepth 100000 in
theorem intoBranch (w : World) {mb : Option Nat} {vi c h L b : Nat} (hm : Met w mb vi c) {kp vp : Option Addr} {kc vc : Nat} {k v : List UInt8} {D : Nat → Prop} {r : N × Bool} {vi' c' : Nat}
    (CB : ∀ w', Below w.heap.size w w' → Calls Tryz.prog 184 #[putV h kp kc k vp vc v mb, ifp 308 b, .int .i64 (L : Int)] w' (IntoR D r mb vi' c' w')) :
    Calls Tryz.prog 108 #[putV h kp kc k vp vc v mb, ifp 308 b, .int .i64 (L : Int)] w (IntoR D r mb vi' c' w) := by
  obtain ⟨W2, hW2⟩ : ∃ x, x = w.alloc (putRow h kp kc k vp vc v mb) := ⟨_, rfl⟩
  have hB : Below w.heap.size w W2 := by rw [hW2]; exact (Below.refl _ w).alloc (Nat.le_refl _) _
  have r0 : W2.heap[w.heap.size]? = some (putRow h kp kc k vp vc v mb) := by rw [hW2]; exact heap_alloc_new _ _
  obtain ⟨s0, s1, s2, s3⟩ := putAt_of r0
  have C1 := Lib.hid (CB W2 hB)
  have HB := Lib.hid hB
  have q0 := mKind308
  have q1 := kindBranch
  have q2 := nil42
  clear CB hB r0 hm
  go_enter Tryz.func108, Tryz.ntmps108
  go_wp2_with fail
  rw [← hW2]
  clear hW2
  go_wp2_with first
    | (go_at_call 370; ((with_reducible refine (q1 _ _).mono ?_)); rintro e w1 ⟨rfl, rfl⟩)
    | (go_at_call 184; ((with_reducible refine (C1.out).mono ?_)); rintro e w3 ⟨t3, a3, rfl, hn3, hm3, hg3⟩; have HN3 := Lib.hid hn3; have HM3 := Lib.hid hm3; have HG3 := Lib.hid hg3; clear hn3 hm3 hg3)
  go_ret2
  exact ⟨_, _, rfl, HN3.out, HM3.out, grown_trans (grown_of_below HB.out mb) HG3.out⟩
theorem counts_mem {ks : List N} {n : N} (h : n ∈ ks) : n.count ≤ N.counts ks := by
  induction ks with
  | nil => simp at h
  | cons x xs ih =>
    simp only [N.counts]
    rcases List.mem_cons.1 h with rfl | h
    · omega
    · have := ih h; omega
theorem intoAll {D : Nat → Prop} {mb : Option Nat} (ho : Off D mb) (hm2 : mb ≠ some 2) {h : Nat} {k v : List UInt8} (hh : h < 18446744073709551616) : ∀ (n : N) (L : Nat), L ≤ 13 → n.fit L → n.Agree h L → n.count < 1000000 → IntoOk D mb h k v (some n) L := by
  refine N.ind ?_ ?_ ?_
  · intro g k' v' L hL hf ha hct w hD x vi c kp vp kc vc hx hm hvi hci hi h2 hT
    have hx' : N.At w D (.leaf g k' v') x := hx
    obtain ⟨b, rfl, _⟩ := hx'.form
    unfold N.fit at hf
    by_cases e : g = h
    · subst e
      have es : intoSO g k (some (.leaf g k' v')) L = (1, 1) := by simp [intoSO, N.intoS]
      rw [es]
      exact intoLeafSame w D hD ho hm (by omega) (by omega) hi hx' hf.2.1 hf.2.2 hh (fun e2 => by simp only [intoO, N.into, if_true]; rw [if_pos e2]) (fun e2 => by simp only [intoO, N.into, if_true]; rw [if_neg e2])
    · have es : intoSO h k (some (.leaf g k' v')) L = (1, 0) := by simp [intoSO, N.intoS, e]
      have er : intoO h k v (some (.leaf g k' v')) L = (forkN (13 - L) (.leaf g k' v') g (.leaf h k v) h L, true) := by simp only [intoO, N.into]; rw [if_neg e]
      rw [es]
      rw [er]
      exact intoLeafFork w D hD ho hm (by omega) hi hx' hf.1 hh e hL (parts hf.1 hh e (ha g (by simp [N.hashes])))
  · intro g t L hL hf ha hct w hD x vi c kp vp kc vc hx hm hvi hci hi h2 hT
    have hx' : N.At w D (.bucket g t) x := hx
    obtain ⟨b, rfl, _⟩ := hx'.form
    unfold N.fit at hf
    simp only [N.count] at hct
    have hpl := pathT_le k t
    by_cases e : g = h
    · subst e
      have es : intoSO g k (some (.bucket g t)) L = (pathT k t, pathT k t) := by simp [intoSO, N.intoS]
      have er : intoO g k v (some (.bucket g t)) L = (.bucket g (putT k v t), decide (t.size < (putT k v t).size)) := by simp only [intoO, N.into, if_true]
      rw [es]
      rw [er]
      exact intoBucketSame w D hD ho hm hi hx' hf.2.1 hf.2.2.1 hf.2.2.2 hct (by omega) (by omega)
    · have es : intoSO h k (some (.bucket g t)) L = (0, 0) := by simp [intoSO, N.intoS, e]
      have er : intoO h k v (some (.bucket g t)) L = (forkN (13 - L) (.bucket g t) g (.leaf h k v) h L, true) := by simp only [intoO, N.into]; rw [if_neg e]
      rw [es]
      rw [er]
      exact intoBucketFork w D hD ho hm hi hx' hf.1 hh e hL (by omega) (parts hf.1 hh e (ha g (by simp [N.hashes])))
  · intro m ks ih L hL hf ha hct w hD x vi c kp vp kc vc hx hm hvi hci hi h2 hT
    have hx' : N.At w D (.branch m ks) x := hx
    obtain ⟨b, rfl, _⟩ := hx'.form
    have hf' := hf
    unfold N.fit at hf
    obtain ⟨f1, f2, f3, f4, f5, f6⟩ := hf
    rw [fits_iff] at f5
    simp only [N.count] at hct
    have hch := chunkM_lt h L
    have key : IntoOk D mb h k v (kidN m ks (chunkM h L)) (L + 1) := by
      unfold kidN
      by_cases hb : m.testBit (chunkM h L) = true
      · rw [if_pos hb]
        obtain ⟨n, hn⟩ := with_old (c := 0) f3 hch hb
        rw [hn]
        have hmem := List.mem_of_getElem? hn
        refine ih n hmem (L + 1) (by omega) (f5 n hmem) (fun g hg j hj => ?_) (by have := counts_mem hmem; omega)
        rcases Nat.lt_or_ge j L with hjl | hjl
        · exact ha g (by simp only [N.hashes]; exact mem_hashess.2 ⟨n, hmem, hg⟩) j hjl
        · rw [show j = L from by omega]
          have e1 := f6 _ _ hn g hg
          rw [bits_at hch hb] at e1
          exact (Option.some.inj e1).symm
      · rw [if_neg hb]
        intro w hD x vi c kp vp kc vc hx hm hvi hci hi h2 hT
        obtain rfl : x = .nilIface := hx
        exact intoNil w D hD hm hi
    have er : intoO h k v (some (.branch m ks)) L = (N.branch m ks).into h k v L := rfl
    have es : intoSO h k (some (.branch m ks)) L = (N.branch m ks).intoS h k L := rfl
    rw [es, intoS_branch]
    rw [er, into_branch]
    dsimp only
    refine intoBranch w hm fun w' hb' => ?_
    have hbg := grown_of_below hb' mb
    exact putBranch w' D (fun j hj => hD j (Nat.le_trans hb'.size hj)) ho hm2 (hm.below hb') (hi.grown hbg) (hx'.below hb') hf' hh (by omega) (Nat.lt_of_lt_of_le h2 hb'.size) (tab_grown hT h2 hm2 hbg) key (by omega) (by omega)
def fitO : Option N → Prop
  | none => True
  | some n => n.fit 0 ∧ n.count < 1000000
theorem intoOk0 {D : Nat → Prop} {mb : Option Nat} (ho : Off D mb) (hm2 : mb ≠ some 2) {h : Nat} {k v : List UInt8} (hh : h < 18446744073709551616) {n : Option N} (hf : fitO n) : IntoOk D mb h k v n 0 := by
  cases n with
  | none =>
    intro w hD x vi c kp vp kc vc hx hm hvi hci hi h2 hT
    obtain rfl : x = .nilIface := hx
    exact intoNil w D hD hm hi
  | some n => exact intoAll ho hm2 hh n 0 (by omega) hf.1 (fun g hg j hj => by omega) hf.2
set_option maxHeartbeats 1000000 in
set_option maxRecDepth 100000 in
theorem graftPut (w : World) (D : Nat → Prop) (hD : ∀ j, w.heap.size ≤ j → D j) {mb : Option Nat} (ho : Off D mb) (hm2 : mb ≠ some 2) {vi c h : Nat} (hm : Met w mb vi c) {kp vp : Option Addr} {kc vc : Nat} {k v : List UInt8} (hi : InP w mb kp vp kc vc k v) {n : Option N} {x : Value} (hx : NodeAt w D n x) (hf : fitO n) (hh : h < 18446744073709551616)
    (hvi : vi < 999980000000) (hci : c < 999980000000) (h2 : 2 < w.heap.size) (hT : TabAt 2 Lib.deBruijn32tab w) :
    Calls Tryz.prog 55 #[x, .int .u64 (h : Int), pairV kp kc k vp vc v, .pointer (mptr mb)] w (IntoR D (intoO h k v n 0) mb (vi + (intoSO h k n 0).1) (c + (intoSO h k n 0).2) w) := by
  obtain ⟨W2, hW2⟩ : ∃ x, x = w.alloc (.cells #[.slice kp k.length kc, .slice vp v.length vc] 61) := ⟨_, rfl⟩
  have hB : Below w.heap.size w W2 := by rw [hW2]; exact (Below.refl _ w).alloc (Nat.le_refl _) _
  have hbg := grown_of_below hB mb
  have CI := Lib.hid (intoOk0 ho hm2 hh hf W2 (fun j hj => hD j (Nat.le_trans hB.size hj)) x vi c kp vp kc vc (hx.below hB) (hm.below hB) (by omega) hci (hi.grown hbg) (Nat.lt_of_lt_of_le h2 hB.size) (tab_grown hT h2 hm2 hbg))
  rw [show ((0 : Nat) : Int) = 0 from rfl] at CI
  have HG := Lib.hid hbg
  generalize intoO h k v n 0 = r at *
  generalize intoSO h k n 0 = s at *
  clear hi hx hm hD hB hbg hT hf
  go_enter Tryz.func55, Tryz.ntmps55
  go_wp2_with fail
  rw [← hW2]
  clear hW2
  go_wp2_with (go_at_call 108; ((with_reducible refine (CI.out).mono ?_)); rintro e w3 ⟨t3, a3, rfl, hn3, hm3, hg3⟩; have HN3 := Lib.hid hn3; have HM3 := Lib.hid hm3; have HG3 := Lib.hid hg3; clear hn3 hm3 hg3)
  go_ret2
  exact ⟨_, _, rfl, HN3.out, HM3.out, grown_trans HG.out HG3.out⟩
theorem wp_store_row {P : Program} {op : Oper} {a : Act} {w : World} {K : Act → World → Prop} {Q : Exit → Act → World → Prop} (ty : TypeId) (x y : Operand) (ho : op.op = .store ty x y)
    (g : Nat) (hx : a.eval x = .pointer (some ⟨g, 0, none⟩)) (cells : Array Value) (hy : a.eval y = .agg cells) (t : TypeId) (old : Array Value) (hg : w.heap[g]? = some (.cells old t (0, 0)))
    (hi : (P.info? ty).map (·.size) = some cells.size) (hos : old.size = cells.size) (h1 : cells.all (·.oneCell') = true)
    (h : K (a.put op.dst undef) (w.setRow g cells)) : op.wp P a w K Q := by
  unfold Oper.wp execOp
  simp only [ho, hx, hy, Instr.storeAt, Instr.sureAddr, Sem.run_bind, Sem.run_pure, Result.andThen_ok, run_storeVar_row w g t ty old cells hg hi hos h1]
  exact h
theorem wpList_store_row {P : Program} {ops : Array Oper} {rest : List Oper} {op : Oper} {a : Act} {w : World} {Q : Exit → Act → World → Prop} (hgd : op.guard = none) (ty : TypeId) (x y : Operand) (ho : op.op = .store ty x y)
    (g : Nat) (hx : a.eval x = .pointer (some ⟨g, 0, none⟩)) (cells : Array Value) (hy : a.eval y = .agg cells) (t : TypeId) (old : Array Value) (hg : w.heap[g]? = some (.cells old t (0, 0)))
    (hi : (P.info? ty).map (·.size) = some cells.size) (hos : old.size = cells.size) (h1 : cells.all (·.oneCell') = true)
    (h : wpList P ops Q rest (a.put op.dst undef) (w.setRow g cells)) : wpList P ops Q (op :: rest) a w :=
  wpList_plain hgd fun _ hK => by
    unfold Oper.wp execOp
    simp only [ho, hx, hy, Instr.storeAt, Instr.sureAddr, Sem.run_bind, Sem.run_pure, Result.andThen_ok, run_storeVar_row w g t ty old cells hg hi hos h1]
    exact hK _ _ h
theorem setRow_other {w : World} {g k : Nat} {cs : Array Value} (h : k ≠ g) : (w.setRow g cs).heap[k]? = w.heap[k]? := by
  simp only [World.setRow, Array.getElem?_modify]
  rw [if_neg (fun e => h e.symm)]
theorem setRow_size (w : World) (g : Nat) (cs : Array Value) : (w.setRow g cs).heap.size = w.heap.size := by simp [World.setRow]
theorem below_setRow {n g : Nat} {w W : World} (h : Below n w W) (hn : n ≤ g) (cs : Array Value) : Below n w (W.setRow g cs) :=
  ⟨h.os, h.tape, h.output, by rw [setRow_size]; exact h.size, fun k hk => (setRow_other (by omega)).trans (h.block k hk)⟩
theorem info_105 : (Tryz.prog.info? 105).map (·.size) = some 16 := by kernel_rfl
theorem info_110 : (Tryz.prog.info? 110).map (·.size) = some 17 := by kernel_rfl
theorem info_112 : (Tryz.prog.info? 112).map (·.size) = some 18 := by kernel_rfl
theorem und_105 : Tryz.prog.underlying 105 = some (.array 16 5) := by kernel_rfl
theorem row_110 : (Tryz.prog.underlying 110).map (·.isRow) = some true := by kernel_rfl
theorem row_112 : (Tryz.prog.underlying 112).map (·.isRow) = some true := by kernel_rfl
theorem und_of {P : Program} {t : TypeId} (h : (P.underlying t).map (·.isRow) = some true) : ∃ d, P.underlying t = some d ∧ d.isRow = true := by
  cases hq : P.underlying t with
  | none => rw [hq] at h; cases h
  | some d => rw [hq] at h; exact ⟨d, rfl, Option.some.inj h⟩
theorem wpList_load110 {ops : Array Oper} {rest : List Oper} {o : Oper} {a : Act} {w : World} {Q : Exit → Act → World → Prop} (hgd : o.guard = none) (x : Operand) (ho : o.op = .load 110 x)
    (b f : Nat) (hx : a.eval x = .pointer (some ⟨b, f, none⟩)) (cs : List Value) (hc : w.rangeAt b f cs) (hl : cs.length = 17)
    (h : wpList Tryz.prog ops Q rest (a.put o.dst (.agg cs.toArray)) w) : wpList Tryz.prog ops Q (o :: rest) a w := by
  obtain ⟨d, hd, hr⟩ := und_of row_110
  exact wpList_load_mid hgd 110 x ho b f hx cs d hc hd hr (by rw [info_110, hl]) h
theorem wpList_load112 {ops : Array Oper} {rest : List Oper} {o : Oper} {a : Act} {w : World} {Q : Exit → Act → World → Prop} (hgd : o.guard = none) (x : Operand) (ho : o.op = .load 112 x)
    (b f : Nat) (hx : a.eval x = .pointer (some ⟨b, f, none⟩)) (cs : List Value) (hc : w.rangeAt b f cs) (hl : cs.length = 18)
    (h : wpList Tryz.prog ops Q rest (a.put o.dst (.agg cs.toArray)) w) : wpList Tryz.prog ops Q (o :: rest) a w := by
  obtain ⟨d, hd, hr⟩ := und_of row_112
  exact wpList_load_mid hgd 112 x ho b f hx cs d hc hd hr (by rw [info_112, hl]) h
theorem wpList_load105 {ops : Array Oper} {rest : List Oper} {o : Oper} {a : Act} {w : World} {Q : Exit → Act → World → Prop} (hgd : o.guard = none) (x : Operand) (ho : o.op = .load 105 x)
    (b f : Nat) (hx : a.eval x = .pointer (some ⟨b, f, none⟩)) (cs : List Value) (hc : w.rangeAt b f cs) (hl : cs.length = 16)
    (h : wpList Tryz.prog ops Q rest (a.put o.dst (.agg cs.toArray)) w) : wpList Tryz.prog ops Q (o :: rest) a w :=
  wpList_load_mid hgd 105 x ho b f hx cs _ hc und_105 rfl (by rw [info_105, hl]) h
theorem range_row {w : World} {b : Nat} {cs : List Value} {t : TypeId} {fr : Nat × Nat} (h : w.heap[b]? = some (.cells cs.toArray t fr)) : w.rangeAt b 0 cs := fun j v hv => by
  rw [Nat.zero_add, cell_of_row w b j _ _ fr h]
  simpa using hv
theorem results_row1 {P : Program} {fn : Func} {p : Tmp} {ty : TypeId} (h : fn.results = #[.cell p ty]) (tmps : Array Value) (w : World) (g : Nat) (t : TypeId) (cs : List Value) (fr : Nat × Nat)
    (hp : tmps.getD p undef = .pointer (some ⟨g, 0, none⟩)) (hg : w.heap[g]? = some (.cells cs.toArray t fr)) (hu : (P.underlying ty).map (·.isRow) = some true) (hi : (P.info? ty).map (·.size) = some cs.length) :
    (results fn tmps).run P w = .ok (.agg cs.toArray) w := by
  obtain ⟨d, hd, hr⟩ := und_of hu
  have hp' : tmps[p]?.getD undef = .pointer (some ⟨g, 0, none⟩) := by simpa using hp
  simp [results, h, hp', asAddr, run_loadVar_mid w g 0 ty cs d (range_row hg) hd hr hi]
theorem results_row2 {P : Program} {fn : Func} {p q : Tmp} {ty : TypeId} (h : fn.results = #[.cell p ty, .tmp q]) (tmps : Array Value) (w : World) (g : Nat) (t : TypeId) (cs : List Value) (fr : Nat × Nat)
    (hp : tmps.getD p undef = .pointer (some ⟨g, 0, none⟩)) (hg : w.heap[g]? = some (.cells cs.toArray t fr)) (hu : (P.underlying ty).map (·.isRow) = some true) (hi : (P.info? ty).map (·.size) = some cs.length) :
    (results fn tmps).run P w = .ok (.tuple #[.agg cs.toArray, tmps.getD q undef]) w := by
  obtain ⟨d, hd, hr⟩ := und_of hu
  have hp' : tmps[p]?.getD undef = .pointer (some ⟨g, 0, none⟩) := by simpa using hp
  simp [results, h, hp', asAddr, run_loadVar_mid w g 0 ty cs d (range_row hg) hd hr hi]
theorem fold_get : ∀ (sv : List Value) (n : Nat) (A : Array Value) (i : Nat), n + sv.length ≤ A.size → (List.foldl (fun cs x => cs.setIfInBounds x.snd x.fst) A (sv.zipIdx n))[i]? = if n ≤ i ∧ i < n + sv.length then sv[i - n]? else A[i]?
  | [], n, A, i, _ => by
    simp only [List.zipIdx_nil, List.foldl_nil, List.length_nil]
    rw [if_neg (by omega)]
  | v :: sv, n, A, i, h => by
    simp only [List.length_cons] at h
    rw [List.zipIdx_cons, List.foldl_cons, fold_get sv (n + 1) _ i (by rw [Array.size_setIfInBounds]; omega)]
    simp only [List.length_cons]
    by_cases h1 : i = n
    · subst h1
      rw [if_neg (by omega), if_pos (by omega), Array.getElem?_setIfInBounds, if_pos rfl, if_pos (by omega)]
      simp
    · by_cases h2 : n + 1 ≤ i ∧ i < n + 1 + sv.length
      · rw [if_pos h2, if_pos (by omega), show i - n = (i - (n + 1)) + 1 from by omega, List.getElem?_cons_succ]
      · rw [if_neg h2, if_neg (by omega), Array.getElem?_setIfInBounds, if_neg (by omega)]
theorem fold_all {sv : List Value} {A : Array Value} {x : Value} (hA : A.size = sv.length + 1) (hx : A[sv.length]? = some x) : List.foldl (fun cs x => cs.setIfInBounds x.snd x.fst) A sv.zipIdx = (sv ++ [x]).toArray := by
  apply Array.ext_getElem?
  intro i
  rw [fold_get sv 0 A i (by omega)]
  simp only [List.getElem?_toArray]
  by_cases h : i < sv.length
  · rw [if_pos (by omega), List.getElem?_append_left h]; simp
  · rw [if_neg (by omega), List.getElem?_append_right (by omega)]
    by_cases h2 : i = sv.length
    · subst h2; rw [hx]; simp
    · rw [Array.getElem?_eq_none (by omega), List.getElem?_eq_none (by simp; omega)]
theorem fold17 {sv : List Value} (hs : sv.length = 16) (x : Value) : List.foldl (fun cs x => cs.setIfInBounds x.snd x.fst) (#[.int .u8 0, .int .u8 0, .int .u8 0, .int .u8 0, .int .u8 0, .int .u8 0, .int .u8 0, .int .u8 0, .int .u8 0, .int .u8 0, .int .u8 0, .int .u8 0, .int .u8 0, .int .u8 0, .int .u8 0, .int .u8 0, x] : Array Value) sv.zipIdx = (sv ++ [x]).toArray := fold_all (by rw [hs]; rfl) (by rw [hs]; rfl)
theorem fold18 {sv : List Value} (hs : sv.length = 17) (x : Value) : List.foldl (fun cs x => cs.setIfInBounds x.snd x.fst) (#[.int .u8 0, .int .u8 0, .int .u8 0, .int .u8 0, .int .u8 0, .int .u8 0, .int .u8 0, .int .u8 0, .int .u8 0, .int .u8 0, .int .u8 0, .int .u8 0, .int .u8 0, .int .u8 0, .int .u8 0, .int .u8 0, .nilIface, x] : Array Value) sv.zipIdx = (sv ++ [x]).toArray := fold_all (by rw [hs]; rfl) (by rw [hs]; rfl)
set_option maxHeartbeats 4000000 in
set_option maxRecDepth 100000 in
theorem trieNew (w : World) (sv : List Value) (hs : sv.length = 16) (ho : ∀ v ∈ sv, v.oneCell' = true) : Calls Tryz.prog 165 #[.agg sv.toArray] w fun e w' => e = .returned (.agg (sv ++ [Value.nilIface]).toArray) ∧ Below w.heap.size w w' := by
  have hz : sv.toArray.size = 16 := by simpa using hs
  have r0 : (w.alloc (.cells sv.toArray 105)).heap[w.heap.size]? = some (.cells sv.toArray 105) := heap_alloc_new _ _
  have R0 := Lib.hid (range_row r0)
  have hf := fold17 hs .nilIface
  have hl : (sv ++ [Value.nilIface]).length = 17 := by simp [hs]
  have h1 : (sv ++ [Value.nilIface]).toArray.all (·.oneCell') = true := all_oneCell_toArray (fun v hv => by
    rcases List.mem_append.1 hv with h | h
    · exact ho v h
    · simp at h; subst h; rfl)
  go_enter Tryz.func165, Tryz.ntmps165
  go_wp2_with first
    | (refine wpList_load105 rfl _ rfl _ 0 rfl sv (World.rangeAt_alloc R0.out _) hs ?_)
    | (refine wpList_store_row rfl 110 _ _ rfl (w.heap.size + 1) rfl (sv ++ [Value.nilIface]).toArray rfl 110 _ (heap_alloc2_new _ _ _) (by rw [info_110]; simp [hs]) (by simp [hs]) h1 ?_)
  refine bodyPost_ret (results_row1 rfl _ _ (w.heap.size + 1) 110 (sv ++ [Value.nilIface]) (0, 0) rfl (setRow_heap _ _ _ _ 110 (0, 0) (heap_alloc2_new _ _ _)) row_110 (by rw [info_110, hl])) rfl ⟨rfl, ?_⟩
  exact below_setRow (((Below.refl _ w).alloc (Nat.le_refl _) _).alloc (by simp) _) (by omega) _
structure IsTrie (w : World) (D : Nat → Prop) (s : List UInt8) (n : Option N) (cv : List Value) : Prop where
  len : s.length = 16
  root : ∃ x, cv = s.map bv ++ [x] ∧ NodeAt w D n x
theorem NodeAt.keep_row {w : World} {D : Nat → Prop} {n : N} {v : Value} {g : Nat} {cs cs' : Array Value} {t : TypeId} {fr : Nat × Nat} (h : N.At w D n v) (hr : w.heap[g]? = some (.cells cs t fr)) (hg : ¬ D g) : N.At (w.setRow g cs') D n v :=
  N.At.keep (by rw [setRow_size]; exact Nat.le_refl _) (fun k _ hd => setRow_other (fun e => hg (by rw [← e]; exact hd))) h
theorem NodeAt.one {w : World} {D : Nat → Prop} {n : Option N} {x : Value} (h : NodeAt w D n x) : x.oneCell' = true := by
  cases n with
  | none => have h : x = .nilIface := h; subst h; rfl
  | some n => obtain ⟨b, rfl, _⟩ := N.At.form (show N.At w D n x from h); rfl
theorem bv_one (s : List UInt8) : ∀ v ∈ s.map bv, v.oneCell' = true := fun v hv => by
  obtain ⟨x, _, rfl⟩ := List.mem_map.1 hv; rfl
theorem trieNew' (w : World) (D : Nat → Prop) (s : List UInt8) (hs : s.length = 16) : Calls Tryz.prog 165 #[.agg (s.map bv).toArray] w fun e w' => ∃ cv, e = .returned (.agg cv.toArray) ∧ IsTrie w' D s none cv ∧ Below w.heap.size w w' :=
  (trieNew w (s.map bv) (by simpa using hs) (bv_one s)).mono fun e w' ⟨he, hb⟩ => ⟨_, he, ⟨hs, _, rfl, rfl⟩, hb⟩
set_option maxHeartbeats 4000000 in
set_option maxRecDepth 100000 in
theorem triePut (w : World) (D : Nat → Prop) (hD : ∀ j, w.heap.size ≤ j → D j) {mb : Option Nat} (ho : Off D mb) (hm2 : mb ≠ some 2) {vi c : Nat} (hm : Met w mb vi c) {kp vp : Option Addr} {kc vc : Nat} {k v : List UInt8} (hi : InP w mb kp vp kc vc k v) {n : Option N} {s : List UInt8} {cv : List Value} (ht : IsTrie w D s n cv) (hf : fitO n)
    (hvi : vi < 999980000000) (hci : c < 999980000000) (h2 : 2 < w.heap.size) (hT : TabAt 2 Lib.deBruijn32tab w) (hS : StartAt w) (hm0 : mb ≠ some 0) :
    Calls Tryz.prog 92 #[.agg cv.toArray, pairV kp kc k vp vc v, .pointer (mptr mb)] w fun e w' => ∃ cv', e = .returned (.tuple #[.agg cv'.toArray, .bool (intoO (hashM s k) k v n 0).2]) ∧ IsTrie w' D s (some (intoO (hashM s k) k v n 0).1) cv' ∧
      Met w' mb (vi + (intoSO (hashM s k) k n 0).1) (c + (intoSO (hashM s k) k n 0).2) ∧ w.grownBy w' mb := by
  obtain ⟨x, rfl, hx⟩ := ht.root
  have hs := ht.len
  have hh := hashM_lt s k
  obtain ⟨W3, hW3⟩ : ∃ W, W = ((w.alloc (.cells (s.map bv ++ [x]).toArray 110)).alloc (.cells #[.slice kp k.length kc, .slice vp v.length vc] 61)).alloc (.cells #[.int .u8 0, .int .u8 0, .int .u8 0, .int .u8 0, .int .u8 0, .int .u8 0, .int .u8 0, .int .u8 0, .int .u8 0, .int .u8 0, .int .u8 0, .int .u8 0, .int .u8 0, .int .u8 0, .int .u8 0, .int .u8 0, .nilIface] 110) := ⟨_, rfl⟩
  have hB : Below w.heap.size w W3 := by rw [hW3]; exact (((Below.refl _ w).alloc (Nat.le_refl _) _).alloc (by simp) _).alloc (by simp; omega) _
  have r0 : W3.heap[w.heap.size]? = some (.cells (s.map bv ++ [x]).toArray 110) := by rw [hW3, Below.heap_alloc _ _ _ (by simp; omega)]; exact heap_alloc2_old _ _ _
  have r1 : W3.heap[w.heap.size + 1]? = some (.cells #[.slice kp k.length kc, .slice vp v.length vc] 61) := by rw [hW3, Below.heap_alloc _ _ _ (by simp)]; exact heap_alloc2_new _ _ _
  have r2 : W3.heap[w.heap.size + 1 + 1]? = some (.cells #[.int .u8 0, .int .u8 0, .int .u8 0, .int .u8 0, .int .u8 0, .int .u8 0, .int .u8 0, .int .u8 0, .int .u8 0, .int .u8 0, .int .u8 0, .int .u8 0, .int .u8 0, .int .u8 0, .int .u8 0, .int .u8 0, .nilIface] 110) := by
    have := heap_alloc_new ((w.alloc (.cells (s.map bv ++ [x]).toArray 110)).alloc (.cells #[.slice kp k.length kc, .slice vp v.length vc] 61)) (.cells #[.int .u8 0, .int .u8 0, .int .u8 0, .int .u8 0, .int .u8 0, .int .u8 0, .int .u8 0, .int .u8 0, .int .u8 0, .int .u8 0, .int .u8 0, .int .u8 0, .int .u8 0, .int .u8 0, .int .u8 0, .int .u8 0, .nilIface] 110)
    rw [hW3]
    simpa using this
  have hml := hm.lt
  have n0 : mb ≠ some w.heap.size := fun e => by have := hml _ e; omega
  have n1 : mb ≠ some (w.heap.size + 1) := fun e => by have := hml _ e; omega
  have n2 : mb ≠ some (w.heap.size + 1 + 1) := fun e => by have := hml _ e; omega
  have hgB := grown_of_below hB mb
  have up : ∀ w', W3.grownBy w' mb → w.grownBy w' mb := fun w' hg => grown_trans hgB hg
  have HC := Lib.hid (show ∀ w', W3.grownBy w' mb → ((w'.rangeAt w.heap.size 0 (s.map bv) ∧ w'.cell? ⟨w.heap.size, 16, none⟩ = some x) ∧ w'.cell? ⟨w.heap.size + 1, 0, none⟩ = some (.slice kp k.length kc) ∧ w'.cell? ⟨w.heap.size + 1, 1, none⟩ = some (.slice vp v.length vc)) from fun w' hg => by
    have h0 := range_row (grown_row hg r0 n0)
    have h1 := grown_row hg r1 n1
    refine ⟨⟨fun j y hy => h0 j y (by rw [List.getElem?_append_left (List.getElem?_eq_some_iff.1 hy).1]; exact hy), ?_⟩, cell_of_row w' _ 0 _ _ (0, 0) h1, cell_of_row w' _ 1 _ _ (0, 0) h1⟩
    have := h0 16 x (by rw [List.getElem?_append_right (by simp [hs])]; simp [hs])
    simpa using this)
  have CHa := Lib.hid (show ∀ w', W3.grownBy w' mb → Calls Tryz.prog 166 #[.agg (s.map bv).toArray, .slice kp k.length kc] w' _ from fun w' hg => sipHash w' s k hs (hS.keep ((up w' hg).block 0 (by omega) (fun e => hm0 e.symm))) (Nat.lt_of_lt_of_le (by omega : 0 < w.heap.size) (up w' hg).size) (hi.grown (up w' hg)).ik.b (by have := hi.kl; omega))
  have hs3 : W3.heap.size = w.heap.size + 3 := by rw [hW3]; simp
  have ho' : Off (fun j => D j ∧ j ≠ w.heap.size + 1 + 1) mb := fun b hb h => ho b hb h.1
  have hx' : NodeAt w (fun j => D j ∧ j ≠ w.heap.size + 1 + 1) n x := hx.mono fun j hj hd => ⟨hd, by omega⟩
  have CG := Lib.hid (show ∀ w', W3.grownBy w' mb → Met w' mb vi c → Calls Tryz.prog 55 #[x, .int .u64 (hashM s k : Int), pairV kp kc k vp vc v, .pointer (mptr mb)] w' _ from fun w' hg hmm => graftPut w' (fun j => D j ∧ j ≠ w.heap.size + 1 + 1) (fun j hj => ⟨hD j (Nat.le_trans (up w' hg).size hj), by have := hg.size; omega⟩) ho' hm2 hmm (hi.grown (up w' hg)) (hx'.grown ho' (up w' hg)) hf hh hvi hci (Nat.lt_of_lt_of_le h2 (up w' hg).size) (tab_grown hT h2 hm2 (up w' hg)))
  have HM := Lib.hid (hm.below hB)
  have hu105 := und_105
  have hi105 : (Tryz.prog.info? 105).map (·.size) = some (s.map bv).length := by rw [info_105]; simp [hs]
  go_enter Tryz.func92, Tryz.ntmps92
  go_wp2_with fail
  rw [← hW3]
  clear hW3
  have hg0 := grown_dr W3 mb
  go_region_held3 (fun w' => (w'.rangeAt w.heap.size 0 (s.map bv) ∧ w'.cell? ⟨w.heap.size, 16, none⟩ = some x) ∧ w'.cell? ⟨w.heap.size + 1, 0, none⟩ = some (.slice kp k.length kc) ∧ w'.cell? ⟨w.heap.size + 1, 1, none⟩ = some (.slice vp v.length vc))
    (first | exact HC.out _ (by assumption) | fail)
    (first | (go_at_call 166; ((with_reducible refine (CHa.out _ hg0).mono ?_)); rintro e w5 ⟨rfl, hb5⟩; have HB5 := Lib.hid hb5; have hg5 := grown_step hg0 (grown_of_below hb5 mb); clear hb5) | (go_at_call 55; ((with_reducible refine (CG.out _ hg5 (HM.out.dr.below HB5.out)).mono ?_)); rintro e w6 ⟨t6, a6, rfl, hn6, hm6, hg6⟩; have HN6 := Lib.hid hn6; have HM6 := Lib.hid hm6; have hg6' := grown_step hg5 hg6; clear hn6 hm6) | fail)
  have hf17 := fold17 (sv := s.map bv) (by simpa using hs) .nilIface
  have R6 := Lib.hid (HC.out _ hg6').1.1
  have R2 := Lib.hid (grown_row hg6' r2 n2)
  have hl1 : (s.map bv ++ [ifp t6 a6]).length = 17 := by simp [hs]
  have h1 : (s.map bv ++ [ifp t6 a6]).toArray.all (·.oneCell') = true := all_oneCell_toArray (fun v hv => by
    rcases List.mem_append.1 hv with h | h
    · exact bv_one s v h
    · simp at h; subst h; rfl)
  go_wp2_with first
    | (refine wpList_load105 rfl _ rfl _ 0 rfl (s.map bv) R6.out (by simpa using hs) ?_)
    | (refine wpList_store_row rfl 110 _ _ rfl (w.heap.size + 1 + 1) rfl (s.map bv ++ [ifp t6 a6]).toArray rfl 110 _ R2.out (by rw [info_110]; simp [hs]) (by simp [hs]) h1 ?_)
  refine bodyPost_ret (results_row2 rfl _ _ (w.heap.size + 1 + 1) 110 (s.map bv ++ [ifp t6 a6]) (0, 0) rfl (setRow_heap _ _ _ _ 110 (0, 0) R2.out) row_110 (by rw [info_110, hl1])) rfl ⟨_, rfl, ⟨hs, _, rfl, ?_⟩, ?_, ?_⟩
  · exact (NodeAt.keep_row HN6.out R2.out (fun h => h.2 rfl)).mono fun j _ h => h.1
  · exact fun b hb => (setRow_other (fun e => n2 (by rw [hb, e]))).trans (HM6.out b hb)
  · have h := up _ hg6'
    exact ⟨h.os, h.tape, h.output, by rw [setRow_size]; exact h.size, fun j hj hne => (setRow_other (by omega)).trans (h.block j hj hne)⟩
def checkE (k v : List UInt8) : Nat := if 65536 < k.length ∨ 65536 < v.length then 4 else 0
set_option maxHeartbeats 1000000 in
set_option maxRecDepth 100000 in
theorem pairCheck (w : World) (kp vp : Option Addr) (kc vc : Nat) (k v : List UInt8) :
    Calls Tryz.prog 164 #[pairV kp kc k vp vc v] w fun e w' => e = .returned (.int .i64 (checkE k v : Int)) ∧ Below w.heap.size w w' := by
  have hb := (Below.refl _ w).alloc (Nat.le_refl _) (.cells #[.slice kp k.length kc, .slice vp v.length vc] 61)
  by_cases h1 : 65536 < k.length
  · have e : checkE k v = 4 := by unfold checkE; rw [if_pos (.inl h1)]
    have g1 : (65536 : Int) < (k.length : Int) := by omega
    rw [e]
    clear e
    go_enter Tryz.func164, Tryz.ntmps164
    go_wp2
    go_ret
    exact ⟨rfl, hb⟩
  · have g1 : ¬ (65536 : Int) < (k.length : Int) := by omega
    by_cases h2 : 65536 < v.length
    · have e : checkE k v = 4 := by unfold checkE; rw [if_pos (.inr h2)]
      have g2 : (65536 : Int) < (v.length : Int) := by omega
      rw [e]
      clear e
      go_enter Tryz.func164, Tryz.ntmps164
      go_wp2
      go_ret
      exact ⟨rfl, hb⟩
    · have e : checkE k v = 0 := by unfold checkE; rw [if_neg (by omega)]
      have g2 : ¬ (65536 : Int) < (v.length : Int) := by omega
      rw [e]
      clear e
      go_enter Tryz.func164, Tryz.ntmps164
      go_wp2
      go_ret
      exact ⟨rfl, hb⟩
end Go.Proofs.YtmbiiemlepfoaaaGreatDoor
namespace Go.Proofs.YtmbiiemlepfoaaaGreatDoor
open Go.RowKit
theorem row_lt {w : World} {b : Nat} {o : Obj} (h : w.heap[b]? = some o) : b < w.heap.size := by
  rcases Nat.lt_or_ge b w.heap.size with h1 | h1
  · exact h1
  · rw [Array.getElem?_eq_none h1] at h; cases h
theorem cell_same {w w2 : World} {a : Addr} (h : w2.heap[a.block]? = w.heap[a.block]?) : w2.cell? a = w.cell? a := by
  unfold World.cell?
  rw [h]
theorem frozen_same {w w2 : World} {a : Addr} (h : w2.heap[a.block]? = w.heap[a.block]?) : w2.frozen? a = w.frozen? a := by
  unfold World.frozen?
  rw [h]
structure OR (w : World) (B : Nat) (q : Option Addr) (d : Nat) (l : List UInt8) : Prop where
  cap : l.length ≤ d
  big : d ≤ maxLen
  nil : q = none → d = 0
  form : ∀ x, q = some x → x.spot = none
  row : ∀ x, q = some x → 0 < d → ∃ b o, x = ⟨b, o, none⟩ ∧ B ≤ b ∧ b < w.heap.size ∧ w.rangeAt b o (l.map bv) ∧ w.there b o d
theorem OR.none_ (w : World) (B : Nat) : OR w B none 0 [] := ⟨Nat.le_refl _, Nat.zero_le _, fun _ => rfl, fun x hx => (by cases hx), fun x hx => (by cases hx)⟩
theorem OR.of_own {w : World} {B : Nat} {q : Option Addr} {d : Nat} {l : List UInt8} (h : w.ownsRow B 5 1 (.slice q l.length d) l.length (l.map bv)) : OR w B q d l := by
  rcases h.2 with ⟨hv, hn⟩ | ⟨g, cap, cur, hv, hg, hh, hnc, hcm, hcs, ht⟩
  · injection hv with h1 h2 h3
    subst h1; subst h3
    obtain rfl : l = [] := List.eq_nil_of_length_eq_zero hn
    exact OR.none_ w B
  · injection hv with h1 h2 h3
    subst h1; subst h3
    refine ⟨hnc, hcm, fun h => by simp at h, fun x hx => (by cases hx; rfl), fun x hx hd => ⟨g, 0, (Option.some.inj hx).symm, hg, row_lt hh, fun j v hv => ?_, fun j hj => ⟨?_, ?_⟩⟩⟩
    · rw [Nat.zero_add, h.cellAt j (by have := (List.getElem?_eq_some_iff.1 hv).1; simp at this; omega)]
      exact hv
    · rw [Nat.zero_add, cell_of_row w g j cur _ (0, 0) hh]
      rw [Array.getElem?_eq_getElem (by omega)]
      rfl
    · rw [Nat.zero_add]
      exact h.frozenAt j
theorem OR.same {w w2 : World} {B : Nat} {q : Option Addr} {d : Nat} {l : List UInt8} (h : OR w B q d l) (hs : w.heap.size ≤ w2.heap.size) (hk : ∀ x, q = some x → 0 < d → w2.heap[x.block]? = w.heap[x.block]?) : OR w2 B q d l :=
  ⟨h.cap, h.big, h.nil, h.form, fun x hx hd => by
    obtain ⟨b, o, rfl, hB, hb, hr, ht⟩ := h.row x hx hd
    have hh : w2.heap[b]? = w.heap[b]? := hk _ hx hd
    exact ⟨b, o, rfl, hB, Nat.lt_of_lt_of_le hb hs, fun j v hv => (cell_same (a := ⟨b, o + j, none⟩) hh).trans (hr j v hv), fun j hj => by
      rw [cell_same (a := ⟨b, o + j, none⟩) hh, frozen_same (a := ⟨b, o + j, none⟩) hh]
      exact ht j hj⟩⟩
theorem OR.below {w w2 : World} {B : Nat} {q : Option Addr} {d : Nat} {l : List UInt8} (h : OR w B q d l) (hb : Below w.heap.size w w2) : OR w2 B q d l :=
  h.same hb.size fun x hx hd => by
    obtain ⟨b, o, rfl, _, hlt, _⟩ := h.row x hx hd
    exact hb.block b hlt
theorem OR.drop {w : World} {B : Nat} {q : Option Addr} {d : Nat} {l : List UInt8} (h : OR w B q d l) (k : Nat) (hk : k ≤ l.length) : OR w B (if d = k then q else q.map (·.add k)) (d - k) (l.drop k) := by
  have hc := h.cap
  have hb := h.big
  refine ⟨by rw [List.length_drop]; omega, by omega, fun hn => ?_, fun x hx => ?_, fun x hx hd => ?_⟩
  · split at hn
    · have := h.nil hn; omega
    · have : q = none := by cases q <;> simp_all
      have := h.nil this; omega
  · split at hx
    · exact h.form x hx
    · rcases q with _ | y
      · simp at hx
      · have hy := h.form y rfl
        obtain ⟨b, o, s⟩ := y
        subst hy
        simp [Addr.add_lit] at hx
        subst hx
        rfl
  · rw [if_neg (by omega)] at hx
    rcases q with _ | y
    · simp at hx
    · obtain ⟨b, o, rfl, hB, hlt, hr, ht⟩ := h.row y rfl (by omega)
      simp [Addr.add_lit] at hx
      subst hx
      refine ⟨b, o + k, rfl, hB, hlt, fun j v hv => ?_, fun j hj => ?_⟩
      · rw [List.map_drop, List.getElem?_drop] at hv
        rw [Nat.add_assoc]
        exact hr _ v hv
      · rw [Nat.add_assoc]
        exact ht (k + j) (by omega)
def Src (w : World) (S : Nat → Prop) (g : Nat) (l : List UInt8) (t : Nat) : Prop :=
  ∃ q d, w.heap[g]? = some (.cells #[.slice q l.length d, .int .i64 (t : Int)] 189) ∧ OR w 0 q d l ∧ S g ∧ ∀ x, q = some x → 0 < d → x.block ≠ g ∧ S x.block
theorem Src.lt {w : World} {S : Nat → Prop} {g : Nat} {l : List UInt8} {t : Nat} (h : Src w S g l t) : g < w.heap.size := by
  obtain ⟨q, d, h, _⟩ := h; exact row_lt h
theorem Src.mono {w : World} {S S' : Nat → Prop} {g : Nat} {l : List UInt8} {t : Nat} (h : Src w S g l t) (hs : ∀ k, k < w.heap.size → S k → S' k) : Src w S' g l t := by
  obtain ⟨q, d, h1, h2, h3, h4⟩ := h
  refine ⟨q, d, h1, h2, hs _ (row_lt h1) h3, fun x hx hd => ⟨(h4 x hx hd).1, hs _ ?_ (h4 x hx hd).2⟩⟩
  obtain ⟨b, o, rfl, _, hlt, _⟩ := h2.row x hx hd
  exact hlt
structure Kept (w w' : World) (T : Nat → Prop) : Prop where
  os : w'.os = w.os
  tape : w'.tape = w.tape
  output : w'.output = w.output
  size : w.heap.size ≤ w'.heap.size
  block : ∀ k, k < w.heap.size → ¬ T k → w'.heap[k]? = w.heap[k]?
theorem Kept.of_below {w w' : World} {T : Nat → Prop} (h : Below w.heap.size w w') : Kept w w' T := ⟨h.os, h.tape, h.output, h.size, fun k hk _ => h.block k hk⟩
theorem Kept.to_below {w w' : World} {T : Nat → Prop} {B : Nat} (h : Kept w w' T) (hT : ∀ k, T k → B ≤ k) (hB : B ≤ w.heap.size) : Below B w w' :=
  ⟨h.os, h.tape, h.output, h.size, fun k hk => h.block k (by omega) (fun ht => by have := hT k ht; omega)⟩
theorem Kept.mono {w w' : World} {T T' : Nat → Prop} (h : Kept w w' T) (ht : ∀ k, T k → T' k) : Kept w w' T' := ⟨h.os, h.tape, h.output, h.size, fun k hk hn => h.block k hk (fun hh => hn (ht k hh))⟩
theorem Kept.trans {w w1 w2 : World} {T : Nat → Prop} (h : Kept w w1 T) (h' : Kept w1 w2 T) : Kept w w2 T :=
  ⟨h'.os.trans h.os, h'.tape.trans h.tape, h'.output.trans h.output, Nat.le_trans h.size h'.size, fun k hk hn => (h'.block k (Nat.lt_of_lt_of_le hk h.size) hn).trans (h.block k hk hn)⟩
theorem Src.kept {w w2 : World} {S T : Nat → Prop} {g : Nat} {l : List UInt8} {t : Nat} (h : Src w S g l t) (hk : Kept w w2 T) (hd : ∀ k, S k → ¬ T k) : Src w2 S g l t := by
  obtain ⟨q, d, h1, h2, h3, h4⟩ := h
  refine ⟨q, d, (hk.block g (row_lt h1) (hd g h3)).trans h1, h2.same hk.size fun x hx hd' => ?_, h3, h4⟩
  obtain ⟨b, o, rfl, _, hlt, _⟩ := h2.row x hx hd'
  exact hk.block b hlt (hd b (h4 _ hx hd').2)
theorem Src.below {w w2 : World} {S : Nat → Prop} {g : Nat} {l : List UInt8} {t : Nat} (h : Src w S g l t) (hb : Below w.heap.size w w2) : Src w2 S g l t :=
  h.kept (T := fun _ => False) (Kept.of_below hb) (fun _ _ hf => hf)
theorem IsB.front {w : World} {p : Option Addr} {c : Nat} {l : List UInt8} (h : IsB w p c l) (m : Nat) (hm : m ≤ l.length) : IsB w p c (l.take m) :=
  ⟨by rw [List.length_take]; have := h.cap; omega, h.nil, h.big, fun hl => by
    rw [List.length_take] at hl
    obtain ⟨b, o, hp, hb, hc⟩ := h.cells (by omega)
    refine ⟨b, o, hp, hb, fun i x hx => hc i x ?_⟩
    rw [List.getElem?_take] at hx
    split at hx
    · exact hx
    · cases hx⟩
structure NewS (w w' : World) (g : Nat) (l : List UInt8) : Prop where
  src : Src w' (fun k => w.heap.size ≤ k) g l 0
  below : Below w.heap.size w w'
theorem new_tail {w w1 : World} {q : Option Addr} {d : Nat} {l : List UInt8} (hown : w1.ownsRow w.heap.size 5 1 (.slice q l.length d) l.length (l.map bv)) (hbel : Below w.heap.size w w1) :
    NewS w (w1.alloc (.cells #[.slice q l.length d, .int .i64 0] 189)) w1.heap.size l := by
  have hs := hbel.size
  have ho := (OR.of_own hown)
  refine ⟨⟨q, d, heap_alloc_new w1 _, ⟨ho.cap, ho.big, ho.nil, ho.form, ?_⟩, hs, fun x hx hd => ?_⟩, hbel.alloc hs _⟩
  · intro x hx hd
    obtain ⟨b, o, h1, h2, h3, h4⟩ := (ho.below ((Below.refl _ w1).alloc (Nat.le_refl _) _)).row x hx hd
    exact ⟨b, o, h1, Nat.zero_le _, h3, h4⟩
  · obtain ⟨b, o, rfl, h2, h3, h4⟩ := ho.row x hx hd
    exact ⟨Nat.ne_of_lt h3, h2⟩
set_option maxHeartbeats 1000000 in
set_option maxRecDepth 100000 in
theorem srcNew (w : World) {p : Option Addr} {c : Nat} {l : List UInt8} (h : IsB w p c l) :
    Calls Tryz.prog 30 #[.slice p l.length c] w fun e w' => ∃ g, e = .returned (.pointer (some ⟨g, 0, none⟩)) ∧ NewS w w' g (l.take 16777216) := by
  have hcap := h.cap
  by_cases hl : l.length ≤ 16777216
  · have gl : (l.length : Int) ≤ 16777216 := by omega
    rw [List.take_of_length_le hl]
    have HC := Lib.hid (clone w h (by omega))
    have n1 : (l.length : Int) ≤ (c : Int) := by omega
    clear h
    go_enter Tryz.func30, Tryz.ntmps30
    go_wp2_with fail
    refine HC.out.mono ?_
    rintro e w1 ⟨v, rfl, hown, hbel⟩
    obtain ⟨q, d, rfl⟩ := own_slice hown
    have HT := Lib.hid (new_tail hown hbel)
    clear hown hbel
    go_wp2
    go_ret
    exact ⟨_, rfl, HT.out⟩
  · have gl : ¬ (l.length : Int) ≤ 16777216 := by omega
    have hlen : (l.take 16777216).length = 16777216 := by rw [List.length_take]; omega
    have hc := clone w (h.front 16777216 (by omega)) (by rw [hlen]; omega)
    have HT : Hid (∀ (w1 : World) (q : Option Addr) (d : Nat), w1.ownsRow w.heap.size 5 1 (.slice q 16777216 d) (l.take 16777216).length ((l.take 16777216).map bv) → Below w.heap.size w w1 →
        NewS w (w1.alloc (.cells #[.slice q 16777216 d, .int .i64 0] 189)) w1.heap.size (l.take 16777216)) := fun w1 q d ho hb => by
      have := new_tail (q := q) (d := d) (l := l.take 16777216) (by rw [hlen] at ho ⊢; exact ho) hb
      rw [hlen] at this
      exact this
    generalize hX : l.take 16777216 = X at *
    rw [hlen] at hc
    have HC := Lib.hid hc
    have HL := Lib.hid hlen
    have n1 : (16777216 : Int) ≤ (c : Int) := by omega
    clear h hc hlen hX
    go_enter Tryz.func30, Tryz.ntmps30
    go_wp2_with fail
    refine HC.out.mono ?_
    rintro e w1 ⟨v, rfl, hown, hbel⟩
    have ho := hown
    rw [HL.out] at ho
    obtain ⟨q, d, rfl⟩ := own_slice ho
    have HT1 := Lib.hid (HT.out w1 q d hown hbel)
    clear hown hbel ho HT
    go_wp2
    go_ret
    exact ⟨_, rfl, HT1.out⟩
end Go.Proofs.YtmbiiemlepfoaaaGreatDoor
