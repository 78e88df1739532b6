/- bits.Map's All: its maker; its closure as an iterator. The walk of graft.With. The walks of graft.With (its node told), graft.fork. -/
import Derived.Test.YtmbiiemlepfoaaaGreatDoorFl07
import Derived.Test.YtmbiiemlepfoaaaGreatDoorFl05
import Derived.RangeFuncWrites
import Derived.RangeFuncKeeps
import Derived.Test.YtmbiiemlepfoaaaGreatDoorFl09
import Derived.Maps.AppendAt

namespace Go.Proofs.YtmbiiemlepfoaaaGreatDoor
open Go.RowKit Go.Shelf
set_option linter.unusedVariables false
attribute [local go_sem] Oper.semAt_some
theorem bitsAll (w : World) (m : Int) : Calls Tryz.prog 298 #[.int .u32 m] w fun e w' => e = .returned (.func (.func 322) #[] #[.pointer (some ⟨w.heap.size, 0, none⟩)]) ∧ w' = w.alloc (.cells #[.int .u32 m] 218) := by
  have hmf : ∀ (fn : Fn) (first cap : Array Value) (w : World), (Instr.makeFunc fn first cap).run Tryz.prog w = .ok (.func fn first cap) w := fun _ _ _ _ => rfl
  go_enter Tryz.func298, Tryz.ntmps298
  go_wp2
  go_ret
  exact ⟨rfl, rfl⟩
abbrev encB (x : Fin 32) : Array Value := #[.int .i64 (x.val : Int)]
theorem tab_keep {g : Nat} {tab : List Nat} {w w' : World} (h : TabAt g tab w) (hk : w'.heap[g]? = w.heap[g]?) : TabAt g tab w' := fun j hj => by
  rw [← h j hj]
  unfold World.cell?
  rw [hk]
set_option maxRecDepth 100000 in
set_option maxHeartbeats 4000000 in
theorem bitsSeq (w0 : World) {n₀ B m : Nat} (hm : m < 4294967296) (hB : w0.heap[B]? = some (.cells #[.int .u32 (m : Int)] 218)) (h2 : 2 < n₀) (hn : n₀ ≤ w0.heap.size) (hT : TabAt 2 Lib.deBruijn32tab w0) :
    SeqStopsK Fence.wide 2 Tryz.prog 322 #[.pointer (some ⟨B, 0, none⟩)] encB (Below n₀) (fun xs => xs.map (·.val) = bitsOf m) (fun _ => True) 33 w0 := by
  intro l J Jx W hW hJ hJx hY h0
  have hBl := row_ltT hB
  have c1 : W.cell? ⟨B, 0, none⟩ = some (.int .u32 (m : Int)) := (hW.cell (p := ⟨B, 0, none⟩) hBl).trans (cell_of_row w0 B 0 _ _ (0, 0) hB)
  have hT' : TabAt 2 Lib.deBruijn32tab W := tab_keep hT (hW.block 2 (by omega))
  have HT := Lib.hid hT'
  have hn' := hW.size
  have HJ := Lib.hid hJ
  have HJx := Lib.hid hJx
  have HY := Lib.hid hY
  have H0 := Lib.hid h0
  have HLEN : Hid (∀ pre : List (Fin 32), ∀ rest, pre.map (·.val) ++ rest = bitsOf m → pre.length < 33) := fun pre rest h => by
    have h1 := congrArg List.length h
    have h2 : (bitsOf m).length ≤ 32 := cnt_le 32 m
    rw [List.length_append, List.length_map] at h1
    omega
  clear hT hT' hJ hJx hY h0 hB hW
  refine callsIn_of_wp Tryz.func322 rfl trivial ?_ rfl
  simp only [Tryz.ntmps322, List.size_toArray, List.length_cons, List.length_nil, Nat.reduceAdd, Nat.reduceSub, Array.replicate_succ, Array.replicate_zero, List.push_toArray, List.append_toArray, List.nil_append, List.cons_append]
  gi_wp2
  gi_loopw [3] (fun v3 wr => ∃ (left : Nat) (pre : List (Fin 32)), v3 = .int .u32 (left : Int) ∧ left < 4294967296 ∧ Hid (pre.map (·.val) ++ bitsOf left = bitsOf m) ∧ Hid (J pre wr) ∧ Hid (Below n₀ W wr))
    (fun v3 _ => (intOf v3).toNat)
  case atStart => exact ⟨m, [], rfl, hm, rfl, H0.out, Below.refl _ _⟩
  case round =>
    obtain ⟨left, pre, rfl, hl, HP, HJp, HBW⟩ := hrel
    by_cases hz : left = 0
    · subst hz
      have HS := Lib.hid (show pre.map (·.val) = bitsOf m from by have := HP.out; rwa [bits_zero, List.append_nil] at this)
      gi_wp2
      go_end0
      exact ⟨⟨_, rfl⟩, .inl ⟨pre, HS.out, HJp.out⟩⟩
    · obtain ⟨hc32, hlt, hnext⟩ := bits_next hz hl
      have CT := Lib.hid (tz32 wr left hl hz (tab_keep HT.out (HBW.out.block 2 h2)))
      obtain ⟨c, hc⟩ : ∃ c, c = Lib.ctz 32 left := ⟨_, rfl⟩
      rw [← hc] at CT hc32 hnext
      have g0 : ((left : Int) != 0) = true := by simp; omega
      have g0' : ((left : Int) == 0) = false := by simp; omega
      have e1 : IntKind.u32.wrap ((left : Int) - 1) = ((left - 1 : Nat) : Int) := by rw [IntKind.wrap_u32]; omega
      have e1' : ((left : Int) - 1) % 4294967296 = ((left - 1 : Nat) : Int) := by omega
      have e2 := u32_and_nat left (left - 1) hl (by omega)
      have HP2 := Lib.hid (show (pre ++ [(⟨c, hc32⟩ : Fin 32)]).map (·.val) ++ bitsOf (left &&& (left - 1)) = bitsOf m from by
        have := HP.out
        rw [hnext] at this
        rw [List.map_append, List.append_assoc]
        exact this)
      have hlen := HLEN.out _ _ HP.out
      obtain ⟨nx, hnx⟩ : ∃ nx, nx = left &&& (left - 1) := ⟨_, rfl⟩
      rw [← hnx] at HP2 e2 hlt
      obtain ⟨fn, tmps, assign, body, hy, hR⟩ := HY.out pre ⟨c, hc32⟩ wr HJp.out hlen
      dsimp only [encB] at hy
      clear hc hnext hnx hlen
      gi_wp2_with fail
      gi_wp2_with (refine ⟨trivial, ?_⟩; ((with_reducible refine ((callsIn_wide (n := 1)).2 CT.out).mono ?_)); rintro e w2 ⟨rfl, rfl⟩)
      refine hR.mono ?_
      rintro e w4 (⟨rfl, hJ4, hk4⟩ | ⟨rfl, hJx4⟩)
      · have HJ4 := Lib.hid hJ4
        have HB4 := Lib.hid (HBW.out.trans hk4)
        clear hJ4 hk4 hR hy
        gi_wp2
        go_roundw
        case rel => exact ⟨nx, _, rfl, by omega, HP2, HJ4, HB4⟩
        case measure => simp [intOf]; omega
      · have HJ4 := Lib.hid hJx4
        clear hJx4 hR hy
        gi_wp2
        refine bodyPost_ret (results_none rfl _ _ _) rfl ?_
        exact ⟨⟨_, rfl⟩, .inr ⟨_, trivial, HJ4.out⟩⟩
def kidV (m : Nat) (vs : List Value) (c : Nat) : Value := if m.testBit c then vs.getD (cntUp c m) .nilIface else .nilIface
structure BrAt (w : World) (nb m : Nat) (vs : List Value) : Prop where
  row : ∃ p c n, w.heap[nb]? = some (branchRow m p vs.length c n) ∧ (0 < vs.length → ∃ b o, p = some ⟨b, o, none⟩ ∧ b < w.heap.size ∧ ∀ i x, vs[i]? = some x → w.cell? ⟨b, o + i, none⟩ = some x)
  len : vs.length = cntUp 32 m
  lt : m < 4294967296
theorem BrAt.below {w w' : World} {n₀ nb m : Nat} {vs : List Value} (h : BrAt w nb m vs) (hn : n₀ = w.heap.size) (hb : Below n₀ w w') : BrAt w' nb m vs := by
  subst hn
  obtain ⟨p, c, n, h1, h2⟩ := h.row
  exact ⟨⟨p, c, n, (hb.block nb (row_ltT h1)).trans h1, fun hl => by
    obtain ⟨b, o, hp, hbl, hc⟩ := h2 hl
    exact ⟨b, o, hp, Nat.lt_of_lt_of_le hbl hb.size, fun i x hx => (hb.cell (p := ⟨b, o + i, none⟩) hbl).trans (hc i x hx)⟩⟩, h.len, h.lt⟩
set_option maxHeartbeats 1000000 in
set_option maxRecDepth 100000 in
theorem nodeKidV (w : World) {nb m c : Nat} {vs : List Value} (h : BrAt w nb m vs) (hc : c < 32) :
    Calls Tryz.prog 103 #[ifp 308 nb, .int .i64 (c : Int)] w fun e w' => e = .returned (.tuple #[kidV m vs c, .bool (m.testBit c)]) ∧ ∃ n, w' = w.drewN n := by
  obtain ⟨p, pc, nn, hr, hv⟩ := h.row
  have hm := h.lt
  have hlen := h.len
  have q0 := ta308_308
  have c0 : w.cell? ⟨nb, 0, none⟩ = some (.int .u32 (m : Int)) := cell_of_row w nb 0 _ _ (0, 0) hr
  have c1 : w.cell? ⟨nb, 1, none⟩ = some (.slice p vs.length pc) := cell_of_row w nb 1 _ _ (0, 0) hr
  have CH := Lib.hid (fun w => bitsHas w m c hm hc)
  have CP := Lib.hid (fun w => bitsPlace w m c hm hc)
  unfold kidV
  by_cases hb : m.testBit c = true
  · rw [if_pos hb]
    rw [hb] at CH ⊢
    have hlt := cnt_lt hc hb
    have hi : cntUp c m < vs.length := by omega
    obtain ⟨pb, po, rfl, hpb, hcell⟩ := hv (by omega)
    have c2 := hcell _ _ (List.getElem?_eq_getElem hi)
    rw [show vs.getD (cntUp c m) .nilIface = vs[cntUp c m] from by simp [List.getD, hi]]
    generalize vs[cntUp c m] = v at *
    have g0 : (0 : Int) ≤ (cntUp c m : Int) := by omega
    have g1 : (cntUp c m : Int) < (vs.length : Int) := by omega
    generalize cntUp c m = i at *
    clear hcell hv hr hlen hlt h
    go_enter Tryz.func103, Tryz.ntmps103
    go_wp2_with (go_at_call 177; ((with_reducible refine (CH.out _).mono ?_)); rintro e w1 ⟨rfl, rfl⟩)
    go_quiet (first | (go_at_call 178; with_reducible exact quiet_left (CP.out _)) | fail)
    go_wp2
    go_ret2
    exact ⟨rfl, _, rfl⟩
  · have hb' : m.testBit c = false := by simpa using hb
    rw [hb', if_neg (by simp)]
    rw [hb'] at CH
    clear hv hr hlen h
    go_enter Tryz.func103, Tryz.ntmps103
    go_wp2_with (go_at_call 177; ((with_reducible refine (CH.out _).mono ?_)); rintro e w1 ⟨rfl, rfl⟩)
    go_ret2
    exact ⟨rfl, 0, rfl⟩
theorem collect_step {W w1 : World} {n₀ b5 kb k m : Nat} {v v' : Value} {xs ys : List Value} {tmp : Obj} (hv : Boxed W kb 310 v) (hrow : W.ownsRow b5 42 1 v k xs) (hkb : kb < b5) (hn0 : n₀ ≤ kb) (hb5 : b5 ≤ W.heap.size)
    (hown' : w1.ownsRow b5 42 1 v' m ys) (hgrow : (W.alloc tmp).grownBy w1 v.ownBlock) :
    Boxed w1 kb 310 v ∧ Boxed (w1.setCell ⟨kb, 0, none⟩ v') kb 310 v' ∧ (w1.setCell ⟨kb, 0, none⟩ v').ownsRow b5 42 1 v' m ys ∧ KeepsOthers W (w1.setCell ⟨kb, 0, none⟩ v') ∧ Below n₀ W (w1.setCell ⟨kb, 0, none⟩ v') ∧ ∀ j, j < b5 → j ≠ kb → (w1.setCell ⟨kb, 0, none⟩ v').heap[j]? = W.heap[j]? := by
  have hown0 : ∀ j, v.ownBlock = some j → b5 ≤ j := fun j h => (hrow.lt j h).1
  have hne : some kb ≠ v.ownBlock := fun e => by have := hown0 kb e.symm; omega
  have hv1 : Boxed w1 kb 310 v := (hv.alloc tmp).kept hgrow hne
  refine ⟨hv1, hv1.set v', hown'.kept (grownBy_setCell' w1 kb v') ?_, ?_, ?_, ?_⟩
  · rcases ho : v'.ownBlock with _ | j
    · exact .inl rfl
    · exact .inr fun e => by cases e; have := (hown'.lt _ ho).1; omega
  · refine ((KeepsOthers.alloc W tmp).trans (KeepsOthers.of_grownBy hgrow fun j o ej hj => ?_)).trans (KeepsOthers.setCell _ _ _)
    rcases (hrow.alloc tmp).2 with ⟨rfl, _⟩ | ⟨g, cap, cur, rfl, _, hgb, _⟩
    · simp [Value.ownBlock] at ej
    · obtain rfl : g = j := by simpa [Value.ownBlock] using ej
      rw [hgb] at hj; cases hj; rfl
  · exact (((Below.refl n₀ W).alloc (by omega) tmp).grown hgrow (by simp; omega) fun j ej => by have := hown0 j ej; omega).setCell (p := ⟨kb, 0, none⟩) hn0 v'
  · intro j hj hjk
    rw [Below.heap_setCell _ _ _ _ (fun e => hjk e), hgrow.block j (by simp; omega) (fun e => by have := hown0 j e.symm; omega)]
    exact Below.heap_alloc _ _ _ (by omega)
theorem kidV_form {vs : List Value} (h : ∀ v ∈ vs, ∃ t b, v = ifp t b) (m c : Nat) : kidV m vs c = .nilIface ∨ ∃ t b, kidV m vs c = ifp t b := by
  unfold kidV
  split
  · by_cases hl : cntUp c m < vs.length
    · right
      rw [show vs.getD (cntUp c m) .nilIface = vs[cntUp c m] from by simp [List.getD, hl]]
      exact h _ (List.getElem_mem hl)
    · left
      simp [List.getD, hl]
  · exact .inl rfl
def withV (m c : Nat) (vs : List Value) (kv : Value) (i : Nat) : Value := if i = c then kv else kidV m vs i
set_option maxHeartbeats 8000000 in
set_option maxRecDepth 100000 in
theorem graftWithV (w : World) (D : Nat → Prop) (hD : ∀ j, w.heap.size ≤ j → D j) {nb m c : Nat} {vs : List Value} {kt kb : Nat} (h : BrAt w nb m vs) (hc : c < 32) (h2 : 2 < w.heap.size) (hT : TabAt 2 Lib.deBruijn32tab w) (h1 : ∀ v ∈ vs, ∃ t b, v = ifp t b)
    (R : Ending → World → Prop)
    (CB : ∀ w' p c', Below w.heap.size w w' → IsVs w' (fun j => w.heap.size ≤ j) p c' ((bitsOf (m ||| 2 ^ c)).map (withV m c vs (ifp kt kb))) → Calls Tryz.prog 253 #[.int .u32 ((m ||| 2 ^ c : Nat) : Int), .slice p (bitsOf (m ||| 2 ^ c)).length c'] w' fun e w2 => (∃ v, e = .returned v) ∧ R e w2 ∧ Below w'.heap.size w' w2)
    (HR : ∀ v w' o o' l, R (.returned v) w' → w.heap.size ≤ l → w'.heap[l]? = some o → o.isCells = false → R (.returned v) (w'.putObj l o')) :
    Calls Tryz.prog 252 #[ifp 308 nb, .int .i64 (c : Int), ifp kt kb] w R := by
  obtain ⟨i0, hi, hz0, hz1, hz2⟩ := info_parts info42
  have hmm := or_lt32 h.lt hc
  have nm := fun (w' : World) (hb : Below w.heap.size w w') => show Calls Tryz.prog 102 #[ifp 308 nb] w' fun e w2 => e = .returned (.tuple #[.int .u32 (m : Int), .bool true]) ∧ w' = w2 from by
    obtain ⟨p, pc, nn, hr, hv⟩ := (h.below rfl hb).row
    have q0 := ta308_308
    have c0 : w'.cell? ⟨nb, 0, none⟩ = some (.int .u32 (m : Int)) := cell_of_row w' nb 0 _ _ (0, 0) hr
    clear hr hv
    go_enter Tryz.func102, Tryz.ntmps102
    go_wp2
    go_ret2
    exact ⟨rfl, rfl⟩
  have CM := Lib.hid nm
  have CW := Lib.hid (fun w => bitsWith w m c h.lt hc)
  have CA := Lib.hid (fun w => bitsAll w ((m ||| 2 ^ c : Nat) : Int))
  have HBR := Lib.hid h
  have HT := Lib.hid hT
  have HCB := Lib.hid CB
  have HHR := Lib.hid HR
  have HD := Lib.hid hD
  have H1 := Lib.hid h1
  clear nm h hT CB HR hD h1
  obtain ⟨m', hm'⟩ : ∃ m', m' = m ||| 2 ^ c := ⟨_, rfl⟩
  rw [← hm'] at CW CA HCB hmm
  clear hm'
  have hb0 : Below w.heap.size w (((w.alloc (.cells #[ifp 308 nb] 42)).alloc (.cells #[.int .i64 (c : Int)] 3)).alloc (.cells #[ifp kt kb] 42)) := (((Below.refl _ w).alloc (Nat.le_refl _) _).alloc (by simp) _).alloc (by simp; omega) _
  refine (callsIn_wide (n := 3)).1 ?_
  refine callsIn_of_wp_marks Tryz.func252 rfl trivial ?_ rfl
  simp only [Tryz.ntmps252, List.size_toArray, List.length_cons, List.length_nil, Nat.reduceAdd, Nat.reduceSub, Array.replicate_succ, Array.replicate_zero, List.push_toArray, List.append_toArray, List.nil_append, List.cons_append]
  gi_wp2_with first
    | (refine ⟨trivial, ?_⟩; ((with_reducible refine ((callsIn_wide).2 (CM.out _ hb0)).mono ?_)); rintro e w1 ⟨rfl, rfl⟩)
    | (refine ⟨trivial, ?_⟩; ((with_reducible refine ((callsIn_wide).2 (CW.out _)).mono ?_)); rintro e w1 ⟨rfl, rfl⟩)
    | (refine ⟨trivial, ?_⟩; ((with_reducible refine ((callsIn_wide).2 (CA.out _)).mono ?_)); rintro e w1 ⟨rfl, rfl⟩)
  obtain ⟨W0, hW0⟩ : ∃ x, x = ((((w.alloc (.cells #[ifp 308 nb] 42)).alloc (.cells #[.int .i64 (c : Int)] 3)).alloc (.cells #[ifp kt kb] 42)).alloc (.cells #[.slice none 0 0] 310)).alloc (.cells #[.int .u32 (m' : Int)] 218) := ⟨_, rfl⟩
  have hs : W0.heap.size = w.heap.size + 5 := by rw [hW0]; simp
  have hbw : Below w.heap.size w W0 := by rw [hW0]; exact (hb0.alloc (by simp; omega) _).alloc (by simp; omega) _
  have x0 : Boxed W0 w.heap.size 42 (ifp 308 nb) := by rw [hW0]; exact ((((Boxed.new w _ _).alloc _).alloc _).alloc _).alloc _
  have x1 : Boxed W0 (w.heap.size + 1) 3 (.int .i64 (c : Int)) := by rw [hW0]; have := Boxed.new (w.alloc (.cells #[ifp 308 nb] 42)) 3 (.int .i64 (c : Int)); rw [World.size_alloc] at this; exact ((this.alloc _).alloc _).alloc _
  have x2 : Boxed W0 (w.heap.size + 1 + 1) 42 (ifp kt kb) := by rw [hW0]; have := Boxed.new ((w.alloc (.cells #[ifp 308 nb] 42)).alloc (.cells #[.int .i64 (c : Int)] 3)) 42 (ifp kt kb); rw [World.size_alloc, World.size_alloc] at this; exact (this.alloc _).alloc _
  have x3 : Boxed W0 (w.heap.size + 1 + 1 + 1) 310 (.slice none 0 0) := by rw [hW0]; have := Boxed.new (((w.alloc (.cells #[ifp 308 nb] 42)).alloc (.cells #[.int .i64 (c : Int)] 3)).alloc (.cells #[ifp kt kb] 42)) 310 (.slice none 0 0); rw [World.size_alloc, World.size_alloc, World.size_alloc] at this; exact this.alloc _
  have x4 : Boxed W0 (w.heap.size + 1 + 1 + 1 + 1) 218 (.int .u32 (m' : Int)) := by rw [hW0]; have := Boxed.new ((((w.alloc (.cells #[ifp 308 nb] 42)).alloc (.cells #[.int .i64 (c : Int)] 3)).alloc (.cells #[ifp kt kb] 42)).alloc (.cells #[.slice none 0 0] 310)) 218 (.int .u32 (m' : Int)); rw [World.size_alloc, World.size_alloc, World.size_alloc, World.size_alloc] at this; exact this
  have SQ := bitsSeq W0 (n₀ := w.heap.size) hmm x4 h2 (by omega) (tab_keep HT.out (hbw.block 2 h2))
  rw [← hW0]
  clear hW0 hb0
  refine wpIn_rangeFunc_ownF rfl (by decide) (gf := 322) (lb := #[.pointer (some ⟨w.heap.size + 1 + 1 + 1 + 1, 0, none⟩)]) rfl trivial (enters_of Tryz.func322 (by kernel_rfl) rfl) SQ belowK_t (belowK_b (by omega)) (Below.refl _ _) (fun _ => rfl)
    (fun pre W => (∃ v, Boxed W (w.heap.size + 1 + 1 + 1) 310 v ∧ W.ownsRow (w.heap.size + 5) 42 1 v pre.length (pre.map fun x => withV m c vs (ifp kt kb) x.val) ∧ True) ∧ (Boxed W w.heap.size 42 (ifp 308 nb) ∧ (Boxed W (w.heap.size + 1) 3 (.int .i64 (c : Int)) ∧ (Boxed W (w.heap.size + 1 + 1) 42 (ifp kt kb) ∧ (Below w.heap.size w W ∧ w.heap.size + 5 ≤ W.heap.size)))))
    (fun _ _ _ => False)
    (OwnFrom.and (Own.from (holdsRow_own (w.heap.size + 5) (w.heap.size + 1 + 1 + 1) 310 42 1 (fun pre : List (Fin 32) => pre.length) (fun pre => pre.map fun x => withV m c vs (ifp kt kb) x.val) (fun _ _ => True)) _)
      (OwnFrom.and (Own.from (boxed_own w.heap.size 42 (fun _ => ifp 308 nb)) _) (OwnFrom.and (Own.from (boxed_own (w.heap.size + 1) 3 (fun _ => .int .i64 (c : Int))) _) (OwnFrom.and (Own.from (boxed_own (w.heap.size + 1 + 1) 42 (fun _ => ifp kt kb)) _) (OwnFrom.and (ownFrom_below (Nat.le_refl _) (by omega)) (fun _ _ _ _ hs hg _ => Nat.le_trans hs hg.size))))))
    (fun _ _ _ _ _ hs _ _ => hs)
    ⟨⟨_, x3, World.ownsRow_nil _ _ _ _, trivial⟩, x0, x1, x2, hbw, by omega⟩
    (fun x => { tmps := #[ifp 308 nb, Value.int IntKind.i64 ↑c, ifp kt kb, Value.pointer (some { block := w.heap.size, off := 0 }), Value.pointer (some { block := w.heap.size + 1, off := 0 }), Value.pointer (some { block := w.heap.size + 1 + 1, off := 0 }), Value.nilIface, Value.int IntKind.u32 ↑m', Value.bool true, Value.pointer (some { block := w.heap.size + 1 + 1 + 1, off := 0 }), Value.int IntKind.i64 ↑x.val, undef, undef, Value.tuple #[Value.int IntKind.u32 ↑m, Value.bool true], ifp 308 nb, Value.tuple #[Value.int IntKind.u32 ↑m, Value.bool true], Value.int IntKind.u32 ↑m, Value.bool true, Value.int IntKind.u32 ↑m, Value.int IntKind.i64 ↑c, Value.int IntKind.u32 ↑m', Value.int IntKind.u32 ↑m', Value.func (Fn.func 322) #[] #[Value.pointer (some { block := w.heap.size + 1 + 1 + 1 + 1, off := 0 })], Value.int IntKind.i64 ↑x.val, undef, undef, undef, undef, undef, undef, undef, undef, undef, undef, undef, undef, undef, undef, undef, undef, undef, undef, undef, undef], defers := [] }) ?assign ?body ?done ?stop
  case assign =>
    intro l x W K hK
    gi_wp2
    exact hK
  case body =>
    rintro l pre x W ⟨⟨v, hv, hrow, _⟩, y0, y1, y2, hB, hb5⟩ hlt
    have hWs := hB.size
    have hWz := x4.lt
    have hc0 := y0.cell
    have hc1 := y1.cell
    have hc2 := y2.cell
    have hc3 := hv.cell
    by_cases hxc : x.val = c
    · have g0 : ((x.val : Int) == (c : Int)) = true := by simp [hxc]
      have hf : withV m c vs (ifp kt kb) x.val = ifp kt kb := by unfold withV; rw [if_pos hxc]
      gi_wp2_with (gi_at_builtin; refine wpListIn_append_own _ rfl _ _ 310 rfl (w.heap.size + 5) 42 i0 .nilIface 1 16 Tryz.underlying310 hi hz0 hz1 hz2 rfl (by decide) _ _ _ rfl (hrow.alloc _) ⟨W.heap.size, 0, none⟩ 1 1 [ifp kt kb] rfl rfl (cell_one_new _ _ _) (by simp [Value.oneCell']) (by unfold maxLen; omega) (by omega) (by simp; omega) ?_; intro v' w1 hown' hgrow _; obtain ⟨g', cap', rfl⟩ := ownsRow_succ hown'; obtain ⟨hv1, hv2, hr2, hk2, hb2, hot⟩ := collect_step (n₀ := w.heap.size) hv hrow (by omega) (by omega) hb5 hown' hgrow; have hd1 := hv1.cell; have hd2 := hv1.frozen)
      exact ⟨hk2, hb2, ⟨_, hv2, by rw [List.length_append, List.map_append, List.map_cons, hf]; simpa using hr2, trivial⟩, (hot _ (by omega) (by omega)).trans y0, (hot _ (by omega) (by omega)).trans y1, (hot _ (by omega) (by omega)).trans y2, hB.trans hb2, Nat.le_trans hb5 hb2.size⟩
    · have g0 : ((x.val : Int) == (c : Int)) = false := by rw [beq_eq_false_iff_ne]; omega
      have hf : withV m c vs (ifp kt kb) x.val = kidV m vs x.val := by unfold withV; rw [if_neg hxc]
      have CKD := Lib.hid (nodeKidV W (HBR.out.below rfl hB) x.isLt)
      rcases kidV_form H1.out m x.val with hkv | ⟨t2, b2, hkv⟩
      · rw [hkv] at CKD hf
        gi_wp2_with first
          | (refine ⟨trivial, ?_⟩; ((with_reducible refine (CallsIn.inRound l ((callsIn_wide).2 CKD.out)).mono ?_)); rintro e w9 ⟨rfl, n9, rfl⟩; have hv' : Boxed (W.drewN n9) (w.heap.size + 1 + 1 + 1) 310 v := hv; have hrow' : (W.drewN n9).ownsRow (w.heap.size + 5) 42 1 v pre.length (pre.map fun x => withV m c vs (ifp kt kb) x.val) := hrow; have hc3' := hv'.cell)
          | (gi_at_builtin; refine wpListIn_append_own _ rfl _ _ 310 rfl (w.heap.size + 5) 42 i0 .nilIface 1 16 Tryz.underlying310 hi hz0 hz1 hz2 rfl (by decide) _ _ _ rfl (hrow'.alloc _) ⟨W.heap.size, 0, none⟩ 1 1 [.nilIface] rfl rfl (cell_one_new _ _ _) (by simp [Value.oneCell']) (by unfold maxLen; omega) (by omega) (by simp; omega) ?_; intro v' w1 hown' hgrow _; obtain ⟨g', cap', rfl⟩ := ownsRow_succ hown'; obtain ⟨hv1, hv2, hr2, hk2, hb2, hot⟩ := collect_step (n₀ := w.heap.size) hv' hrow' (by omega) (by omega) hb5 hown' hgrow; have hd1 := hv1.cell; have hd2 := hv1.frozen)
        exact ⟨⟨hk2.size, hk2.same⟩, (below_drewN _ W n9).trans hb2, ⟨_, hv2, by rw [List.length_append, List.map_append, List.map_cons, hf]; simpa using hr2, trivial⟩, (hot _ (by omega) (by omega)).trans y0, (hot _ (by omega) (by omega)).trans y1, (hot _ (by omega) (by omega)).trans y2, hB.trans ((below_drewN _ W n9).trans hb2), Nat.le_trans hb5 hb2.size⟩
      · rw [hkv] at CKD hf
        gi_wp2_with first
          | (refine ⟨trivial, ?_⟩; ((with_reducible refine (CallsIn.inRound l ((callsIn_wide).2 CKD.out)).mono ?_)); rintro e w9 ⟨rfl, n9, rfl⟩; have hv' : Boxed (W.drewN n9) (w.heap.size + 1 + 1 + 1) 310 v := hv; have hrow' : (W.drewN n9).ownsRow (w.heap.size + 5) 42 1 v pre.length (pre.map fun x => withV m c vs (ifp kt kb) x.val) := hrow; have hc3' := hv'.cell)
          | (gi_at_builtin; refine wpListIn_append_own _ rfl _ _ 310 rfl (w.heap.size + 5) 42 i0 .nilIface 1 16 Tryz.underlying310 hi hz0 hz1 hz2 rfl (by decide) _ _ _ rfl (hrow'.alloc _) ⟨W.heap.size, 0, none⟩ 1 1 [ifp t2 b2] rfl rfl (cell_one_new _ _ _) (by simp [Value.oneCell']) (by unfold maxLen; omega) (by omega) (by simp; omega) ?_; intro v' w1 hown' hgrow _; obtain ⟨g', cap', rfl⟩ := ownsRow_succ hown'; obtain ⟨hv1, hv2, hr2, hk2, hb2, hot⟩ := collect_step (n₀ := w.heap.size) hv' hrow' (by omega) (by omega) hb5 hown' hgrow; have hd1 := hv1.cell; have hd2 := hv1.frozen)
        exact ⟨⟨hk2.size, hk2.same⟩, (below_drewN _ W n9).trans hb2, ⟨_, hv2, by rw [List.length_append, List.map_append, List.map_cons, hf]; simpa using hr2, trivial⟩, (hot _ (by omega) (by omega)).trans y0, (hot _ (by omega) (by omega)).trans y1, (hot _ (by omega) (by omega)).trans y2, hB.trans ((below_drewN _ W n9).trans hb2), Nat.le_trans hb5 hb2.size⟩
  case done =>
    rintro D xs W hD hS ⟨⟨v, hv, hrow, _⟩, y0, y1, y2, hB, hb5⟩ hK
    have hm1 : (xs.map fun x => withV m c vs (ifp kt kb) x.val) = (bitsOf m').map (withV m c vs (ifp kt kb)) := by rw [← hS, List.map_map]; rfl
    have hl1 : xs.length = (bitsOf m').length := by have := congrArg List.length hS; rwa [List.length_map] at this
    rw [hm1, hl1] at hrow
    obtain ⟨q, d, rfl⟩ := own_slice hrow
    have hc3 := hv.cell
    have CBW := Lib.hid (HCB.out W q d hB (by have := IsVs.own (base := w.heap.size + 5) (D := fun j => w.heap.size ≤ j) (vs := (bitsOf m').map (withV m c vs (ifp kt kb))) (fun j hj => by omega) (by rw [List.length_map]; exact hrow); exact this))
    clear hm1 hrow
    gi_wp2_with (refine ⟨trivial, ?_⟩; ((with_reducible refine ((callsIn_wide).2 CBW.out).mono ?_)); rintro e w5 ⟨⟨rv, rfl⟩, hR5, hb5'⟩; have hK5 := (hb5'.block D (row_ltT hK)).trans hK)
    refine ⟨by simp, .inl ⟨_, _, rfl, run_takeDeferred hK5, ?_⟩⟩
    refine ⟨_, results_tmp rfl _ _ _, ?_⟩
    exact HHR.out rv w5 _ _ D hR5 (by omega) hK5 rfl
  case stop =>
    rintro D c pre W _ _ h _
    exact h.elim
end Go.Proofs.YtmbiiemlepfoaaaGreatDoor
namespace Go.Proofs.YtmbiiemlepfoaaaGreatDoor
open Go.RowKit
set_option linter.unusedVariables false
def CellsAt (w : World) (k : Nat) : Prop := ∃ cs t fr, w.heap[k]? = some (.cells cs t fr)
theorem IsD.mono2 {w : World} {D D' : Nat → Prop} {p : Option Addr} {c : Nat} {l : List UInt8} (h : IsD w D p c l) (hd : ∀ k, CellsAt w k → D k → D' k) : IsD w D' p c l :=
  ⟨h.b, fun a hp hl => by
    refine hd _ ?_ (h.d a hp hl)
    obtain ⟨b, o, h1, h2, hc⟩ := h.b.cells hl
    rw [hp] at h1
    cases h1
    have := hc 0 l[0] (List.getElem?_eq_getElem hl)
    unfold World.cell? at this
    dsimp only at this ⊢
    split at this
    · rename_i cs t fr hh; exact ⟨cs, t, fr, hh⟩
    · cases this⟩
theorem TreeAt.mono2 {w : World} {D D' : Nat → Prop} (hd : ∀ k, CellsAt w k → D k → D' k) : ∀ {t : T} {p : Option Addr}, TreeAt w D p t → TreeAt w D' p t
  | .nil, _, h => h
  | .node l k v r, _, h => by
    obtain ⟨b, kp, kc, vp, vc, lp, rp, hp, hb, hr, h1, h2, h3, h4⟩ := h
    exact ⟨b, kp, kc, vp, vc, lp, rp, hp, hd b ⟨_, _, _, hr⟩ hb, hr, h1.mono2 hd, h2.mono2 hd, TreeAt.mono2 hd h3, TreeAt.mono2 hd h4⟩
theorem IsVs.mono2 {w : World} {D D' : Nat → Prop} {p : Option Addr} {c : Nat} {vs : List Value} (h : IsVs w D p c vs) (hd : ∀ k, CellsAt w k → D k → D' k) : IsVs w D' p c vs :=
  ⟨h.cap, h.nil, h.big, fun hl => by
    obtain ⟨b, o, hp, hb, hdb, hc⟩ := h.cells hl
    refine ⟨b, o, hp, hb, hd b ?_ hdb, hc⟩
    have := hc 0 vs[0] (List.getElem?_eq_getElem hl)
    unfold World.cell? at this
    dsimp only at this ⊢
    split at this
    · rename_i cs t fr hh; exact ⟨cs, t, fr, hh⟩
    · cases this⟩
mutual
theorem N.At.mono2 {w : World} {D D' : Nat → Prop} (hd : ∀ k, CellsAt w k → D k → D' k) : ∀ {n : N} {x : Value}, N.At w D n x → N.At w D' n x
  | .leaf _ _ _, _, hx => by
    unfold N.At at hx ⊢
    obtain ⟨b, kp, kc, vp, vc, h1, h2, h3, h4, h5⟩ := hx
    exact ⟨b, kp, kc, vp, vc, h1, hd b ⟨_, _, _, h3⟩ h2, h3, h4.mono2 hd, h5.mono2 hd⟩
  | .bucket _ _, _, hx => by
    unfold N.At at hx ⊢
    obtain ⟨b, p, h1, h2, h3, h4⟩ := hx
    exact ⟨b, p, h1, hd b ⟨_, _, _, h3⟩ h2, h3, h4.mono2 hd⟩
  | .branch m ks, _, hx => by
    unfold N.At at hx ⊢
    obtain ⟨b, p, c, vs, h1, h2, h3, h4, h5⟩ := hx
    exact ⟨b, p, c, vs, h1, hd b ⟨_, _, _, h3⟩ h2, h3, h4.mono2 hd, N.Ats.mono2 hd h5⟩
theorem N.Ats.mono2 {w : World} {D D' : Nat → Prop} (hd : ∀ k, CellsAt w k → D k → D' k) : ∀ {ns : List N} {vs : List Value}, N.Ats w D ns vs → N.Ats w D' ns vs
  | [], _, hx => hx
  | n :: ns, _, hx => by
    unfold N.Ats at hx ⊢
    obtain ⟨v, vs', h1, h2, h3⟩ := hx
    exact ⟨v, vs', h1, N.At.mono2 hd h2, N.Ats.mono2 hd h3⟩
end
theorem N.At.putObj {w : World} {D : Nat → Prop} {n : N} {x : Value} (h : N.At w D n x) {l : Nat} {o : Obj} (o' : Obj) (hl : w.heap[l]? = some o) (ho : o.isCells = false) : N.At (w.putObj l o') D n x := by
  have h1 : N.At w (fun k => D k ∧ k ≠ l) n x := h.mono2 fun k ⟨cs, t, fr, hk⟩ hd => ⟨hd, fun e => by subst e; rw [hk] at hl; cases hl; cases ho⟩
  exact (h1.keep (by simp) fun k _ hd => World.putObj_heap_other hd.2).mono fun k _ hd => hd.1
def W1R (D : Nat → Prop) (n : N) (w : World) (e : Ending) (w' : World) : Prop := ∃ b, e = .returned (ifp 308 b) ∧ N.At w' D n (ifp 308 b) ∧ Below w.heap.size w w'
theorem br_of {w : World} {D : Nat → Prop} {m nb L : Nat} {ks : List N} (h : N.At w D (.branch m ks) (ifp 308 nb)) (hf : (N.branch m ks).fit L) : ∃ vs, BrAt w nb m vs ∧ N.Ats w D ks vs := by
  unfold N.At at h
  obtain ⟨b, p, c, vs, hx, hd, hr, hv, ha⟩ := h
  injection hx with _ hx
  injection hx with hx
  injection hx with hx
  injection hx with hx
  subst hx
  unfold N.fit at hf
  refine ⟨vs, ⟨⟨p, c, _, hr, fun hl => ?_⟩, by rw [ha.length, hf.2.2.1], hf.1⟩, ha⟩
  obtain ⟨pb, po, h1, h2, h3, h4⟩ := hv.cells hl
  exact ⟨pb, po, h1, h2, h4⟩
theorem ats_form {w : World} {D : Nat → Prop} {ks : List N} {vs : List Value} (h : N.Ats w D ks vs) : ∀ v ∈ vs, ∃ t b, v = ifp t b := by
  intro v hv
  obtain ⟨i, hi⟩ := List.getElem?_of_mem hv
  have hl := h.length
  have hil := (List.getElem?_eq_some_iff.1 hi).1
  obtain ⟨v', h1, h2⟩ := h.at_ (i := i) (List.getElem?_eq_getElem (by omega))
  rw [hi] at h1
  cases h1
  obtain ⟨b, hb, _⟩ := h2.form
  exact ⟨_, b, hb⟩
theorem with_ats {w : World} {D : Nat → Prop} {m c : Nat} {ks : List N} {vs : List Value} {k : N} {kv : Value} (ha : N.Ats w D ks vs) (hl : ks.length = cntUp 32 m) (hk : N.At w D k kv) : N.Ats w D (withN m ks c k) ((bitsOf (m ||| 2 ^ c)).map (withV m c vs kv)) := by
  apply N.ats_of
  · unfold withN; rw [List.length_map, List.length_map]
  · intro j n v hn hv
    obtain ⟨i, hi, rfl⟩ := with_at (i := 0) hn
    rw [List.getElem?_map, hi] at hv
    simp at hv
    subst hv
    unfold withV
    by_cases hic : i = c
    · rw [if_pos hic, if_pos hic]; exact hk
    · rw [if_neg hic, if_neg hic]
      obtain ⟨a1, a2⟩ := with_bits hi hic
      obtain ⟨n', hn'⟩ := with_old (c := c) hl a1 a2
      rw [hn']
      obtain ⟨v', h1, h2⟩ := ha.at_ hn'
      unfold kidV
      rw [if_pos a2]
      simp only [List.getD, h1, Option.getD_some]
      exact h2
theorem graftWith (w : World) (D : Nat → Prop) (hD : ∀ j, w.heap.size ≤ j → D j) {nb m c kt kb L : Nat} {ks : List N} {k : N} (hx : N.At w D (.branch m ks) (ifp 308 nb)) (hf : (N.branch m ks).fit L) (hc : c < 32) (hk : N.At w D k (ifp kt kb)) (h2 : 2 < w.heap.size) (hT : TabAt 2 Lib.deBruijn32tab w)
    (hsz : N.counts (withN m ks c k) < 4611686018427387904) :
    Calls Tryz.prog 252 #[ifp 308 nb, .int .i64 (c : Int), ifp kt kb] w (W1R D (.branch (m ||| 2 ^ c) (withN m ks c k)) w) := by
  obtain ⟨vs, hbr, ha⟩ := br_of hx hf
  have hl : ks.length = cntUp 32 m := by unfold N.fit at hf; exact hf.2.2.1
  have hne : withN m ks c k ≠ [] := by
    intro e
    have : c ∈ bitsOf (m ||| 2 ^ c) := mem_bitsUp.2 ⟨hc, by rw [with_bit]; simp⟩
    unfold withN at e
    rw [List.map_eq_nil_iff] at e
    rw [e] at this
    simp at this
  refine graftWithV w D hD hbr hc h2 hT (ats_form ha) _ ?_ ?_
  · intro w' p c' hb hv
    have hd : ∀ j, w'.heap.size ≤ j → D j := fun j hj => hD j (Nat.le_trans hb.size hj)
    have hlen : ((bitsOf (m ||| 2 ^ c)).map (withV m c vs (ifp kt kb))).length = (bitsOf (m ||| 2 ^ c)).length := List.length_map _
    have := nodeBranch w' D hd (m := m ||| 2 ^ c) hv (with_ats (ha.below hb) hl (hk.below hb)) (or_lt32 hbr.lt hc) (by unfold withN; rw [List.length_map]; rfl) hne hsz
    rw [hlen] at this
    refine this.mono ?_
    rintro e w2 ⟨b, rfl, hn, hb2⟩
    exact ⟨⟨_, rfl⟩, ⟨b, rfl, hn, below_step hb hb2⟩, hb2⟩
  · rintro v w' o o' l ⟨b, he, hn, hb⟩ hl2 ho hoc
    exact ⟨b, he, hn.putObj o' ho hoc, hb.grown (grownBy_putObj' w' l o') hb.size (fun k e => by cases e; exact hl2)⟩
theorem counts1 (a : N) : N.counts [a] = a.count := by simp [N.counts]
theorem counts2 (a b : N) : N.counts [a, b] = a.count + b.count := by simp [N.counts]
theorem fork_count : ∀ (f : Nat) (a : N) (g : Nat) (b : N) (h L : Nat), (forkN f a g b h L).count ≤ a.count + b.count
  | 0, a, g, b, h, L => by simp [forkN]
  | f + 1, a, g, b, h, L => by
    unfold forkN
    split
    · simp only [N.count, counts1]; exact fork_count f a g b h (L + 1)
    · split <;> simp only [N.count, counts2] <;> omega
theorem ats1 {w : World} {D : Nat → Prop} {a : N} {x : Value} (h : N.At w D a x) : N.Ats w D [a] [x] := by
  unfold N.Ats; exact ⟨x, [], rfl, h, rfl⟩
theorem ats2 {w : World} {D : Nat → Prop} {a b : N} {x y : Value} (h : N.At w D a x) (h' : N.At w D b y) : N.Ats w D [a, b] [x, y] := by
  unfold N.Ats; exact ⟨x, [y], rfl, h, ats1 h'⟩
set_option maxHeartbeats 2000000 in
set_option maxRecDepth 100000 in
theorem graftFork (D : Nat → Prop) {a b : N} {g h ta ba tb bb : Nat} (hg : g < 18446744073709551616) (hh : h < 18446744073709551616) (hct : a.count + b.count < 4611686018427387904) : ∀ (f L : Nat) (w : World) (hD : ∀ j, w.heap.size ≤ j → D j), N.At w D a (ifp ta ba) → N.At w D b (ifp tb bb) → L + f = 13 → (∃ j, L ≤ j ∧ j < 13 ∧ chunkM g j ≠ chunkM h j) →
    Calls Tryz.prog 185 #[ifp ta ba, .int .u64 (g : Int), ifp tb bb, .int .u64 (h : Int), .int .i64 (L : Int)] w (W1R D (forkN f a g b h L) w)
  | 0, L, w, hD, ha, hb, h13, ⟨j, h1, h2, _⟩ => by omega
  | f + 1, L, w, hD, ha, hb, h13, ⟨j, h1, h2, h3⟩ => by
    have CG := Lib.hid (fun w => chunkAt w g L hg)
    have CH := Lib.hid (fun w => chunkAt w h L hh)
    have hcg := chunkM_lt g L
    have hch := chunkM_lt h L
    unfold forkN
    by_cases e : chunkM g L = chunkM h L
    · rw [if_pos e]
      have hjL : j ≠ L := fun e' => h3 (by rw [e']; exact e)
      rw [← e] at CH
      have CO := Lib.hid (bitsOf1 (w.alloc (.cells #[.int .i64 (chunkM g L : Int)] 3)) w.heap.size (chunkM g L) hcg (cell_of_row _ _ 0 _ _ (0, 0) (heap_alloc_new w _)))
      have hb0 : Below w.heap.size w (w.alloc (.cells #[.int .i64 (chunkM g L : Int)] 3)) := (Below.refl _ w).alloc (Nat.le_refl _) _
      have CF := Lib.hid (graftFork D hg hh hct f (L + 1) (w.alloc (.cells #[.int .i64 (chunkM g L : Int)] 3)) (fun j hj => hD j (Nat.le_trans hb0.size hj)) (ha.below hb0) (hb.below hb0) (by omega) ⟨j, by omega, h2, h3⟩)
      rw [show ((L + 1 : Nat) : Int) = (L : Int) + 1 from by omega] at CF
      have hfc := fork_count f a g b h (L + 1)
      have CB := Lib.hid (fun (w' : World) (fb : Nat) (hw : Below w.heap.size w w') (hn : N.At w' D (forkN f a g b h (L + 1)) (ifp 308 fb)) => show Calls Tryz.prog 253 #[.int .u32 ((2 ^ chunkM g L : Nat) : Int), .slice (some ⟨w'.heap.size, 0, none⟩) 1 1] (w'.alloc (.cells #[ifp 308 fb] 42)) _ from
        nodeBranch (w'.alloc (.cells #[ifp 308 fb] 42)) D (fun j hj => hD j (by have := hw.size; simp at hj; omega)) (m := 2 ^ chunkM g L) (ks := [forkN f a g b h (L + 1)]) (vs := [ifp 308 fb]) (IsVs.row (D := fun _ => True) (b := w'.heap.size) (heap_alloc_new w' _) trivial (by simp [maxLen])) (ats1 (hn.below ((Below.refl _ _).alloc (Nat.le_refl _) _))) (pow_lt32 hcg) (by show 1 = (bitsOf _).length; rw [bits1 hcg]; rfl) (by simp) (by rw [counts1]; omega))
      have HB := Lib.hid hb0
      have g5 : IntKind.i64.wrap ((L : Int) + 1) = (L : Int) + 1 := IntWalk.i64_in _ (by omega)
      generalize chunkM g L = c at *
      generalize forkN f a g b h (L + 1) = fn at *
      generalize 2 ^ c = q at *
      clear ha hb hD hb0 hfc e h3
      go_enter Tryz.func185, Tryz.ntmps185
      go_wp2_with first
        | (go_at_call 104; first | (((with_reducible refine (CG.out _).mono ?_)); rintro e w1 ⟨rfl, rfl⟩) | (((with_reducible refine (CH.out _).mono ?_)); rintro e w1 ⟨rfl, rfl⟩) | fail)
        | (go_at_call 254; ((with_reducible refine (CO.out).mono ?_)); rintro e w1 ⟨rfl, rfl⟩)
        | (go_at_call 185; ((with_reducible refine (CF.out).mono ?_)); rintro e w2 ⟨fb, rfl, hn2, hb2⟩; have HN2 := Lib.hid hn2; have HB2 := Lib.hid (HB.out.trans (hb2.mono HB.out.size)); clear hn2 hb2)
        | (go_at_call 253; ((with_reducible refine (CB.out _ _ HB2.out HN2.out).mono ?_)); rintro e w3 ⟨rb, rfl, hn3, hb3⟩; have HN3 := Lib.hid hn3; have HB3 := Lib.hid hb3; clear hn3 hb3)
      go_ret
      exact ⟨_, rfl, HN3.out, (HB2.out.alloc HB2.out.size _).trans (HB3.out.mono (by have := HB2.out.size; simp; omega))⟩
    · rw [if_neg e]
      by_cases e2 : chunkM h L < chunkM g L
      · rw [if_pos e2]
        have hbt : bitsOf (2 ^ chunkM g L ||| 2 ^ chunkM h L) = [chunkM h L, chunkM g L] := by rw [Nat.or_comm]; exact bits2 e2 hcg
        have hm := Nat.or_lt_two_pow (n := 32) (pow_lt32 hcg) (pow_lt32 hch)
        have CO := Lib.hid (bitsOf2 (w.alloc (.cells #[.int .i64 (chunkM g L : Int), .int .i64 (chunkM h L : Int)] 3)) w.heap.size (chunkM g L) (chunkM h L) hcg hch (cell_of_row _ _ 0 _ _ (0, 0) (heap_alloc_new w _)) (cell_of_row _ _ 1 _ _ (0, 0) (heap_alloc_new w _)))
        have hb0 : Below w.heap.size w ((w.alloc (.cells #[.int .i64 (chunkM g L : Int), .int .i64 (chunkM h L : Int)] 3)).alloc (.cells #[ifp tb bb, ifp ta ba] 42)) := ((Below.refl _ w).alloc (Nat.le_refl _) _).alloc (by simp) _
        have CB := Lib.hid (show Calls Tryz.prog 253 #[.int .u32 ((2 ^ chunkM g L ||| 2 ^ chunkM h L : Nat) : Int), .slice (some ⟨w.heap.size + 1, 0, none⟩) 2 2] ((w.alloc (.cells #[.int .i64 (chunkM g L : Int), .int .i64 (chunkM h L : Int)] 3)).alloc (.cells #[ifp tb bb, ifp ta ba] 42)) _ from nodeBranch ((w.alloc (.cells #[.int .i64 (chunkM g L : Int), .int .i64 (chunkM h L : Int)] 3)).alloc (.cells #[ifp tb bb, ifp ta ba] 42)) D (fun j hj => hD j (by simp at hj; omega)) (m := 2 ^ chunkM g L ||| 2 ^ chunkM h L) (ks := [b, a]) (vs := [ifp tb bb, ifp ta ba]) (IsVs.row (D := fun _ => True) (b := w.heap.size + 1) (heap_alloc2_new w _ _) trivial (by simp [maxLen])) (ats2 (hb.below hb0) (ha.below hb0)) hm (by show 2 = (bitsOf _).length; rw [hbt]; rfl) (by simp) (by rw [counts2]; omega))
        have HB := Lib.hid hb0
        have g0 : ((chunkM g L : Int) == (chunkM h L : Int)) = false := by rw [beq_eq_false_iff_ne]; omega
        have g1 : (chunkM h L : Int) < (chunkM g L : Int) := by omega
        have g2 : decide (chunkM h L < chunkM g L) = true := by simpa using e2
        clear ha hb hD hb0 hbt h3 e
        generalize chunkM g L = c at *
        generalize chunkM h L = d at *
        go_enter Tryz.func185, Tryz.ntmps185
        go_wp2_with first
          | (go_at_call 104; first | (((with_reducible refine (CG.out _).mono ?_)); rintro e w1 ⟨rfl, rfl⟩) | (((with_reducible refine (CH.out _).mono ?_)); rintro e w1 ⟨rfl, rfl⟩) | fail)
          | (go_at_call 254; ((with_reducible refine (CO.out).mono ?_)); rintro e w1 ⟨rfl, rfl⟩)
          | (go_at_call 253; ((with_reducible refine (CB.out).mono ?_)); rintro e w3 ⟨rb, rfl, hn3, hb3⟩; have HN3 := Lib.hid hn3; have HB3 := Lib.hid hb3; clear hn3 hb3)
        go_ret
        exact ⟨_, rfl, HN3.out, HB.out.trans (HB3.out.mono HB.out.size)⟩
      · rw [if_neg e2]
        have e3 : chunkM g L < chunkM h L := by omega
        have hbt : bitsOf (2 ^ chunkM g L ||| 2 ^ chunkM h L) = [chunkM g L, chunkM h L] := bits2 e3 hch
        have hm := Nat.or_lt_two_pow (n := 32) (pow_lt32 hcg) (pow_lt32 hch)
        have CO := Lib.hid (bitsOf2 (w.alloc (.cells #[.int .i64 (chunkM g L : Int), .int .i64 (chunkM h L : Int)] 3)) w.heap.size (chunkM g L) (chunkM h L) hcg hch (cell_of_row _ _ 0 _ _ (0, 0) (heap_alloc_new w _)) (cell_of_row _ _ 1 _ _ (0, 0) (heap_alloc_new w _)))
        have hb0 : Below w.heap.size w ((w.alloc (.cells #[.int .i64 (chunkM g L : Int), .int .i64 (chunkM h L : Int)] 3)).alloc (.cells #[ifp ta ba, ifp tb bb] 42)) := ((Below.refl _ w).alloc (Nat.le_refl _) _).alloc (by simp) _
        have CB := Lib.hid (show Calls Tryz.prog 253 #[.int .u32 ((2 ^ chunkM g L ||| 2 ^ chunkM h L : Nat) : Int), .slice (some ⟨w.heap.size + 1, 0, none⟩) 2 2] ((w.alloc (.cells #[.int .i64 (chunkM g L : Int), .int .i64 (chunkM h L : Int)] 3)).alloc (.cells #[ifp ta ba, ifp tb bb] 42)) _ from nodeBranch ((w.alloc (.cells #[.int .i64 (chunkM g L : Int), .int .i64 (chunkM h L : Int)] 3)).alloc (.cells #[ifp ta ba, ifp tb bb] 42)) D (fun j hj => hD j (by simp at hj; omega)) (m := 2 ^ chunkM g L ||| 2 ^ chunkM h L) (ks := [a, b]) (vs := [ifp ta ba, ifp tb bb]) (IsVs.row (D := fun _ => True) (b := w.heap.size + 1) (heap_alloc2_new w _ _) trivial (by simp [maxLen])) (ats2 (ha.below hb0) (hb.below hb0)) hm (by show 2 = (bitsOf _).length; rw [hbt]; rfl) (by simp) (by rw [counts2]; omega))
        have HB := Lib.hid hb0
        have g0 : ((chunkM g L : Int) == (chunkM h L : Int)) = false := by rw [beq_eq_false_iff_ne]; omega
        have g1 : ¬ (chunkM h L : Int) < (chunkM g L : Int) := by omega
        have g2 : decide (chunkM h L < chunkM g L) = false := by simpa using e2
        clear ha hb hD hb0 hbt h3 e
        generalize chunkM g L = c at *
        generalize chunkM h L = d at *
        go_enter Tryz.func185, Tryz.ntmps185
        go_wp2_with first
          | (go_at_call 104; first | (((with_reducible refine (CG.out _).mono ?_)); rintro e w1 ⟨rfl, rfl⟩) | (((with_reducible refine (CH.out _).mono ?_)); rintro e w1 ⟨rfl, rfl⟩) | fail)
          | (go_at_call 254; ((with_reducible refine (CO.out).mono ?_)); rintro e w1 ⟨rfl, rfl⟩)
          | (go_at_call 253; ((with_reducible refine (CB.out).mono ?_)); rintro e w3 ⟨rb, rfl, hn3, hb3⟩; have HN3 := Lib.hid hn3; have HB3 := Lib.hid hb3; clear hn3 hb3)
        go_ret
        exact ⟨_, rfl, HN3.out, HB.out.trans (HB3.out.mono HB.out.size)⟩
end Go.Proofs.YtmbiiemlepfoaaaGreatDoor
