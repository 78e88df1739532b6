/- The law: TopFlood. -/
import Derived.Test.YtmbiiemlepfoaaaGreatDoorFl39
import Derived.Test.YtmbiiemlepfoaaaGreatDoorFl18
import Derived.Test.YtmbiiemlepfoaaaGreatDoorFl34

namespace Go.Proofs.YtmbiiemlepfoaaaGreatDoor
open Go.RowKit
set_option linter.unusedVariables false
theorem kid_cnt {m c : Nat} {ks : List N} {n : N} (h : kidN m ks c = some n) : n.count ≤ N.counts ks := by
  unfold kidN at h
  split at h
  · exact counts_mem (List.mem_of_getElem? h)
  · cases h
theorem way_cnt {h L s : Nat} {n r : Option N} (hw : Way h n L r s) : cntO r ≤ cntO n := by
  induction hw with
  | none L => exact Nat.le_refl _
  | leaf g k v L => exact Nat.le_refl _
  | bucket g t L => exact Nat.le_refl _
  | branch m ks L r s hw ih =>
    refine Nat.le_trans ih ?_
    cases e : kidN m ks (chunkM h L) with
    | none => exact Nat.zero_le _
    | some n => exact kid_cnt e
theorem flGet {H : List UInt8 → Nat} (hh : ∀ k, H k < 18446744073709551616) (w : World) (D : Nat → Prop) (hD : ∀ j, w.heap.size ≤ j → D j) {mb : Option Nat} (ho : Off D mb) {vi c : Nat} (hm : Met w mb vi c) (hvi : vi < 1000) (hci : c < 1000) {n : Option N} {t : T} {x : List PairT} {v : Value} (hn : NodeAt w D n v) (inv : Inv H n t x) (hs : ∀ p ∈ x, p.1.length ≤ 1000000 ∧ p.2.length ≤ 1000000) (hl : x.length < 1000000) {D2 : Nat → Prop} (ho2 : Off D2 mb) {kp : Option Addr} {kc : Nat} {k : List UInt8} (hk : IsD w D2 kp kc k) :
    Calls Tryz.prog 15 #[v, .int .u64 (H k : Int), .slice kp k.length kc, .pointer (mptr mb)] w (fun e w' => ∃ R, e = .returned R ∧ Met w' mb (vi + (lookS H k n).1) (c + (lookS H k n).2) ∧ w.grownBy w' mb) := by
  have hfit := inv.fit hh hs
  have hfo : fitsO n 0 := fun m e => (hfit m e).1
  obtain ⟨r, s, hw, h1, h2, h3⟩ := way_ex (H k) 13 n 0 hfo rfl
  have hc := way_cnt hw
  have hcn : cntO n < 1000000 := by
    cases n with
    | none => exact Nat.zero_lt_succ _
    | some m => have := (hfit m rfl).2; show m.count < 1000000; omega
  refine (findEnd D ho ho2 (hh k) w hD vi c hm h3 (by omega) (by omega) hn hfo hw h1 h2 hk (fun g t e => by subst e; have : t.size ≤ cntO n := hc; omega)).mono ?_
  rintro e w' ⟨p, q, rfl, _, _, h4, h5⟩
  refine ⟨_, rfl, ?_, h5⟩
  unfold lookS
  rw [way_steps hw]
  rw [Nat.add_assoc] at h4
  exact h4
structure FlS (w : World) (tb : List Nat) (wr : World) (i : Nat) (v : Value) (n : Option N) (tp : Option Addr) (t : T) (xp : Option Addr) (xc : Nat) (x : List PairT) : Prop where
  node : NodeAt wr (fun _ => True) n v
  tree : TreeAt wr (fun _ => True) tp t
  row : IsRs wr (fun _ => True) xp xc x
  inv : Inv (tabM tb) n t x
  len : x.length ≤ i
  small : ∀ p ∈ x, p.1.length ≤ 60 ∧ p.2.length ≤ 60
  below : Below w.heap.size w wr
abbrev Two (a b : Nat) : Nat → Prop := fun j => j ≠ a ∧ j ≠ b
theorem Chg.node {a b : Nat} {W w' : World} {n : Option N} {v : Value} (h : Chg a b W w') (hn : NodeAt W (Two a b) n v) : NodeAt w' (Two a b) n v := NodeAt.keepD (fun k hk hd => h.same k hk hd.1 hd.2) h.size hn
theorem Chg.tree {a b : Nat} {W w' : World} {p : Option Addr} {t : T} (h : Chg a b W w') (hn : TreeAt W (Two a b) p t) : TreeAt w' (Two a b) p t := hn.keep h.size (fun k hk hd => h.same k hk hd.1 hd.2)
theorem Chg.rs {a b : Nat} {W w' : World} {p : Option Addr} {c : Nat} {x : List PairT} (h : Chg a b W w') (hn : IsRs W (Two a b) p c x) : IsRs w' (Two a b) p c x := hn.keep h.size (fun k hk hd => h.same k hk hd.1 hd.2)
theorem Chg.grownA {a b : Nat} {W w' : World} (h : W.grownBy w' (some a)) : Chg a b W w' := ⟨h.os, h.tape, h.output, h.size, fun j hj h1 _ => h.block j hj fun e => h1 (Option.some.inj e)⟩
theorem Chg.grownB {a b : Nat} {W w' : World} (h : W.grownBy w' (some b)) : Chg a b W w' := ⟨h.os, h.tape, h.output, h.size, fun j hj _ h1 => h.block j hj fun e => h1 (Option.some.inj e)⟩
theorem Chg.down {a b n : Nat} {w W w' : World} (h : Chg a b W w') (hb : Below n w W) (ha : n ≤ a) (hb' : n ≤ b) (hn : n ≤ W.heap.size) : Below n w w' :=
  ⟨h.os.trans hb.os, h.tape.trans hb.tape, h.output.trans hb.output, Nat.le_trans hb.size h.size, fun k hk => (h.same k (Nat.lt_of_lt_of_le hk hn) (by omega) (by omega)).trans (hb.block k hk)⟩
theorem Met.other {a b : Nat} {w w' : World} {v c : Nat} (h : Met w (some a) v c) (hab : a ≠ b) (g : w.grownBy w' (some b)) : Met w' (some a) v c := fun x e => by
  cases e
  exact grown_row g (h a rfl) fun e => hab (Option.some.inj e).symm
theorem Met.cells {a : Nat} {w : World} {v c : Nat} (h : Met w (some a) v c) : w.cell? ⟨a, 0, none⟩ = some (.int .i64 (v : Int)) ∧ w.cell? ⟨a, 1, none⟩ = some (.int .i64 (c : Int)) :=
  ⟨cell_of_row w a 0 _ _ (0, 0) (h a rfl), cell_of_row w a 1 _ _ (0, 0) (h a rfl)⟩
theorem three_alloc (w : World) (a b c : Obj) : (((w.alloc a).alloc b).alloc c).heap[w.heap.size]? = some a ∧ (((w.alloc a).alloc b).alloc c).heap[w.heap.size + 1]? = some b ∧ (((w.alloc a).alloc b).alloc c).heap[w.heap.size + 2]? = some c := by
  have e : (((w.alloc a).alloc b).alloc c).heap = ((w.heap.push a).push b).push c := rfl
  rw [e]
  refine ⟨?_, ?_, ?_⟩
  · rw [Array.getElem?_push_lt (by simp; omega), Array.getElem_push_lt (by simp), Array.getElem_push_eq]
  · rw [Array.getElem?_push_lt (by simp)]
    have h : (w.heap.push a).size = w.heap.size + 1 := by simp
    simp [h, Array.getElem_push]
  · have h : ((w.heap.push a).push b).size = w.heap.size + 2 := by simp
    rw [← h, Array.getElem?_push_size]
theorem flStep (w : World) (D : Nat → Prop) (hD : ∀ j, w.heap.size ≤ j → D j) {mb : Option Nat} (ho : Off D mb) (hm2 : mb ≠ some 2) (hm : Met w mb 0 0) {pt : Option Addr} {ct : Nat} {tb : List Nat} {D0 : Nat → Prop} (ht : IsVs w D0 pt ct (tb.map uv)) (ho0 : Off D0 mb) (htb : ∀ y ∈ tb, y < 18446744073709551616)
    {xp : Option Addr} {xc : Nat} {x : List PairT} (hx : IsRs w D xp xc x) {n : Option N} {v : Value} (hn : NodeAt w D n v) {t : T} (inv : Inv (tabM tb) n t x) (hs : ∀ p ∈ x, p.1.length ≤ 1000000 ∧ p.2.length ≤ 1000000) (hl : x.length < 1000000) (o : OpV) (hk : IsD w (fun j => mb ≠ some j) o.kp o.kc o.op.key) (hv : IsD w (fun j => mb ≠ some j) o.vp o.vc o.op.val) (hkl : o.op.key.length ≤ 1000000) (hul : o.op.val.length ≤ 1000000) (h2 : 2 < w.heap.size) (hT : TabAt 2 Lib.deBruijn32tab w) :
    Calls Tryz.prog 17 #[v, .slice xp x.length xc, .slice pt tb.length ct, .agg #[.bool o.op.del, .slice o.kp o.op.key.length o.kc, .slice o.vp o.op.val.length o.vc], .pointer (mptr mb)] w (StepR D (tabM tb) o.op n x mb (if o.op.del then (deleSO (tabM tb o.op.key) o.op.key n 0).1 else (intoSO (tabM tb o.op.key) o.op.key n 0).1) (if o.op.del then (deleSO (tabM tb o.op.key) o.op.key n 0).2 else (intoSO (tabM tb o.op.key) o.op.key n 0).2) w) := by
  obtain ⟨⟨del, key, val⟩, kp, kc, vp, vc⟩ := o
  dsimp only at *
  cases del with
  | true =>
    have := flDel w D hD ho hm2 hm (by omega) (by omega) ht ho0 htb hx hn inv hs hl hk hv hkl hul h2 hT
    simp only [Nat.zero_add] at this
    exact this
  | false =>
    have := flPut w D hD ho hm2 hm (by omega) (by omega) ht ho0 htb hx hn inv hs hl hk hv hkl hul h2 hT
    simp only [Nat.zero_add] at this
    exact this
theorem flBig (w : World) (hW : TopW w) {p q : Option Addr} {c d : Nat} {tb : List Nat} {L : List OpV} (hL : IsFl w q d L) (h : fineB tb L 50 = false) :
    Calls Tryz.prog 4 #[.slice p tb.length c, .slice q L.length d] w fun e w' => e = .returned (.bool true) ∧ Below w.heap.size w w' := by
  have CF := Lib.hid (flFine w (p := p) (c := c) (tb := tb) hL 50)
  rw [h] at CF
  have CA := Lib.hid (fun W (hb : Below w.heap.size w W) => (hW.below hb).alive)
  clear hW hL h
  go_enter Tryz.func4, Tryz.ntmps4
  go_wp2_with first
    | (go_at_call 13; ((with_reducible refine (CF.out).mono ?_)); rintro e w1 ⟨rfl, hb1⟩; have HB1 := Lib.hid hb1; clear hb1)
    | (go_at_call 6; ((with_reducible refine (CA.out _ HB1.out).mono ?_)); rintro e w2 ⟨rfl, hb2⟩; have HB2 := Lib.hid (HB1.out.trans (hb2.mono HB1.out.size)); clear hb2)
    | fail
  go_ret
  exact ⟨rfl, HB2.out⟩
set_option maxHeartbeats 8000000 in
set_option maxRecDepth 100000 in
theorem flLoop (w : World) (hW : TopW w) {p q : Option Addr} {c d : Nat} {tb : List Nat} {L : List OpV} (ht : IsVs w (fun _ => True) p c (tb.map uv)) (htb : ∀ y ∈ tb, y < 18446744073709551616) (hL : IsFl w q d L) (h : fineB tb L 50 = true) :
    Calls Tryz.prog 4 #[.slice p tb.length c, .slice q L.length d] w fun e w' => e = .returned (.bool true) ∧ Below w.heap.size w w' := by
  have hfine := h
  unfold fineB at hfine
  simp only [Bool.and_eq_true, decide_eq_true_eq, List.all_eq_true] at hfine
  obtain ⟨⟨hf1, hf2⟩, hf3⟩ := hfine
  have hop : ∀ x ∈ L, x.op.key.length ≤ 60 ∧ x.op.val.length ≤ 60 := fun x hx => by
    have := hf3 x hx
    unfold fineO at this
    simpa using this
  have hht := tabM_lt htb
  have CF := Lib.hid (flFine w (p := p) (c := c) (tb := tb) hL 50)
  rw [h] at CF
  have CA := Lib.hid (fun W (hb : Below w.heap.size w W) => (hW.below hb).alive)
  obtain ⟨M, hM⟩ : ∃ M, L.length = M := ⟨_, rfl⟩
  rw [hM] at CF ⊢
  have hM50 : M ≤ 50 := by omega
  have h7 := hW.stat.big
  have HM := Lib.hid hM
  have HL := Lib.hid hL
  have HT := Lib.hid ht
  have HTB := Lib.hid htb
  have HOP := Lib.hid hop
  have HW := Lib.hid hW
  have HHT := Lib.hid hht
  clear hW hL h ht htb hop hht hM hf1 hf2 hf3
  go_enter Tryz.func4, Tryz.ntmps4
  go_wp2_with first
    | (go_at_call 13; ((with_reducible refine (CF.out).mono ?_)); rintro e w1 ⟨rfl, hb1⟩; have HB1 := Lib.hid hb1; clear hb1)
    | fail
  go_loopw [5, 6, 7, 22] (fun v5 v6 v7 v22 wr => ∃ (i : Nat) (n : Option N) (t : T) (x : List PairT) (v : Value) (tp xp : Option Addr) (xc : Nat), v = v5 ∧ v6 = .pointer tp ∧ v7 = .slice xp x.length xc ∧ v22 = .int .i64 (i : Int) ∧ i ≤ M ∧ Hid (FlS w tb wr i v n tp t xp xc x)) (fun _ _ _ v22 _ => M - (intOf v22).toNat)
  case atStart => exact ⟨0, none, .nil, [], _, none, none, 0, rfl, rfl, rfl, rfl, by omega, Lib.hid ⟨rfl, rfl, IsRs.none_ _ _, Inv.start, Nat.le_refl _, fun p hp => (by cases hp), HB1.out⟩⟩
  case round =>
    obtain ⟨i, n, t, x, v5, tp, xp, xc, rfl, rfl, rfl, rfl, hi, HS⟩ := hrel
    by_cases hlt : i < M
    · obtain ⟨o, ho⟩ : ∃ o, L[i]? = some o := ⟨_, List.getElem?_eq_getElem (by rw [HM.out]; exact hlt)⟩
      have hom := List.mem_of_getElem? ho
      obtain ⟨b, of, rfl, hbl, hcell⟩ := HL.out.cells (by rw [HM.out]; omega)
      obtain ⟨e0, e1, e2⟩ := hcell i o ho
      have hbw := HS.out.below
      have c0 := (hbw.cell (p := ⟨b, of + i * 3, none⟩) hbl).trans e0
      have c1 := (hbw.cell (p := ⟨b, of + i * 3 + 1, none⟩) hbl).trans e1
      have c2 := (hbw.cell (p := ⟨b, of + i * 3 + 2, none⟩) hbl).trans e2
      have g1 : (i : Int) < (M : Int) := by omega
      have hkB := HL.out.keys o hom
      have hvB := HL.out.vals o hom
      obtain ⟨hkl, hvl⟩ := HOP.out o hom
      have inv := HS.out.inv
      have hsm := HS.out.small
      have hlen := HS.out.len
      obtain ⟨B, hB⟩ : ∃ B, wr.heap.size = B := ⟨_, rfl⟩
      obtain ⟨W2, hW2⟩ : ∃ z, z = ((wr.alloc (.cells #[.bool o.op.del, .slice o.kp o.op.key.length o.kc, .slice o.vp o.op.val.length o.vc] 45)).alloc (.cells #[.int .i64 0, .int .i64 0] 47)).alloc (.cells #[.int .i64 0, .int .i64 0] 47) := ⟨_, rfl⟩
      have hz2 : W2.heap.size = B + 3 := by rw [hW2]; simp [hB]
      have hB2 : Below wr.heap.size wr W2 := by rw [hW2]; exact (((Below.refl _ wr).alloc (Nat.le_refl _) _).alloc (by first | (simp; done) | (simp; omega)) _).alloc (by first | (simp; done) | (simp; omega)) _
      have hBw : w.heap.size ≤ B := by rw [← hB]; exact hbw.size
      have r012 := three_alloc wr (.cells #[.bool o.op.del, .slice o.kp o.op.key.length o.kc, .slice o.vp o.op.val.length o.vc] 45) (.cells #[.int .i64 0, .int .i64 0] 47) (.cells #[.int .i64 0, .int .i64 0] 47)
      rw [← hW2, hB] at r012
      obtain ⟨r0, r1, r2⟩ := r012
      have mA : Met W2 (some (B + 1)) 0 0 := fun z e => by cases e; exact r1
      have mB : Met W2 (some (B + 2)) 0 0 := fun z e => by cases e; exact r2
      have DOWN : ∀ {w'}, Chg (B + 1) (B + 2) W2 w' → Below w.heap.size w w' := fun h => h.down (hbw.trans (hB2.mono hbw.size)) (by omega) (by omega) (by omega)
      have hDD : ∀ {w'}, Chg (B + 1) (B + 2) W2 w' → ∀ j, w'.heap.size ≤ j → Two (B + 1) (B + 2) j := fun h j hj => by have := h.size; constructor <;> omega
      have mono2 : ∀ k, k < wr.heap.size → True → Two (B + 1) (B + 2) k := fun k hk _ => by constructor <;> omega
      have hn2 : NodeAt W2 (Two (B + 1) (B + 2)) n v5 := NodeAt.below (NodeAt.mono mono2 HS.out.node) hB2
      have ht2 : TreeAt W2 (Two (B + 1) (B + 2)) tp t := (TreeAt.mono mono2 HS.out.tree).below hB2
      have hx2 : IsRs W2 (Two (B + 1) (B + 2)) xp xc x := (IsRs.mono HS.out.row mono2).below hB2
      have offA : Off (Two (B + 1) (B + 2)) (some (B + 1)) := fun z e hd => by cases e; exact hd.1 rfl
      have offB : Off (Two (B + 1) (B + 2)) (some (B + 2)) := fun z e hd => by cases e; exact hd.2 rfl
      have keyD : ∀ {w'} m, Below w.heap.size w w' → w.heap.size ≤ m → IsD w' (fun j => some m ≠ some j) o.kp o.kc o.op.key := fun m hb hm => ⟨hkB.below hb, fun a ha hl e => by have := hkB.lt ha hl; cases e; omega⟩
      have valD : ∀ {w'} m, Below w.heap.size w w' → w.heap.size ≤ m → IsD w' (fun j => some m ≠ some j) o.vp o.vc o.op.val := fun m hb hm => ⟨hvB.below hb, fun a ha hl e => by have := hvB.lt ha hl; cases e; omega⟩
      have hs6 : ∀ p ∈ x, p.1.length ≤ 1000000 ∧ p.2.length ≤ 1000000 := fun p hp => by have := hsm p hp; omega
      have hxl : x.length < 1000000 := by omega
      obtain ⟨hk', hkh⟩ : ∃ z, z = tabM tb o.op.key := ⟨_, rfl⟩
      obtain ⟨VA, hVA⟩ : ∃ z, z = (lookS (tabM tb) o.op.key n).1 := ⟨_, rfl⟩
      obtain ⟨CA', hCA⟩ : ∃ z, z = (lookS (tabM tb) o.op.key n).2 := ⟨_, rfl⟩
      obtain ⟨V1, hV1⟩ : ∃ z, z = (if o.op.del then (deleSO (tabM tb o.op.key) o.op.key n 0).1 else (intoSO (tabM tb o.op.key) o.op.key n 0).1) := ⟨_, rfl⟩
      obtain ⟨C1, hC1⟩ : ∃ z, z = (if o.op.del then (deleSO (tabM tb o.op.key) o.op.key n 0).2 else (intoSO (tabM tb o.op.key) o.op.key n 0).2) := ⟨_, rfl⟩
      obtain ⟨VB, hVB⟩ : ∃ z, z = (stepS (tabM tb) o.op n t).1 := ⟨_, rfl⟩
      obtain ⟨CB, hCB⟩ : ∃ z, z = (stepS (tabM tb) o.op n t).2 := ⟨_, rfl⟩
      obtain ⟨BN, hBN⟩ : ∃ z, z = boundN x.length := ⟨_, rfl⟩
      have lk := look_ok inv o.op.key
      have sk := step_ok inv o.op
      rw [← bound_log, ← hBN, ← hVA, ← hCA] at lk
      rw [← bound_log, ← hBN, ← hVB, ← hCB] at sk
      have inv' := inv.step HHT.out o.op
      have hsl := step_len o.op x
      have hss := step_small (o := o.op) (n := 60) hsm hkl hvl
      have hVB1 : V1 ≤ VB ∧ C1 ≤ CB := by
        rw [hVB, hCB, hV1, hC1]
        unfold stepS
        cases o.op.del
        · simp only [Bool.false_eq_true, if_false]; omega
        · simp only [if_true]; omega
      have C14 := Lib.hid (show ∀ w', Below W2.heap.size W2 w' → Calls Tryz.prog 14 #[.slice p tb.length c, .string (str o.op.key)] w' (fun e w'' => e = .returned (.int .u64 (hk' : Int)) ∧ ∃ m, w'' = w'.drewN m) from fun w' hb => by
        rw [hkh]
        exact ref19Hash w' (HT.out.below (DOWN (Chg.below hb))) (by omega))
      have C15 := Lib.hid (show ∀ w', Below W2.heap.size W2 w' → Calls Tryz.prog 15 #[v5, .int .u64 (hk' : Int), .slice o.kp o.op.key.length o.kc, .pointer (some ⟨B + 1, 0, none⟩)] w' (fun e w'' => ∃ R, e = .returned R ∧ Met w'' (some (B + 1)) VA CA' ∧ w'.grownBy w'' (some (B + 1))) from fun w' hb => by
        have hc : Chg (B + 1) (B + 2) W2 w' := Chg.below hb
        have := flGet HHT.out w' _ (hDD hc) (mb := some (B + 1)) offA (mA.below hb) (by omega) (by omega) (hc.node hn2) inv hs6 hxl (Off.ne _) (keyD (B + 1) (DOWN hc) (by omega))
        rw [← hkh, ← hVA, ← hCA, Nat.zero_add, Nat.zero_add] at this
        exact this)
      have C16 := Lib.hid (show ∀ w', Calls Tryz.prog 16 #[.int .i64 (x.length : Int)] w' (fun e w'' => e = .returned (.int .i64 (BN : Int)) ∧ Below w'.heap.size w' w'') from fun w' => by
        rw [hBN]
        exact refBound w' x.length (by omega))
      have C17 := Lib.hid (show ∀ w', Chg (B + 1) (B + 2) W2 w' → Met w' (some (B + 2)) 0 0 → Calls Tryz.prog 17 #[v5, .slice xp x.length xc, .slice p tb.length c, .agg #[.bool o.op.del, .slice o.kp o.op.key.length o.kc, .slice o.vp o.op.val.length o.vc], .pointer (some ⟨B + 2, 0, none⟩)] w' (StepR (Two (B + 1) (B + 2)) (tabM tb) o.op n x (some (B + 2)) V1 C1 w') from fun w' hc hm => by
        have hw := HW.out.below (DOWN hc)
        rw [hV1, hC1]
        exact flStep w' _ (hDD hc) (mb := some (B + 2)) offB (by intro e; cases e; omega) hm ((IsVs.mono HT.out (D' := fun j => some (B + 2) ≠ some j) (fun k hk _ e => by cases e; omega)).below (DOWN hc)) (Off.ne _) HTB.out (hc.rs hx2) (hc.node hn2) inv hs6 hxl o (keyD (B + 2) (DOWN hc) (by omega)) (valD (B + 2) (DOWN hc) (by omega)) (by omega) (by omega) (by have := hw.stat.big; omega) hw.tab)
      have hpow : (x.length + 1) ^ 6 ≤ 51 ^ 6 := Nat.pow_le_pow_left (by omega) 6
      have hBNs : BN ≤ 20000000000 := by
        have h1 := Nat.log2_le_self ((x.length + 1) ^ 6)
        rw [hBN, bound_log]
        have h2 : 51 ^ 6 = 17596287801 := by decide
        omega
      have hts : t.size = x.length := inv.size
      obtain ⟨sn, hsn⟩ : ∃ z, z = stepN (tabM tb) o.op n := ⟨_, rfl⟩
      obtain ⟨st, hst⟩ : ∃ z, z = stepT o.op t := ⟨_, rfl⟩
      obtain ⟨sx, hsx⟩ : ∃ z, z = stepX o.op x := ⟨_, rfl⟩
      rw [← hsn, ← hst, ← hsx] at inv'
      rw [← hsx] at hsl hss
      have hs6' : ∀ p ∈ sx, p.1.length ≤ 1000000 ∧ p.2.length ≤ 1000000 := fun p hp => by have := hss p hp; omega
      have hC17 : ∀ w', Chg (B + 1) (B + 2) W2 w' → Met w' (some (B + 2)) 0 0 → Calls Tryz.prog 17 #[v5, .slice xp x.length xc, .slice p tb.length c, .agg #[.bool o.op.del, .slice o.kp o.op.key.length o.kc, .slice o.vp o.op.val.length o.vc], .pointer (some ⟨B + 2, 0, none⟩)] w' (fun e w'' => ∃ v q d, e = .returned (.tuple #[v, .slice q sx.length d, .bool true]) ∧ NodeAt w'' (Two (B + 1) (B + 2)) sn v ∧ IsRs w'' (Two (B + 1) (B + 2)) q d sx ∧ Met w'' (some (B + 2)) V1 C1 ∧ w'.grownBy w'' (some (B + 2))) := fun w' h1 h2 => by
        rw [hsx, hsn]
        exact C17.out w' h1 h2
      clear C17
      have C17 := Lib.hid hC17
      clear hC17
      have C18 := Lib.hid (show ∀ w' v' q' d', Chg (B + 1) (B + 2) W2 w' → NodeAt w' (Two (B + 1) (B + 2)) sn v' → IsRs w' (Two (B + 1) (B + 2)) q' d' sx → Calls Tryz.prog 18 #[.slice p tb.length c, .slice q' sx.length d', v'] w' (TrueR w') from fun w' v' q' d' hc hn hr => flLay w' (HT.out.below (DOWN hc)) HTB.out hr hn inv' hs6' (by omega))
      have CTR : Hid ((o.op.del = true → ∀ w', Chg (B + 1) (B + 2) W2 w' → Met w' (some (B + 2)) V1 C1 → TreeAt w' (Two (B + 1) (B + 2)) tp t → Calls Tryz.prog 19 #[.pointer tp, .slice o.kp o.op.key.length o.kc, .pointer (some ⟨B + 2, 0, none⟩)] w' (fun e w'' => ∃ q ok, e = .returned (.tuple #[.pointer q, ok]) ∧ TreeAt w'' (Two (B + 1) (B + 2)) q st ∧ Met w'' (some (B + 2)) VB CB ∧ w'.grownBy w'' (some (B + 2)))) ∧
          (o.op.del = false → ∀ w', Chg (B + 1) (B + 2) W2 w' → Met w' (some (B + 2)) V1 C1 → TreeAt w' (Two (B + 1) (B + 2)) tp t → Calls Tryz.prog 20 #[.pointer tp, pairV o.kp o.kc o.op.key o.vp o.vc o.op.val, .pointer (some ⟨B + 2, 0, none⟩)] w' (fun e w'' => ∃ q, e = .returned (.pointer q) ∧ TreeAt w'' (Two (B + 1) (B + 2)) q st ∧ Met w'' (some (B + 2)) VB CB ∧ w'.grownBy w'' (some (B + 2))))) := by
        refine ⟨fun hd w' hc hm htr => ?_, fun hd w' hc hm htr => ?_⟩
        · refine (treeDel _ offB (Off.ne (some (B + 2))) t w' (hDD hc) V1 C1 hm (by omega) (by omega) tp htr inv.bal (by omega) (keyD (B + 2) (DOWN hc) (by omega))).mono ?_
          rintro e w'' ⟨q, rfl, h1, h2, h3⟩
          refine ⟨q, _, rfl, ?_, ?_, h3⟩
          · rw [hst]; unfold stepT; rw [if_pos hd]; exact h1
          · rw [hVB, hCB]; unfold stepS; rw [if_pos hd]
            rw [hV1, hC1, if_pos hd, if_pos hd] at h2
            exact h2
        · refine (treePut w' _ (hDD hc) offB hm inv.bal (by omega) (by omega) (by omega) htr ⟨keyD (B + 2) (DOWN hc) (by omega), valD (B + 2) (DOWN hc) (by omega), by omega, by omega⟩).mono ?_
          rintro e w'' ⟨q, rfl, h1, h2, h3⟩
          refine ⟨_, rfl, ?_, ?_, h3⟩
          · rw [hst]; unfold stepT; rw [if_neg (by rw [hd]; simp)]; exact h1
          · rw [hVB, hCB]; unfold stepS; rw [if_neg (by rw [hd]; simp)]
            rw [hV1, hC1, if_neg (by rw [hd]; simp), if_neg (by rw [hd]; simp)] at h2
            exact h2
      have hstl : st.list = sx := inv'.list
      have hsts : st.size = sx.length := inv'.size
      have C22 := Lib.hid (show ∀ w' q', TreeAt w' (Two (B + 1) (B + 2)) q' st → Calls Tryz.prog 22 #[.pointer q'] w' (fun e w'' => ∃ r : Nat, e = .returned (.slice (some ⟨r, 0, none⟩) sx.length sx.length) ∧ IsPs w'' (fun _ => True) (some ⟨r, 0, none⟩) sx.length sx ∧ Below w'.heap.size w' w'') from fun w' q' ht => (treeList w' ht inv'.bal (fun y hy => by rw [hstl] at hy; have := hss y hy; omega) (by omega)).mono fun e w'' ⟨r, B', vs, h1, h2, h3, h4, h5, h6, h7⟩ => by
        rw [hstl] at h1 h2 h3
        exact ⟨r, h1, ListR.isPs (D := fun _ => True) (w := w') (fun _ _ => trivial) h2 h3 h4 h5, h7⟩)
      have C21 := Lib.hid (show ∀ w' r q' d', IsPs w' (fun _ => True) r sx.length sx → IsRs w' (Two (B + 1) (B + 2)) q' d' sx → Calls Tryz.prog 21 #[.slice r sx.length sx.length, .slice q' sx.length d'] w' (fun e w'' => e = .returned (.bool true) ∧ ∃ m, w'' = w'.drewN m) from fun w' r q' d' h1 h2 => ref04Is w' h1 h2 (by omega))
      have HC := Lib.hid (show ∀ w', Chg (B + 1) (B + 2) W2 w' → w'.cell? ⟨B, 0, none⟩ = some (.bool o.op.del) ∧ w'.cell? ⟨B, 1, none⟩ = some (.slice o.kp o.op.key.length o.kc) ∧ w'.cell? ⟨B, 2, none⟩ = some (.slice o.vp o.op.val.length o.vc) from fun w' hc => by
        have r' := (hc.same B (by omega) (by omega) (by omega)).trans r0
        exact ⟨cell_of_row w' _ 0 _ _ (0, 0) r', cell_of_row w' _ 1 _ _ (0, 0) r', cell_of_row w' _ 2 _ _ (0, 0) r'⟩)
      have kb' : (convert 22 9 (.slice o.kp o.op.key.length o.kc)).run Tryz.prog W2 = .ok (.string (str o.op.key)) W2 := (hkB.below (DOWN (Chg.refl _ _ _))).convert Tryz.underlying22 Tryz.underlying5 Tryz.underlying9
      have HB0 := Lib.hid (Below.refl W2.heap.size W2)
      have HMA0 := Lib.hid mA
      have HMB0 := Lib.hid mB
      have HT2 := Lib.hid ht2
      have HN2 := Lib.hid hn2
      have HDOWN := Lib.hid (show ∀ w', Chg (B + 1) (B + 2) W2 w' → Below w.heap.size w w' from fun w' h => DOWN h)
      have FIN := Lib.hid (show ∀ w' v' q' d' q8, Chg (B + 1) (B + 2) W2 w' → NodeAt w' (Two (B + 1) (B + 2)) sn v' → IsRs w' (Two (B + 1) (B + 2)) q' d' sx → TreeAt w' (Two (B + 1) (B + 2)) q8 st → FlS w tb w' (i + 1) v' sn q8 st q' d' sx from fun w' v' q' d' q8 hc h1 h2 h3 => ⟨NodeAt.mono (fun _ _ _ => trivial) h1, TreeAt.mono (fun _ _ _ => trivial) h3, h2.mono (fun _ _ _ => trivial), inv', by omega, hss, DOWN hc⟩)
      have gA := lk.1
      have gB := sk.1
      have g2 : ¬ (VA : Int) > (BN : Int) := by omega
      have g3 : ¬ (VB : Int) > (BN : Int) := by omega
      have g4 : ¬ (CA' : Int) > (VA : Int) := by have := lk.2; omega
      have g5 : ¬ (CB : Int) > (VB : Int) := by have := sk.2; omega
      have HBs := Lib.hid hB
      have hi1 : i + 1 ≤ M := by omega
      rw [hW2] at kb'
      clear ho hom hcell e0 e1 e2 hbw hkB hvB inv hsm hz2 hB2 hBw r0 r1 r2 mA mB hDD mono2 hn2 ht2 hx2 offA offB hs6 hkh hVA hCA hV1 hC1 hVB hCB hBN lk sk inv' hsl hss hVB1 hpow hBNs hts hsn hst hsx hs6' hstl hsts gA gB HS
      clear keyD valD DOWN hB
      cases hdel : o.op.del
      all_goals
        rw [hdel] at c0 hW2 C17 HC kb'
        have HTR := Lib.hid ((by first | exact CTR.out.1 hdel | exact CTR.out.2 hdel))
        clear CTR
        go_wp2_with fail
        clear kb'
        rw [← hW2, HBs.out]
        clear hW2
        go_wp2_with first
          | (go_at_call 14; ((with_reducible refine (C14.out _ HB0.out).mono ?_)); rintro e w3 ⟨rfl, m3, rfl⟩; have HB3 := Lib.hid (below_drewNA HB0.out m3); generalize W2.drewN m3 = W3 at *; obtain ⟨k0, k1, k2⟩ := HC.out _ (Chg.below HB3.out))
          | (go_at_call 15; ((with_reducible refine (C15.out _ HB3.out).mono ?_)); rintro e w4 ⟨R4, rfl, hm4, hg4⟩; have HC4 := Lib.hid ((Chg.below HB3.out).trans (Chg.grownA (a := B + 1) (b := B + 2) hg4)); have HMA4 := Lib.hid hm4; have HMB4 := Lib.hid (Met.other (a := B + 2) (b := B + 1) (HMB0.out.below HB3.out) (by omega) hg4); clear hm4 hg4)
          | (go_at_call 16; ((with_reducible refine (C16.out _).mono ?_)); rintro e w5 ⟨rfl, hb5⟩; have HC5 := Lib.hid (HC4.out.trans (Chg.below hb5)); have HMA5 := Lib.hid (HMA4.out.below hb5); have HMB5 := Lib.hid (HMB4.out.below hb5); obtain ⟨k0, k1, k2⟩ := HC.out _ HC5.out; clear hb5)
          | (go_at_call 17; ((with_reducible refine (C17.out _ HC5.out HMB5.out).mono ?_)); rintro e w6 ⟨v6, q6, d6, rfl, hn6, hr6, hm6, hg6⟩; have HC6 := Lib.hid (HC5.out.trans (Chg.grownB (a := B + 1) (b := B + 2) hg6)); have HMA6 := Lib.hid (Met.other (a := B + 1) (b := B + 2) HMA5.out (by omega) hg6); have HMB6 := Lib.hid hm6; have HN6 := Lib.hid hn6; have HR6 := Lib.hid hr6; clear hm6 hg6 hn6 hr6)
          | (go_at_call 18; ((with_reducible refine (C18.out _ _ _ _ HC6.out HN6.out HR6.out).mono ?_)); rintro e w7 ⟨rfl, hb7⟩; have HE7 := Lib.hid (Chg.below (r := B + 1) (g := B + 2) hb7); have HC7 := Lib.hid (HC6.out.trans HE7.out); have HMA7 := Lib.hid (HMA6.out.below hb7); have HMB7 := Lib.hid (HMB6.out.below hb7); obtain ⟨k0, k1, k2⟩ := HC.out _ HC7.out; clear hb7)
          | (go_at_call 19; ((with_reducible refine (HTR.out _ HC7.out HMB7.out (HC7.out.tree HT2.out)).mono ?_)); rintro e w8 ⟨q8, ok8, rfl, ht8, hm8, hg8⟩; have HE8 := Lib.hid (HE7.out.trans (Chg.grownB (a := B + 1) (b := B + 2) hg8)); have HC8 := Lib.hid (HC6.out.trans HE8.out); have HMA8 := Lib.hid (Met.other (a := B + 1) (b := B + 2) HMA7.out (by omega) hg8); obtain ⟨ka0, ka1⟩ := HMA8.out.cells; obtain ⟨kb0, kb1⟩ := Met.cells hm8; have HT8 := Lib.hid ht8; clear ht8 hm8 hg8)
          | (go_at_call 20; ((with_reducible refine (HTR.out _ HC7.out HMB7.out (HC7.out.tree HT2.out)).mono ?_)); rintro e w8 ⟨q8, rfl, ht8, hm8, hg8⟩; have HE8 := Lib.hid (HE7.out.trans (Chg.grownB (a := B + 1) (b := B + 2) hg8)); have HC8 := Lib.hid (HC6.out.trans HE8.out); have HMA8 := Lib.hid (Met.other (a := B + 1) (b := B + 2) HMA7.out (by omega) hg8); obtain ⟨ka0, ka1⟩ := HMA8.out.cells; obtain ⟨kb0, kb1⟩ := Met.cells hm8; have HT8 := Lib.hid ht8; clear ht8 hm8 hg8)
          | (go_at_call 22; ((with_reducible refine (C22.out _ _ HT8.out).mono ?_)); rintro e w9 ⟨r9, rfl, hp9, hb9⟩; have HE9 := Lib.hid (HE8.out.trans (Chg.below (r := B + 1) (g := B + 2) hb9)); have HP9 := Lib.hid hp9; have HT9 := Lib.hid (HT8.out.below hb9); clear hp9 hb9)
          | (go_at_call 21; ((with_reducible refine (C21.out _ _ _ _ HP9.out (HE9.out.rs HR6.out)).mono ?_)); rintro e w10 ⟨rfl, m10, rfl⟩; have HE10 := Lib.hid (HE9.out.trans (Chg.below (r := B + 1) (g := B + 2) (below_drewNA (Below.refl w9.heap.size w9) m10))))
          | fail
        go_roundw
        case rel => exact ⟨i + 1, _, _, _, _, _, _, _, rfl, rfl, rfl, congrArg (Value.int .i64) (by omega), hi1, Lib.hid (FIN.out _ _ _ _ _ (HC6.out.trans HE10.out) (HE10.out.node HN6.out) (HE10.out.rs HR6.out) (HT9.out.below (below_drewNA (Below.refl w9.heap.size w9) m10)))⟩
        case measure => simp [intOf]; omega
    · have hin : i = M := by omega
      subst hin
      have g1 : ¬ (i : Int) < (i : Int) := by omega
      have HBE := Lib.hid HS.out.below
      clear HS
      go_wp2_with first
        | (go_at_call 6; ((with_reducible refine (CA.out _ HBE.out).mono ?_)); rintro e w2 ⟨rfl, hb2⟩; have HB2 := Lib.hid (HBE.out.trans (hb2.mono HBE.out.size)); clear hb2)
        | fail
      go_ret
      exact ⟨rfl, HB2.out⟩
theorem topFlood (w : World) (hW : TopW w) {p q : Option Addr} {c d : Nat} {tb : List Nat} {L : List OpV} (ht : IsVs w (fun _ => True) p c (tb.map uv)) (htb : ∀ y ∈ tb, y < 18446744073709551616) (hL : IsFl w q d L) :
    Calls Tryz.prog 4 #[.slice p tb.length c, .slice q L.length d] w fun e w' => e = .returned (.bool true) ∧ Below w.heap.size w w' := by
  cases h : fineB tb L 50 with
  | true => exact flLoop w hW ht htb hL h
  | false => exact flBig w hW hL h
end Go.Proofs.YtmbiiemlepfoaaaGreatDoor
