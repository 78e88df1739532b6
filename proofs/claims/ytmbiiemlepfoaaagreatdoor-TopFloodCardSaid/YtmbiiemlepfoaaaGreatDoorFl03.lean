/- The walks of rank.Rank$1, rank.below, rank.Rank. A range over a function whose iterator keeps cells of its own (one block g): its contract, and the law for its caller. Turned off the kit's ownH. The walks of walk.At, Cursor.Place, Cursor.Next, walk.ends. The walks of walk.ends, walk.All. -/
import Derived.Test.YtmbiiemlepfoaaaGreatDoorFl02
import Derived.RangeFuncNested
import Derived.RangeFuncBound
import Derived.RangeFuncCalls
import Derived.RangeFuncLeaves
import Derived.Shelf.Abstract
import Derived.WalkKit
import Derived.OwnWalkIn
import Derived.TacticsInMore
import Derived.LoopNIn
import Derived.LoopIn
import Derived.Below
import Derived.Test.YtmbiiemlepfoaaaGreatDoorProg
import Derived.Test.YtmbiiemlepfoaaaGreatDoorFl01
import Derived.Deep.CutRange
import Derived.Deep.RegionWith
import Derived.Deep.DeepCutAuto

namespace Go.Proofs.YtmbiiemlepfoaaaGreatDoor
open Go.RowKit
set_option linter.unusedVariables false
def rankM : T → List UInt8 → Nat
  | .nil, _ => 0
  | .node l k _ r, key => if Lib.compareBytes k key < 0 then l.size + 1 + rankM r key else rankM l key
theorem rankM_lt {l r : T} {k v key : List UInt8} (h : Lib.compareBytes k key < 0) : rankM (.node l k v r) key = l.size + 1 + rankM r key := by rw [rankM, if_pos h]
theorem rankM_ge {l r : T} {k v key : List UInt8} (h : ¬ Lib.compareBytes k key < 0) : rankM (.node l k v r) key = rankM l key := by rw [rankM, if_neg h]
theorem rankM_le : ∀ (t : T) (key : List UInt8), rankM t key ≤ t.size
  | .nil, _ => Nat.le_refl _
  | .node l k v r, key => by
    have h1 := rankM_le l key
    have h2 := rankM_le r key
    unfold rankM
    simp only [T.size]
    split <;> omega
theorem rankIs (w : World) {b : Nat} {p q : Option Addr} {c d : Nat} {key k : List UInt8} (hb : w.cell? ⟨b, 0, none⟩ = some (.slice p key.length c)) (hk : IsB w p c key) (hq : IsB w q d k) :
    Calls Tryz.prog 292 #[.slice q k.length d, .pointer (some ⟨b, 0, none⟩)] w fun e w' => e = .returned (.bool (decide (Lib.compareBytes k key < 0))) ∧ w = w' := by
  have CC := Lib.hid (keysCompare w hq hk)
  clear hk hq
  go_enter Tryz.func292, Tryz.ntmps292
  go_wp2_with (go_at_call 106; ((with_reducible refine CC.out.mono ?_)); rintro e w1 ⟨rfl, rfl⟩)
  go_ret
  exact ⟨rfl, rfl⟩
theorem field_key (W : World) (p q : Option Addr) (n c m d : Nat) : (Instr.field 61 (.agg #[.slice p n c, .slice q m d]) 0).run Tryz.prog W = .ok (.slice p n c) W := by kernel_rfl
set_option maxHeartbeats 1000000 in
set_option maxRecDepth 100000 in
theorem rankBelow (w : World) (D : Nat → Prop) {p : Option Addr} {t : T} (h : TreeAt w D p t) (hsm : t.Small) (hsz : t.size < 1152921504606846976) {b : Nat} {kp : Option Addr} {kc : Nat} {key : List UInt8} (hb : w.cell? ⟨b, 0, none⟩ = some (.slice kp key.length kc)) (hbl : b < w.heap.size) (hk : IsB w kp kc key) :
    Calls Tryz.prog 291 #[.pointer p, .func (.func 292) #[] #[.pointer (some ⟨b, 0, none⟩)]] w fun e w' => e = .returned (.int .i64 (rankM t key : Int)) ∧ Below w.heap.size w w' := by
  have fk := field_key
  have HT := Lib.hid h
  have HSM := Lib.hid hsm
  have HK := Lib.hid hk
  have HB := Lib.hid hb
  clear h hsm hk hb
  go_enter Tryz.func291, Tryz.ntmps291
  go_wp2_with fail
  go_loopg [0, 5] (t.size + 1) (fun n v0 v5 wr => ∃ (t' : T) (p' : Option Addr) (i : Nat), v0 = .pointer p' ∧ v5 = .int .i64 (i : Int) ∧ Below w.heap.size w wr ∧ TreeAt wr D p' t' ∧ t'.Small ∧ i + rankM t' key = rankM t key ∧ t'.size < n ∧ i + t'.size ≤ t.size)
  case atStart => exact ⟨t, p, 0, rfl, rfl, Below.refl _ _, HT.out, HSM.out, by omega, by omega, by omega⟩
  case round =>
    obtain ⟨t', p', i, rfl, rfl, hbw, ht, hsm', hi, hn, hn2⟩ := hrel
    cases t' with
    | nil =>
      obtain rfl : p' = none := ht
      have hi' : i = rankM t key := hi
      subst hi'
      have HBW := Lib.hid hbw
      clear hbw hi
      go_wp2
      go_ret
      exact ⟨rfl, HBW.out⟩
    | node l k' v' r =>
      have hp' : p'.isSome = true := by obtain ⟨b', _, _, _, _, _, _, rfl, _⟩ := ht; rfl
      obtain ⟨a', rfl⟩ := Option.isSome_iff_exists.1 hp'
      have CL := Lib.hid (show ∀ w1, Below wr.heap.size wr w1 → Calls Tryz.prog 221 #[.pointer (some a')] w1 _ from fun w1 hb1 => treeLeft w1 (ht.below hb1))
      have CR := Lib.hid (show ∀ w1, Below wr.heap.size wr w1 → Calls Tryz.prog 222 #[.pointer (some a')] w1 _ from fun w1 hb1 => treeRight w1 (ht.below hb1))
      have CRT := Lib.hid (treeRoot wr (fun j => wr.heap.size ≤ j) (fun _ h => h) ht hsm'.here.1 hsm'.here.2)
      have CIS := Lib.hid (show ∀ w1 q d, Below wr.heap.size wr w1 → IsB w1 q d k' → Calls Tryz.prog 292 #[.slice q k'.length d, .pointer (some ⟨b, 0, none⟩)] w1 _ from fun w1 q d hb1 hq =>
        rankIs w1 ((((hbw.trans (hb1.mono hbw.size)).cell (p := ⟨b, 0, none⟩) hbl)).trans HB.out) (HK.out.below (hbw.trans (hb1.mono hbw.size))) hq)
      have CZ := Lib.hid (show ∀ w1 lp, TreeAt w1 D lp l → Calls Tryz.prog 64 #[.pointer lp] w1 _ from fun w1 lp h => treeSize w1 h)
      have hsl := Lib.hid hsm'.left
      have hsr := Lib.hid hsm'.right
      have hszl : l.size + 1 + r.size < gk := hn
      have hszt : i + (l.size + 1 + r.size) ≤ t.size := hn2
      have HBW := Lib.hid hbw
      have HI := Lib.hid hi
      have hrl := rankM_le r key
      clear ht hsm' hi hn hn2 hbw
      have w1' : IntKind.i64.wrap ((l.size : Int) + 1) = (l.size : Int) + 1 := IntWalk.i64_in _ (by omega)
      have w2' : IntKind.i64.wrap ((i : Int) + ((l.size : Int) + 1)) = ((i + (l.size + 1) : Nat) : Int) := by rw [IntWalk.i64_in _ (by omega)]; omega
      by_cases hc : Lib.compareBytes k' key < 0
      · have gd : decide (Lib.compareBytes k' key < 0) = true := by simp [hc]
        go_wp2_with first | (go_at_call 219; ((with_reducible refine CRT.out.mono ?_)); rintro e w1 ⟨q1, d1, q2, d2, rfl, hI1, hI2, hb1⟩; have HB1 := Lib.hid hb1; have HI1 := Lib.hid hI1; clear hb1 hI1 hI2) | (go_at_call 292; ((with_reducible refine (CIS.out _ _ _ HB1.out HI1.out.b).mono ?_)); rintro e w2 ⟨rfl, rfl⟩) | (go_at_call 221; ((with_reducible refine (CL.out _ HB1.out).mono ?_)); rintro e w3 ⟨lp, rfl, htl, rfl⟩; have HTL := Lib.hid htl; clear htl) | (go_at_call 64; ((with_reducible refine (CZ.out _ _ HTL.out).mono ?_)); rintro e w4 ⟨rfl, rfl⟩) | (go_at_call 222; ((with_reducible refine (CR.out _ HB1.out).mono ?_)); rintro e w5 ⟨rp, rfl, htr, rfl⟩; have HTR := Lib.hid htr; clear htr)
        go_roundg (r.size + 1)
        case rel => exact ⟨r, _, i + (l.size + 1), rfl, rfl, HBW.out.trans (HB1.out.mono HBW.out.size), HTR.out, hsr.out, by have := HI.out; rw [rankM_lt hc] at this; omega, by omega, by omega⟩
        case measure => omega
      · have gd : decide (Lib.compareBytes k' key < 0) = false := by simp [hc]
        go_wp2_with first | (go_at_call 219; ((with_reducible refine CRT.out.mono ?_)); rintro e w1 ⟨q1, d1, q2, d2, rfl, hI1, hI2, hb1⟩; have HB1 := Lib.hid hb1; have HI1 := Lib.hid hI1; clear hb1 hI1 hI2) | (go_at_call 292; ((with_reducible refine (CIS.out _ _ _ HB1.out HI1.out.b).mono ?_)); rintro e w2 ⟨rfl, rfl⟩) | (go_at_call 221; ((with_reducible refine (CL.out _ HB1.out).mono ?_)); rintro e w3 ⟨lp, rfl, htl, rfl⟩; have HTL := Lib.hid htl; clear htl)
        go_roundg (l.size + 1)
        case rel => exact ⟨l, _, i, rfl, rfl, HBW.out.trans (HB1.out.mono HBW.out.size), HTL.out, hsl.out, by have := HI.out; rw [rankM_ge (by omega)] at this; omega, by omega, by omega⟩
        case measure => omega
set_option maxHeartbeats 1000000 in
theorem rankRank (w : World) (D : Nat → Prop) {p : Option Addr} {t : T} (h : TreeAt w D p t) (hsm : t.Small) (hsz : t.size < 1152921504606846976) {kp : Option Addr} {kc : Nat} {key : List UInt8} (hk : IsB w kp kc key) :
    Calls Tryz.prog 245 #[.pointer p, .slice kp key.length kc] w fun e w' => e = .returned (.int .i64 (rankM t key : Int)) ∧ Below w.heap.size w w' := by
  have hmf : ∀ (fn : Fn) (first cap : Array Value) (w : World), (Instr.makeFunc fn first cap).run Tryz.prog w = .ok (.func fn first cap) w := fun _ _ _ _ => rfl
  have hb := (Below.refl _ w).alloc (Nat.le_refl _) (.cells #[.slice kp key.length kc] 22)
  have CB := Lib.hid (rankBelow (w.alloc (.cells #[.slice kp key.length kc] 22)) D (h.below hb) hsm hsz (b := w.heap.size) (cell_of_row _ _ 0 _ _ (0, 0) (heap_alloc_new w _)) (by simp) (hk.below hb))
  have HB := Lib.hid hb
  clear h hsm hk hb
  go_enter Tryz.func245, Tryz.ntmps245
  go_wp2_with (go_at_call 291; ((with_reducible refine CB.out.mono ?_)); rintro e w1 ⟨rfl, hb1⟩; have HB1 := Lib.hid hb1; clear hb1)
  go_ret
  exact ⟨rfl, HB.out.trans (HB1.out.mono HB.out.size)⟩
end Go.Proofs.YtmbiiemlepfoaaaGreatDoor
namespace Go.Proofs.YtmbiiemlepfoaaaGreatDoor
open Go.RowKit Go.Shelf
set_option linter.unusedVariables false
structure Keep (n₀ g : Nat) (A B : World) : Prop where
  below : Below n₀ A B
  own : g < A.heap.size → B.heap[g]? = A.heap[g]?
theorem Keep.trans {n₀ g : Nat} {A B C : World} (h : Keep n₀ g A B) (k : Keep n₀ g B C) : Keep n₀ g A C :=
  ⟨h.below.trans k.below, fun hg => (k.own (Nat.lt_of_lt_of_le hg h.below.size)).trans (h.own hg)⟩
theorem Keep.put {n₀ g : Nat} {A : World} {l : Nat} {o : Obj} (o' : Obj) (hn : n₀ ≤ l) (hne : l ≠ g) (hl : A.heap[l]? = some o) : Keep n₀ g A (A.putObj l o') :=
  ⟨(Below.refl n₀ A).grown (grownBy_putObj' A l o') (by have := (Array.getElem?_eq_some_iff.1 hl).1; omega) (fun k e => by cases e; omega), fun _ => World.putObj_heap_other (Ne.symm hne)⟩
theorem grown_trans {a b c : World} {row : Option Nat} (h : a.grownBy b row) (k : b.grownBy c row) : a.grownBy c row :=
  ⟨k.os.trans h.os, k.tape.trans h.tape, k.output.trans h.output, Nat.le_trans h.size k.size, fun i hi hne => (k.block i (Nat.lt_of_lt_of_le hi h.size) hne).trans (h.block i hi hne)⟩
def SeqG {α : Type} (P : Program) (gf : Nat) (lb : Array Value) (Enc : World → α → Array Value → Prop) (n₀ : Nat) (xs : List α) (w0 : World) : Prop :=
  ∀ (l : Nat) (J Jx : Nat → List α → World → Prop) (W : World), Below w0.heap.size w0 W →
    (∀ g pre A B, W.heap.size ≤ g → J g pre A → A.grownBy B (some g) → J g pre B) →
    (∀ g pre A B, W.heap.size ≤ g → Jx g pre A → A.grownBy B (some g) → Jx g pre B) →
    (∀ g pre x post args A, W.heap.size ≤ g → xs = pre ++ x :: post → J g pre A → Enc A x args → YieldAt Fence.wide 0 P l args A fun e W' =>
      (e = .returned (.bool true) ∧ J g (pre ++ [x]) W' ∧ Keep n₀ g A W') ∨ (e = .returned (.bool false) ∧ Jx g (pre ++ [x]) W')) →
    (∀ g, W.heap.size ≤ g → J g [] W) →
    CallsIn Fence.wide 0 P gf (#[.func (.yield l) #[] #[]] ++ lb) W fun e W' => (∃ v, e = .returned v) ∧ ∃ g, W.heap.size ≤ g ∧ (J g xs W' ∨ ∃ pre, pre <+: xs ∧ Jx g pre W')
def Turns (B g : Nat) (A : World) (row : Option Nat) : Prop := ∀ r, row = some r → r = g ∨ (B ≤ r ∧ ∃ o : Obj, A.heap[r]? = some o ∧ o.isCells = false)
def postS {α : Type} (B n₀ g : Nat) (I : Nat → List α → World → Prop) (Ix : Code → Nat → List α → World → Prop) (xs : List α) (W : World) : Exit → Act → World → Prop
  | .normal, _, W' => KeepsFrom B W W' ∧ Keep n₀ g W W' ∧ I g xs W'
  | .ret, _, W' => KeepsFrom B W W' ∧ Ix .ret g xs W'
  | .exit id, _, W' => KeepsFrom B W W' ∧ Ix (.exit id) g xs W'
  | .goto t, _, W' => KeepsFrom B W W' ∧ Ix (.goto t) g xs W'
  | .panic _, _, _ => False
  | .outgrown, _, _ => False
theorem wpIn_seqG {P : Program} {α : Type} {gop : Operand} {ps : Array Tmp} {assign body : Code} {Q : Exit → Act → World → Prop} {a : Act} {w : World}
    {gf : Nat} {lb : Array Value} (hg : a.eval gop = .func (.func gf) #[] lb) (eg : ∀ args w, (callFunc gf args).run P w = .ok (.enter gf args) w)
    {Enc : World → α → Array Value → Prop} {n₀ : Nat} {xs : List α} {w0 : World} (hseq : SeqG P gf lb Enc n₀ xs w0) (hn : n₀ ≤ w.heap.size) (hb0 : Below w0.heap.size w0 w) (hps : ∀ A x args, Enc A x args → args.size = ps.size)
    (I : Nat → List α → World → Prop) (Ix : Code → Nat → List α → World → Prop)
    (hI : ∀ g pre A B row, w.heap.size ≤ g → I g pre A → A.grownBy B row → Turns w.heap.size g A row → I g pre B)
    (hIx : ∀ c g pre A B row, w.heap.size ≤ g → Ix c g pre A → A.grownBy B row → Turns w.heap.size g A row → Ix c g pre B)
    (h0 : ∀ g, w.heap.size ≤ g → I g [] w) (Ax : Nat → List α → α → Act → World → Prop)
    (hAx : ∀ g pre x a' A l o, w.heap.size ≤ g → w.heap.size ≤ l → l ≠ g → A.heap[l]? = some (.loop o) → Ax g pre x a' A → ∀ o', Ax g pre x a' (A.putObj l (.loop o')))
    (hassign : ∀ (l g : Nat) (pre : List α) (x : α) (post : List α) (args : Array Value) (W : World) (K : Act → World → Prop), w.heap.size ≤ g → xs = pre ++ x :: post → I g pre W → Enc W x args →
      (∀ a' W', KeepsFrom w.heap.size W W' → Keep n₀ g W W' → Ax g pre x a' W' → K a' W') →
      assign.wpIn (Fence.wide.inRound l) 0 P (Exit.then K (fun _ _ _ => False)) { tmps := (ps.zip args).foldl (fun t (p, v) => t.setIfInBounds p v) a.tmps, defers := [] } W)
    (hbody : ∀ (l g : Nat) (pre : List α) (x : α) (post : List α) (a' : Act) (W : World), w.heap.size ≤ g → w.heap.size ≤ l → l ≠ g → xs = pre ++ x :: post → Ax g pre x a' W →
      body.wpIn (Fence.wide.inRound l) 0 P (postS w.heap.size n₀ g I Ix (pre ++ [x]) W) a' W)
    (hdone : ∀ (D g : Nat) (W : World), w.heap.size ≤ D → D < g → I g xs W → W.heap[D]? = some (.deferred (some [])) → Q .normal { a with defers := { target := .collected D, args := #[] } :: a.defers } W)
    (hstop : ∀ (D g : Nat) (c : Code) (pre : List α) (W : World), w.heap.size ≤ D → D < g → pre <+: xs → Ix c g pre W → W.heap[D]? = some (.deferred (some [])) → c.wpIn Fence.wide 0 P Q { a with defers := { target := .collected D, args := #[] } :: a.defers } W) :
    (Code.rangeFunc gop ps assign body).wpIn Fence.wide 0 P Q a w := by
  refine wpIn_rangeFunc ?_
  intro fn hfn
  rw [show Fence.wide.round = none from rfl]
  obtain ⟨rec, hrec⟩ : ∃ rec : LoopState → Option Code → Loop, rec = fun st pe => { state := st, pending := pe, fn, tmps := a.tmps, params := ps, assign, body, defers := w.heap.size } := ⟨_, rfl⟩
  obtain ⟨W1, hW1⟩ : ∃ W1, (w.alloc (.deferred (some []))).alloc (.loop (rec .ready none)) = W1 := ⟨_, rfl⟩
  have hs1 : W1.heap.size = w.heap.size + 2 := by rw [← hW1]; simp
  have hL1 : W1.heap[w.heap.size + 1]? = some (.loop (rec .ready none)) := by
    rw [← hW1]; have := World.alloc_heap_new (w.alloc (.deferred (some []))) (.loop (rec .ready none)); rwa [World.size_alloc] at this
  have hK1 : W1.heap[w.heap.size]? = some (.deferred (some [])) := by
    rw [← hW1]; exact (Below.heap_alloc _ _ _ (by simp)).trans (World.alloc_heap_new w _)
  have hg1 : w.grownBy W1 none := by
    rw [← hW1]; exact grown_trans (World.grownBy_alloc w _ none) (World.grownBy_alloc _ _ none)
  have hnone : ∀ {g : Nat} {A : World}, Turns w.heap.size g A none := fun r e => by cases e
  have hI1 : ∀ g, W1.heap.size ≤ g → I g [] W1 := fun g hg => hI g [] w W1 none (by omega) (h0 g (by omega)) hg1 hnone
  have hb1 : Below w0.heap.size w0 W1 := by
    rw [← hW1]; exact hb0.trans ((((Below.refl _ w).alloc (Nat.le_refl _) _).alloc (by simp) _).mono hb0.size)
  have hown : ∀ {g : Nat} {A : World}, Turns w.heap.size g A (some g) := fun r e => by cases e; exact .inl rfl
  have hput : ∀ {g l : Nat} {A : World} {o : Loop}, w.heap.size ≤ l → A.heap[l]? = some (.loop o) → Turns w.heap.size g A (some l) := fun hl ho r e => by cases e; exact .inr ⟨hl, _, ho, rfl⟩
  refine ⟨w.heap.size + 1, [{ target := .collected w.heap.size, args := #[] }], W1, { target := .fn (.func gf) lb, args := #[.func (.yield (w.heap.size + 1)) #[] #[]] }, W1, gf,
    #[.func (.yield (w.heap.size + 1)) #[] #[]] ++ lb, W1, ?_, ?_, ?_, ?_, fun h => by simp [Fence.wide] at h, ?_⟩
  · rw [← hW1, hrec]; exact run_enterLoop_outer _ _ _ _ _
  · simp only [resolve, hg]
    simp [go_sem]
  · intro f' hf'; trivial
  · simp [invoke, go_sem, eg]
  · refine (hseq (w.heap.size + 1)
      (fun g pre W => I g pre W ∧ W.heap[w.heap.size + 1]? = some (.loop (rec .ready none)) ∧ W.heap[w.heap.size]? = some (.deferred (some [])))
      (fun g pre W => ∃ c, Ix c g pre W ∧ W.heap[w.heap.size + 1]? = some (.loop (rec .done (some c))) ∧ W.heap[w.heap.size]? = some (.deferred (some [])))
      W1 hb1
      (fun g s A B hgs hs hg' => ⟨hI g s A B _ (by omega) hs.1 hg' hown, (hg'.block _ (Array.getElem?_eq_some_iff.1 hs.2.1).1 (fun e => by cases e; omega)).trans hs.2.1, (hg'.block _ (Array.getElem?_eq_some_iff.1 hs.2.2).1 (fun e => by cases e; omega)).trans hs.2.2⟩)
      (fun g s A B hgs hs hg' => by
        obtain ⟨c, hc, hl, hk⟩ := hs
        exact ⟨c, hIx c g s A B _ (by omega) hc hg' hown, (hg'.block _ (Array.getElem?_eq_some_iff.1 hl).1 (fun e => by cases e; omega)).trans hl, (hg'.block _ (Array.getElem?_eq_some_iff.1 hk).1 (fun e => by cases e; omega)).trans hk⟩)
      ?_ (fun g hg => ⟨hI1 g hg, hL1, hK1⟩)).mono ?_
    · rintro g pre x post args W hgs hxs ⟨hi, hl, hk⟩ henc
      have hlt : w.heap.size + 1 < W.heap.size := (Array.getElem?_eq_some_iff.1 hl).1
      have hne : w.heap.size + 1 ≠ g := by omega
      have hy := run_yield (P := P) (args := args) hl (by rw [hrec]; exact hps _ _ _ henc)
      rw [hrec] at hy
      refine ⟨fn, _, assign, body, hy, roundIn_of_wpIn hfn (hassign _ g pre x post args W _ (by omega) hxs hi henc ?_)⟩
      clear hy
      intro a' Wa hkfa hkpa hax
      replace hl := hkfa.same _ _ (by omega) hl rfl
      replace hk := hkfa.same _ _ (Nat.le_refl _) hk rfl
      replace hlt : w.heap.size + 1 < Wa.heap.size := (Array.getElem?_eq_some_iff.1 hl).1
      clear hi
      refine ⟨_, run_beginRound hl (by rw [hrec]), ?_⟩
      have hl2 : (Wa.putObj (w.heap.size + 1) (.loop { rec .ready none with state := .busy })).heap[w.heap.size + 1]? = some (.loop { rec .ready none with state := .busy }) := World.putObj_heap_same hlt
      have hk2 : (Wa.putObj (w.heap.size + 1) (.loop { rec .ready none with state := .busy })).heap[w.heap.size]? = some (.deferred (some [])) := (World.putObj_heap_other (by omega)).trans hk
      have hw2 : Keep n₀ g Wa (Wa.putObj (w.heap.size + 1) (.loop { rec .ready none with state := .busy })) := Keep.put _ (by omega) hne hl
      refine wpIn_mono (hbody _ g pre x post a' _ (by omega) (by omega) hne hxs (hAx g pre x a' Wa _ _ (by omega) (by omega) hne hl hax _)) ?_
      have fin : ∀ (jump : Option Code) (W3 : World), KeepsFrom w.heap.size (Wa.putObj (w.heap.size + 1) (.loop { rec .ready none with state := .busy })) W3 →
          (Instr.endRound (w.heap.size + 1) jump).run P W3 = .ok (.bool jump.isNone) (W3.putObj (w.heap.size + 1) (.loop (rec (if jump.isNone then .ready else .done) jump))) ∧
          W3.heap[w.heap.size + 1]? = some (.loop { rec .ready none with state := .busy }) ∧
          (W3.putObj (w.heap.size + 1) (.loop (rec (if jump.isNone then .ready else .done) jump))).heap[w.heap.size + 1]? = some (.loop (rec (if jump.isNone then .ready else .done) jump)) ∧
          (W3.putObj (w.heap.size + 1) (.loop (rec (if jump.isNone then .ready else .done) jump))).heap[w.heap.size]? = some (.deferred (some [])) := fun jump W3 hk3 => by
        have hl3 := hk3.same _ _ (by omega) hl2 rfl
        have := run_endRound (P := P) jump hl3
        rw [hrec] at this ⊢
        exact ⟨this, by rw [hrec] at hl3; exact hl3, World.putObj_heap_same (Array.getElem?_eq_some_iff.1 hl3).1, (World.putObj_heap_other (by omega)).trans (hk3.same _ _ (Nat.le_refl _) hk2 rfl)⟩
      rintro e a3 W3 hp
      cases e with
      | normal =>
        obtain ⟨hk3, hkp3, hi3⟩ := hp
        obtain ⟨hr, hl3, hl4, hk4⟩ := fin none W3 hk3
        exact ⟨_, _, hr, .inl ⟨rfl, ⟨hI g _ _ _ _ (by omega) hi3 (grownBy_putObj' W3 _ _) (hput (by omega) hl3), hl4, hk4⟩, hkpa.trans ((hw2.trans hkp3).trans (Keep.put _ (by omega) hne hl3))⟩⟩
      | ret =>
        obtain ⟨hk3, hi3⟩ := hp
        obtain ⟨hr, hl3, hl4, hk4⟩ := fin (some .ret) W3 hk3
        exact ⟨_, _, hr, .inr ⟨rfl, .ret, hIx _ g _ _ _ _ (by omega) hi3 (grownBy_putObj' W3 _ _) (hput (by omega) hl3), hl4, hk4⟩⟩
      | exit id =>
        obtain ⟨hk3, hi3⟩ := hp
        obtain ⟨hr, hl3, hl4, hk4⟩ := fin (some (.exit id)) W3 hk3
        exact ⟨_, _, hr, .inr ⟨rfl, .exit id, hIx _ g _ _ _ _ (by omega) hi3 (grownBy_putObj' W3 _ _) (hput (by omega) hl3), hl4, hk4⟩⟩
      | goto t =>
        obtain ⟨hk3, hi3⟩ := hp
        obtain ⟨hr, hl3, hl4, hk4⟩ := fin (some (.goto t)) W3 hk3
        exact ⟨_, _, hr, .inr ⟨rfl, .goto t, hIx _ g _ _ _ _ (by omega) hi3 (grownBy_putObj' W3 _ _) (hput (by omega) hl3), hl4, hk4⟩⟩
      | panic ch => exact hp.elim
      | outgrown => exact hp.elim
    · rintro e W2 ⟨⟨v, rfl⟩, g, hgs, (⟨hi, hl, hk⟩ | ⟨pre, hpre, c, hi, hl, hk⟩)⟩
      · exact ⟨none, _, by have := run_endLoop (P := P) hl (by rw [hrec]; simp); rw [hrec] at this; exact this, hdone _ g _ (Nat.le_refl _) (by omega) (hI g _ _ _ _ (by omega) hi (grownBy_putObj' W2 _ _) (hput (by omega) hl)) ((World.putObj_heap_other (by omega)).trans hk)⟩
      · exact ⟨some c, _, by have := run_endLoop (P := P) hl (by rw [hrec]; simp); rw [hrec] at this; exact this, hstop _ g c pre _ (Nat.le_refl _) (by omega) hpre (hIx c g _ _ _ _ (by omega) hi (grownBy_putObj' W2 _ _) (hput (by omega) hl)) ((World.putObj_heap_other (by omega)).trans hk)⟩
end Go.Proofs.YtmbiiemlepfoaaaGreatDoor
namespace Go.Proofs.YtmbiiemlepfoaaaGreatDoor
open Go.RowKit
set_option linter.unusedVariables false
theorem cursorAt (w : World) (D : Nat → Prop) {p : Option Addr} {t : T} (h : TreeAt w D p t) (i : Nat) (hi : i ≤ t.size) :
    Calls Tryz.prog 174 #[.pointer p, .int .i64 (i : Int)] w fun e w' => e = .returned (.pointer (some ⟨w.heap.size, 0, none⟩)) ∧ w' = w.alloc (.cells #[.pointer p, .int .i64 (i : Int)] 372) := by
  have CS := Lib.hid (treeSize w h)
  clear h
  have g0 : ¬ (i : Int) < 0 := by omega
  have g1 : ¬ (0 : Int) < -(i : Int) := by omega
  have g2 : ¬ (t.size : Int) < (i : Int) := by omega
  go_enter Tryz.func174, Tryz.ntmps174
  go_wp2_with (go_at_call 64; ((with_reducible refine CS.out.mono ?_)); rintro e w1 ⟨rfl, rfl⟩)
  go_ret
  exact ⟨rfl, rfl⟩
theorem cursorPlace (w : World) {g i : Nat} (h : w.cell? ⟨g, 1, none⟩ = some (.int .i64 (i : Int))) :
    Calls Tryz.prog 175 #[.pointer (some ⟨g, 0, none⟩)] w fun e w' => e = .returned (.int .i64 (i : Int)) ∧ w = w' := by
  go_enter Tryz.func175, Tryz.ntmps175
  go_wp2
  go_ret
  exact ⟨rfl, rfl⟩
structure NextS (D : Nat → Prop) (w w' : World) (g : Nat) (p : Option Addr) (i : Nat) (q1 : Option Addr) (d1 : Nat) (k : List UInt8) (q2 : Option Addr) (d2 : Nat) (v : List UInt8) : Prop where
  key : IsD w' D q1 d1 k
  val : IsD w' D q2 d2 v
  grown : w.grownBy w' (some g)
  row : w'.heap[g]? = some (.cells #[.pointer p, .int .i64 (i : Int)] 372)
abbrev zeroPair : Obj := .cells #[.slice none 0 0, .slice none 0 0] 61
def NextR (w : World) (k v : List UInt8) (v4 v5 : Value) (wx : World) : Prop :=
  ∃ (gp : Nat) (q1 : Option Addr) (d1 : Nat) (q2 : Option Addr) (d2 : Nat), v4 = .pointer (some ⟨gp, 0, none⟩) ∧ v5 = .bool true ∧ w.heap.size < gp ∧ Below (w.heap.size + 1) (w.alloc zeroPair) wx ∧
    wx.heap[gp]? = some (.cells #[.slice q1 k.length d1, .slice q2 v.length d2] 61) ∧ IsD wx (fun j => w.heap.size < j ∧ j ≠ gp) q1 d1 k ∧ IsD wx (fun j => w.heap.size < j ∧ j ≠ gp) q2 d2 v
theorem next_fin1 {w w1 : World} {k v : List UInt8} {q1 q2 : Option Addr} {d1 d2 : Nat} (h1 : IsD w1 (fun j => (w.alloc zeroPair).drew.heap.size ≤ j) q1 d1 k) (h2 : IsD w1 (fun j => (w.alloc zeroPair).drew.heap.size ≤ j) q2 d2 v)
    (hb : Below (w.alloc zeroPair).drew.heap.size (w.alloc zeroPair).drew w1) : NextR w k v (.pointer (some ⟨w1.heap.size, 0, none⟩)) (.bool true) (w1.alloc (.cells #[.slice q1 k.length d1, .slice q2 v.length d2] 61)) := by
  have hs : (w.alloc zeroPair).drew.heap.size = w.heap.size + 1 := by simp
  have hz := hb.size
  rw [hs] at hz h1 h2 hb
  have hn := (Below.refl w1.heap.size w1).alloc (Nat.le_refl _) (.cells #[.slice q1 k.length d1, .slice q2 v.length d2] 61)
  refine ⟨w1.heap.size, q1, d1, q2, d2, rfl, rfl, by omega, ?_, heap_alloc_new _ _, ?_, ?_⟩
  · have h0 : Below (w.heap.size + 1) (w.alloc zeroPair) (w.alloc zeroPair).drew := (Below.refl _ _).drew
    exact (h0.trans hb).alloc (by simpa using hz) _
  · exact (h1.mono fun j hj hd => ⟨by omega, by omega⟩).below hn
  · exact (h2.mono fun j hj hd => ⟨by omega, by omega⟩).below hn
theorem next_fin2 {w w1 : World} {k v : List UInt8} {q1 q2 : Option Addr} {d1 d2 : Nat} (h1 : IsD w1 (fun j => ((w.alloc zeroPair).alloc zeroPair).drew.heap.size ≤ j) q1 d1 k) (h2 : IsD w1 (fun j => ((w.alloc zeroPair).alloc zeroPair).drew.heap.size ≤ j) q2 d2 v)
    (hb : Below ((w.alloc zeroPair).alloc zeroPair).drew.heap.size ((w.alloc zeroPair).alloc zeroPair).drew w1) :
    NextR w k v (.pointer (some ⟨w.heap.size + 1, 0, none⟩)) (.bool true) ((w1.setCell ⟨w.heap.size + 1, 0, none⟩ (.slice q1 k.length d1)).setCell ⟨w.heap.size + 1, 1, none⟩ (.slice q2 v.length d2)) := by
  have hs : ((w.alloc zeroPair).alloc zeroPair).drew.heap.size = w.heap.size + 2 := by simp
  have hz := hb.size
  rw [hs] at hz h1 h2 hb
  have hrow := (hb.block (w.heap.size + 1) (by omega)).trans (heap_alloc2_new w zeroPair zeroPair)
  have hn : ¬ w.heap.size + 2 ≤ w.heap.size + 1 := by omega
  refine ⟨w.heap.size + 1, q1, d1, q2, d2, rfl, rfl, by omega, ?_, ?_, ?_, ?_⟩
  · have h0 : Below (w.heap.size + 1) (w.alloc zeroPair) ((w.alloc zeroPair).alloc zeroPair).drew := ((Below.refl _ _).alloc (by simp) _).drew
    exact (((h0.trans (hb.mono (by omega))).setCell (p := ⟨w.heap.size + 1, 0, none⟩) (Nat.le_refl _) _).setCell (p := ⟨w.heap.size + 1, 1, none⟩) (Nat.le_refl _) _)
  · simp [World.setCell, Array.getElem?_modify, hrow]
  · exact (isD_set (isD_set h1 hn _ _) hn _ _).mono fun j _ hd => ⟨by omega, by omega⟩
  · exact (isD_set (isD_set h2 hn _ _) hn _ _).mono fun j _ hd => ⟨by omega, by omega⟩
theorem next_end {w wc : World} {D' : Nat → Prop} (hD : ∀ k, w.heap.size ≤ k → D' k) {g gp i : Nat} {p : Option Addr} {k v : List UInt8} {q1 q2 : Option Addr} {d1 d2 : Nat} (hgl : g < w.heap.size) (hb : Below (w.heap.size + 1) (w.alloc zeroPair) wc) (hgp : w.heap.size < gp)
    (hg : wc.heap[g]? = some (.cells #[.pointer p, .int .i64 (i : Int)] 372)) (h1 : IsD wc (fun j => w.heap.size < j ∧ j ≠ gp) q1 d1 k) (h2 : IsD wc (fun j => w.heap.size < j ∧ j ≠ gp) q2 d2 v) (x y : Value) :
    NextS D' w (((wc.setCell ⟨g, 1, none⟩ (.int .i64 ((i : Int) + 1))).setCell ⟨w.heap.size, 0, none⟩ x).setCell ⟨w.heap.size, 1, none⟩ y) g p (i + 1) q1 d1 k q2 d2 v := by
  have hn : ¬ (w.heap.size < w.heap.size ∧ w.heap.size ≠ gp) := by omega
  have hn2 : ¬ (w.heap.size < g ∧ g ≠ gp) := by omega
  have hz := hb.size
  have hz' : w.heap.size + 1 ≤ wc.heap.size := by simpa using hz
  have hne : ¬ w.heap.size = g := by omega
  refine ⟨((isD_set (isD_set (isD_set h1 hn2 _ _) hn _ _) hn _ _)).mono fun j _ hd => hD _ (by omega), ((isD_set (isD_set (isD_set h2 hn2 _ _) hn _ _) hn _ _)).mono fun j _ hd => hD _ (by omega), ?_, ?_⟩
  · have ha := (Below.refl w.heap.size w).alloc (Nat.le_refl _) zeroPair
    have h3 := ha.trans (hb.mono (Nat.le_succ _))
    refine ⟨h3.os, h3.tape, h3.output, by simp [World.setCell]; omega, fun j hj hne2 => ?_⟩
    have hjg : j ≠ g := fun e => hne2 (by rw [e])
    rw [Below.heap_setCell _ _ _ j (fun e => by have : j = w.heap.size := e; omega), Below.heap_setCell _ _ _ j (fun e => by have : j = w.heap.size := e; omega), Below.heap_setCell _ _ _ j (fun e => hjg e)]
    exact h3.block j hj
  · simp [World.setCell, Array.getElem?_modify, hg, hne]
set_option maxHeartbeats 4000000 in
set_option maxRecDepth 100000 in
theorem cursorNext (w : World) (D D' : Nat → Prop) (hD : ∀ k, w.heap.size ≤ k → D' k) {p : Option Addr} {t : T} (h : TreeAt w D p t) (hsm : t.Small) (hsz : t.size < 1152921504606846976) {g i : Nat} (hg : w.heap[g]? = some (.cells #[.pointer p, .int .i64 (i : Int)] 372)) {k v : List UInt8} (hi : t.list[i]? = some (k, v)) :
    Calls Tryz.prog 176 #[.pointer (some ⟨g, 0, none⟩)] w fun e w' => ∃ q1 d1 q2 d2, e = .returned (.tuple #[pairV q1 d1 k q2 d2 v, .bool true]) ∧ NextS D' w w' g p (i + 1) q1 d1 k q2 d2 v := by
  have hil : i < t.size := by rw [← T.list_length]; exact (List.getElem?_eq_some_iff.1 hi).1
  have CAT := Lib.hid (show ∀ w', Below w.heap.size w w' → Calls Tryz.prog 246 #[.pointer p, .int .i64 (i : Int)] w' _ from fun w' hb => rankAt w' (fun j => w'.heap.size ≤ j) (fun _ h => h) (h.below hb) hsm hsz i hi)
  have c0 : w.cell? ⟨g, 0, none⟩ = some (.pointer p) := cell_of_row w g 0 _ _ (0, 0) hg
  have c1 : w.cell? ⟨g, 1, none⟩ = some (.int .i64 (i : Int)) := cell_of_row w g 1 _ _ (0, 0) hg
  have hbA := ((Below.refl _ w).alloc (Nat.le_refl _) (.cells #[.slice none 0 0, .slice none 0 0] 61)).drew
  have hbB := (((Below.refl _ w).alloc (Nat.le_refl _) (.cells #[.slice none 0 0, .slice none 0 0] 61)).alloc (by simp) (.cells #[.slice none 0 0, .slice none 0 0] 61)).drew
  have RB : ((w.alloc (.cells #[.slice none 0 0, .slice none 0 0] 61)).alloc (.cells #[.slice none 0 0, .slice none 0 0] 61)).drew.heap[w.heap.size + 1]? = some (.cells #[.slice none 0 0, .slice none 0 0] 61) := heap_alloc2_new _ _ _
  have HRB := Lib.hid RB
  clear RB
  have hgl := row_ltT hg
  have HG := Lib.hid hg
  have HD := Lib.hid hD
  clear h hi hg hD
  go_enter Tryz.func176, Tryz.ntmps176
  go_wp2_with fail
  go_upto_region 1 with fail
  go_cut [4, 5] (fun v4 v5 wx => NextR w k v v4 v5 wx)
  case first =>
    go_region_with (go_at_call 246; first | (((with_reducible refine (CAT.out _ hbA).mono ?_)); rintro e w1 ⟨q1, d1, q2, d2, rfl, hI1, hI2, hb⟩; have HI1 := Lib.hid hI1; have HI2 := Lib.hid hI2; have HB := Lib.hid hb; clear hI1 hI2 hb) | (((with_reducible refine (CAT.out _ hbB).mono ?_)); rintro e w1 ⟨q1, d1, q2, d2, rfl, hI1, hI2, hb⟩; have r1 := (hb.block (w.heap.size + 1) (by simp)).trans HRB.out; have f0 : w1.frozen? ⟨w.heap.size + 1, 0, none⟩ = false := frozen_of_row w1 _ 0 _ _ r1; have f1 : w1.frozen? ⟨w.heap.size + 1, 1, none⟩ = false := frozen_of_row w1 _ 1 _ _ r1; have c10 : w1.cell? ⟨w.heap.size + 1, 0, none⟩ = some (.slice none 0 0) := cell_of_row w1 _ 0 _ _ (0, 0) r1; have c11 : w1.cell? ⟨w.heap.size + 1, 1, none⟩ = some (.slice none 0 0) := cell_of_row w1 _ 1 _ _ (0, 0) r1; have HI1 := Lib.hid hI1; have HI2 := Lib.hid hI2; have HB := Lib.hid hb; clear hI1 hI2 hb r1))
    all_goals
      go_wp2_with fail
      go_meet
      first
        | exact next_fin1 HI1.out HI2.out HB.out
        | exact next_fin2 HI1.out HI2.out HB.out
  case rest =>
    obtain ⟨gp, q1, d1, q2, d2, rfl, rfl, hgp, hb, hrow, hI1, hI2⟩ := hcut
    have hg1 : wc.heap[g]? = some (.cells #[.pointer p, .int .i64 (i : Int)] 372) := ((hb.block g (by omega)).trans (haOld _ _ hgl)).trans HG.out
    have hr1 : wc.heap[w.heap.size]? = some zeroPair := (hb.block _ (by omega)).trans (heap_alloc_new _ _)
    have e1 : wc.cell? ⟨g, 1, none⟩ = some (.int .i64 (i : Int)) := cell_of_row wc g 1 _ _ (0, 0) hg1
    have e2 : wc.frozen? ⟨g, 1, none⟩ = false := frozen_of_row wc g 1 _ _ hg1
    have e3 : wc.cell? ⟨gp, 0, none⟩ = some (.slice q1 k.length d1) := cell_of_row wc gp 0 _ _ (0, 0) hrow
    have e4 : wc.cell? ⟨gp, 1, none⟩ = some (.slice q2 v.length d2) := cell_of_row wc gp 1 _ _ (0, 0) hrow
    have e5 : wc.cell? ⟨w.heap.size, 0, none⟩ = some (.slice none 0 0) := cell_of_row wc _ 0 _ _ (0, 0) hr1
    have e6 : wc.cell? ⟨w.heap.size, 1, none⟩ = some (.slice none 0 0) := cell_of_row wc _ 1 _ _ (0, 0) hr1
    have e7 : wc.frozen? ⟨w.heap.size, 0, none⟩ = false := frozen_of_row wc _ 0 _ _ hr1
    have e8 : wc.frozen? ⟨w.heap.size, 1, none⟩ = false := frozen_of_row wc _ 1 _ _ hr1
    have n1 : g ≠ gp := by omega
    have n2 : gp ≠ g := by omega
    have n3 : g ≠ w.heap.size := by omega
    have n4 : w.heap.size ≠ g := by omega
    have w1' : IntKind.i64.wrap ((i : Int) + 1) = ((i + 1 : Nat) : Int) := by rw [IntWalk.i64_in _ (by omega)]; omega
    have HBB := Lib.hid hb
    have HG1 := Lib.hid hg1
    have HI1 := Lib.hid hI1
    have HI2 := Lib.hid hI2
    clear hb hg1 hI1 hI2 hrow hr1
    go_wp2
    refine bodyPost_ret (v := .tuple #[pairV q1 d1 k q2 d2 v, .bool true]) ?_ rfl ?_
    · rw [results_cell_tmp rfl]
      simp [go_sem, asAddr, Result.andThen, e5, e6, n3, n4]
    exact ⟨_, _, _, _, rfl, next_end HD.out hgl HBB.out hgp HG1.out HI1.out HI2.out _ _⟩
end Go.Proofs.YtmbiiemlepfoaaaGreatDoor
namespace Go.Proofs.YtmbiiemlepfoaaaGreatDoor
open Go.RowKit Go.Shelf
set_option linter.unusedVariables false
abbrev spanV (fp : Option Addr) (fc : Nat) (f : List UInt8) (tp : Option Addr) (tc : Nat) (t : List UInt8) (closed : Bool) : Value := .agg #[.slice fp f.length fc, .slice tp t.length tc, .bool closed]
def endM (t : T) (tk : List UInt8) (closed : Bool) : Nat := if closed then rankM t tk else t.size
theorem endM_le (t : T) (tk : List UInt8) (closed : Bool) : endM t tk closed ≤ t.size := by
  unfold endM
  split
  · exact rankM_le _ _
  · exact Nat.le_refl _
set_option maxHeartbeats 1000000 in
set_option maxRecDepth 100000 in
theorem walkEnds (w : World) (D : Nat → Prop) {p : Option Addr} {t : T} (h : TreeAt w D p t) (hsm : t.Small) (hsz : t.size < 1152921504606846976) {fp tp : Option Addr} {fc tc : Nat} {f tk : List UInt8} (hf : IsB w fp fc f) (ht : IsB w tp tc tk) (closed : Bool) :
    Calls Tryz.prog 173 #[.pointer p, spanV fp fc f tp tc tk closed] w fun e w' => e = .returned (.tuple #[.int .i64 (rankM t f : Int), .int .i64 (endM t tk closed : Int)]) ∧ Below w.heap.size w w' := by
  obtain ⟨W2, hW2⟩ : ∃ x, x = w.alloc (.cells #[.slice fp f.length fc, .slice tp tk.length tc, .bool closed] 151) := ⟨_, rfl⟩
  have hs : W2.heap.size = w.heap.size + 1 := by rw [hW2]; simp
  have hB : Below w.heap.size w W2 := by rw [hW2]; exact (Below.refl _ w).alloc (Nat.le_refl _) _
  have r0 : W2.heap[w.heap.size]? = some (.cells #[.slice fp f.length fc, .slice tp tk.length tc, .bool closed] 151) := by rw [hW2]; exact heap_alloc_new _ _
  have HC := Lib.hid (show ∀ w', Below W2.heap.size W2 w' → w'.cell? ⟨w.heap.size, 0, none⟩ = some (.slice fp f.length fc) ∧ w'.cell? ⟨w.heap.size, 1, none⟩ = some (.slice tp tk.length tc) ∧ w'.cell? ⟨w.heap.size, 2, none⟩ = some (.bool closed) from fun w' hb => by
    have r1 := (hb.block w.heap.size (by omega)).trans r0
    exact ⟨cell_of_row w' _ 0 _ _ (0, 0) r1, cell_of_row w' _ 1 _ _ (0, 0) r1, cell_of_row w' _ 2 _ _ (0, 0) r1⟩)
  have CS := Lib.hid (treeSize W2 (h.below hB))
  have CT := Lib.hid (show ∀ w', Below W2.heap.size W2 w' → Calls Tryz.prog 245 #[.pointer p, .slice tp tk.length tc] w' _ from fun w' hb => rankRank w' D (h.below (hB.trans (hb.mono hB.size))) hsm hsz (ht.below (hB.trans (hb.mono hB.size))))
  have CF := Lib.hid (show ∀ w', Below W2.heap.size W2 w' → Calls Tryz.prog 245 #[.pointer p, .slice fp f.length fc] w' _ from fun w' hb => rankRank w' D (h.below (hB.trans (hb.mono hB.size))) hsm hsz (hf.below (hB.trans (hb.mono hB.size))))
  have HB := Lib.hid hB
  have hB2 := Below.refl W2.heap.size W2
  obtain ⟨c0, c1, c2⟩ := HC.out _ hB2
  clear h hsm hf ht hB r0 hs
  go_enter Tryz.func173, Tryz.ntmps173
  go_wp2_with fail
  rw [← hW2]
  clear hW2
  cases closed with
  | true =>
    go_wp2_with first | (go_at_call 64; ((with_reducible refine CS.out.mono ?_)); rintro e w1 ⟨rfl, rfl⟩) | (go_at_call 245; first | (((with_reducible refine (CT.out _ hB2).mono ?_)); rintro e w2 ⟨rfl, hb⟩; have hB3 := hB2.trans hb; obtain ⟨c0', c1', c2'⟩ := HC.out _ hB3; clear hb) | (((with_reducible refine (CF.out _ hB3).mono ?_)); rintro e w3 ⟨rfl, hb⟩; have HB4 := Lib.hid (HB.out.trans ((hB3.trans (hb.mono hB3.size)).mono HB.out.size)); clear hb))
    refine bodyPost_ret (results_tmp2 rfl _ _ _) rfl ?_
    exact ⟨rfl, HB4.out⟩
  | false =>
    go_wp2_with first | (go_at_call 64; ((with_reducible refine CS.out.mono ?_)); rintro e w1 ⟨rfl, rfl⟩) | (go_at_call 245; (((with_reducible refine (CF.out _ hB2).mono ?_)); rintro e w3 ⟨rfl, hb⟩; have HB4 := Lib.hid (HB.out.trans (hb.mono HB.out.size)); clear hb))
    refine bodyPost_ret (results_tmp2 rfl _ _ _) rfl ?_
    exact ⟨rfl, HB4.out⟩
end Go.Proofs.YtmbiiemlepfoaaaGreatDoor
