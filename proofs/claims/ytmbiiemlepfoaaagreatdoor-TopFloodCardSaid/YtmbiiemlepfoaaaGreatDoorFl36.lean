/- What the reference's Lay holds while it gathers a branch. -/
import Derived.Test.YtmbiiemlepfoaaaGreatDoorFl35

namespace Go.Proofs.YtmbiiemlepfoaaaGreatDoor
open Go.RowKit
set_option linter.unusedVariables false
abbrev rn3 (sp : Option Addr) (n sc : Nat) (kp : Option Addr) (m kc : Nat) : Obj := .cells #[.int .i64 3, .int .u64 0, .slice none 0 0, .slice sp n sc, .slice kp m kc] 138
def blk (p : Option Addr) : Option Nat := p.map (·.block)
theorem own_blk (p : Option Addr) (n c : Nat) : (Value.slice p n c).ownBlock = blk p := by cases p <;> rfl
structure LayS (W9 : World) (g : Nat) (S : List Nat) (K : List RN) (sp : Option Addr) (sc : Nat) (kp : Option Addr) (kc : Nat) (cs : List Value) (wr : World) : Prop where
  row : wr.heap[g]? = some (rn3 sp S.length sc kp K.length kc)
  set : wr.ownsRow W9.heap.size 3 1 (.slice sp S.length sc) S.length (S.map ivR)
  kid : wr.ownsRow W9.heap.size 138 5 (.slice kp K.length kc) K.length cs
  ats : RN.Ats wr (fun j => W9.heap.size ≤ j ∧ blk sp ≠ some j ∧ blk kp ≠ some j) K cs
  grown : W9.grownBy wr (some g)
  lt : g < W9.heap.size
theorem own_row {w : World} {base e s n : Nat} {p : Option Addr} {c : Nat} {xs : List Value} (h : w.ownsRow base e s (.slice p n c) n xs) {b : Nat} (hb : blk p = some b) : base ≤ b ∧ b < w.heap.size ∧ ∃ cur, w.heap[b]? = some (.cells cur e (0, 0)) := by
  rcases h.2 with ⟨hv, _⟩ | ⟨g, cap, cur, hv, hg, hh, _⟩
  · injection hv with h1; subst h1; cases hb
  · injection hv with h1
    subst h1
    injection hb with hb
    subst hb
    exact ⟨hg, row_ltT hh, cur, hh⟩
theorem LayS.apart {W9 : World} {g : Nat} {S : List Nat} {K : List RN} {sp : Option Addr} {sc : Nat} {kp : Option Addr} {kc : Nat} {cs : List Value} {wr : World} (h : LayS W9 g S K sp sc kp kc cs wr) {b : Nat} (h1 : blk sp = some b) : blk kp ≠ some b := fun h2 => by
  obtain ⟨_, _, c1, e1⟩ := own_row h.set h1
  obtain ⟨_, _, c2, e2⟩ := own_row h.kid h2
  rw [e1] at e2
  injection e2 with e2
  injection e2 with _ e2
  cases e2
theorem LayS.below {W9 : World} {g : Nat} {S : List Nat} {K : List RN} {sp : Option Addr} {sc : Nat} {kp : Option Addr} {kc : Nat} {cs : List Value} {wr w' : World} (h : LayS W9 g S K sp sc kp kc cs wr) (hb : Below wr.heap.size wr w') : LayS W9 g S K sp sc kp kc cs w' :=
  ⟨(hb.block g (Nat.lt_of_lt_of_le h.lt h.grown.size)).trans h.row, own_belowA h.set hb, own_belowA h.kid hb, h.ats.below hb, grown_trans h.grown ⟨hb.os, hb.tape, hb.output, hb.size, fun k hk _ => hb.block k hk⟩, h.lt⟩
theorem LayS.setApp {W9 : World} {g : Nat} {S : List Nat} {K : List RN} {sp : Option Addr} {sc : Nat} {kp : Option Addr} {kc : Nat} {cs : List Value} {wr w7 : World} (h : LayS W9 g S K sp sc kp kc cs wr) {sp' : Option Addr} {sc' c : Nat}
    (ha : AppX wr w7 W9.heap.size 3 1 sp S.length sc sp' sc' (S.map ivR ++ [ivR c])) : LayS W9 g (S ++ [c]) K sp' sc' kp kc cs (w7.setCell ⟨g, 3, none⟩ (.slice sp' (S.length + 1) sc')) := by
  have hgl := Nat.lt_of_lt_of_le h.lt h.grown.size
  have hpl := ha.place
  rw [own_blk, own_blk] at hpl
  have hgr := ha.grow
  rw [own_blk] at hgr
  have hgs : blk sp ≠ some g := fun e => by have := (own_row h.set e).1; have := h.lt; omega
  have hr7 : w7.heap[g]? = some (rn3 sp S.length sc kp K.length kc) := (hgr.block g hgl fun e => hgs e.symm).trans h.row
  have hs7 : ∀ k, k ≠ g → (w7.setCell ⟨g, 3, none⟩ (.slice sp' (S.length + 1) sc')).heap[k]? = w7.heap[k]? := fun k hk => set_otherA (a := ⟨g, 3, none⟩) hk
  have hkeep : w7.grownBy (w7.setCell ⟨g, 3, none⟩ (.slice sp' (S.length + 1) sc')) (some g) := ⟨rfl, rfl, rfl, by rw [set_sizeA]; exact Nat.le_refl _, fun k _ hk => hs7 k fun e => hk (by rw [e])⟩
  have hkne : ∀ {p : Option Addr} {n d : Nat} {e s : Nat} {w : World} {xs : List Value}, w.ownsRow W9.heap.size e s (.slice p n d) n xs → (Value.slice p n d).ownBlock = none ∨ (Value.slice p n d).ownBlock ≠ some g := fun {p n d e s w xs} ho => by
    rw [own_blk]
    refine .inr fun eq => ?_
    have := (own_row ho eq).1
    have := h.lt
    omega
  have hlen : (S ++ [c]).length = S.length + 1 := by simp
  refine ⟨?_, ?_, ?_, ?_, ?_, h.lt⟩
  · rw [hlen]
    exact (set_rowA (i := 3) (x := .slice sp' (S.length + 1) sc') hr7).trans rfl
  · rw [hlen, List.map_append]
    exact ha.own.kept hkeep (hkne ha.own)
  · have hk7 : w7.ownsRow W9.heap.size 138 5 (.slice kp K.length kc) K.length cs := h.kid.kept hgr (by
      rw [own_blk]
      cases e : blk kp with
      | none => exact .inl rfl
      | some b => exact .inr fun e2 => h.apart e2.symm e)
    exact hk7.kept hkeep (hkne hk7)
  · have a1 := h.ats.mono (D' := fun j => W9.heap.size ≤ j ∧ blk sp ≠ some j ∧ blk sp' ≠ some j ∧ blk kp ≠ some j) fun k hk hd => ⟨hd.1, hd.2.1, fun e => by
      rcases hpl with e2 | e2
      · exact hd.2.1 (e2 ▸ e)
      · rw [e2] at e; injection e with e; omega, hd.2.2⟩
    have a2 := a1.keep (w' := w7) hgr.size fun k hk hd => hgr.block k hk fun e => hd.2.1 e.symm
    have a3 := a2.keep hkeep.size fun k hk hd => hs7 k fun e => by have := h.lt; have := hd.1; omega
    exact a3.mono fun k hk hd => ⟨hd.1, hd.2.2.1, hd.2.2.2⟩
  · exact grown_trans ⟨hgr.os.trans h.grown.os, hgr.tape.trans h.grown.tape, hgr.output.trans h.grown.output, Nat.le_trans h.grown.size hgr.size, fun k hk hn => (hgr.block k (Nat.lt_of_lt_of_le hk h.grown.size) fun e => by have := (own_row h.set e.symm).1; omega).trans (h.grown.block k hk hn)⟩ hkeep
theorem LayS.kidApp {W9 : World} {g : Nat} {S : List Nat} {K : List RN} {sp : Option Addr} {sc : Nat} {kp : Option Addr} {kc : Nat} {cs : List Value} {wr w7 : World} (h : LayS W9 g S K sp sc kp kc cs wr) {kp' : Option Addr} {kc' : Nat} {r : RN} {vs : List Value} (hr : RN.At wr (fun j => W9.heap.size ≤ j ∧ blk sp ≠ some j ∧ blk kp ≠ some j) r vs)
    (ha : AppX wr w7 W9.heap.size 138 5 kp K.length kc kp' kc' (cs ++ vs)) : LayS W9 g S (K ++ [r]) sp sc kp' kc' (cs ++ vs) (w7.setCell ⟨g, 4, none⟩ (.slice kp' (K.length + 1) kc')) := by
  have hgl := Nat.lt_of_lt_of_le h.lt h.grown.size
  have hpl := ha.place
  rw [own_blk, own_blk] at hpl
  have hgr := ha.grow
  rw [own_blk] at hgr
  have hgs : blk kp ≠ some g := fun e => by have := (own_row h.kid e).1; have := h.lt; omega
  have hr7 : w7.heap[g]? = some (rn3 sp S.length sc kp K.length kc) := (hgr.block g hgl fun e => hgs e.symm).trans h.row
  have hs7 : ∀ k, k ≠ g → (w7.setCell ⟨g, 4, none⟩ (.slice kp' (K.length + 1) kc')).heap[k]? = w7.heap[k]? := fun k hk => set_otherA (a := ⟨g, 4, none⟩) hk
  have hkeep : w7.grownBy (w7.setCell ⟨g, 4, none⟩ (.slice kp' (K.length + 1) kc')) (some g) := ⟨rfl, rfl, rfl, by rw [set_sizeA]; exact Nat.le_refl _, fun k _ hk => hs7 k fun e => hk (by rw [e])⟩
  have hkne : ∀ {p : Option Addr} {n d : Nat} {e s : Nat} {w : World} {xs : List Value}, w.ownsRow W9.heap.size e s (.slice p n d) n xs → (Value.slice p n d).ownBlock = none ∨ (Value.slice p n d).ownBlock ≠ some g := fun {p n d e s w xs} ho => by
    rw [own_blk]
    refine .inr fun eq => ?_
    have := (own_row ho eq).1
    have := h.lt
    omega
  have hlen : (K ++ [r]).length = K.length + 1 := by simp
  refine ⟨?_, ?_, ?_, ?_, ?_, h.lt⟩
  · rw [hlen]
    exact (set_rowA (i := 4) (x := .slice kp' (K.length + 1) kc') hr7).trans rfl
  · have hk7 : w7.ownsRow W9.heap.size 3 1 (.slice sp S.length sc) S.length (S.map ivR) := h.set.kept hgr (by
      rw [own_blk]
      cases e : blk sp with
      | none => exact .inl rfl
      | some b => exact .inr fun e2 => h.apart e e2.symm)
    exact hk7.kept hkeep (hkne hk7)
  · rw [hlen]
    exact ha.own.kept hkeep (hkne ha.own)
  · have a1 := (RN.Ats.snoc hr h.ats).mono (D' := fun j => W9.heap.size ≤ j ∧ blk kp ≠ some j ∧ blk kp' ≠ some j ∧ blk sp ≠ some j) fun k hk hd => ⟨hd.1, hd.2.2, fun e => by
      rcases hpl with e2 | e2
      · exact hd.2.2 (e2 ▸ e)
      · rw [e2] at e; injection e with e; omega, hd.2.1⟩
    have a2 := a1.keep (w' := w7) hgr.size fun k hk hd => hgr.block k hk fun e => hd.2.1 e.symm
    have a3 := a2.keep hkeep.size fun k hk hd => hs7 k fun e => by have := h.lt; have := hd.1; omega
    exact a3.mono fun k hk hd => ⟨hd.1, hd.2.2.2, hd.2.2.1⟩
  · exact grown_trans ⟨hgr.os.trans h.grown.os, hgr.tape.trans h.grown.tape, hgr.output.trans h.grown.output, Nat.le_trans h.grown.size hgr.size, fun k hk hn => (hgr.block k (Nat.lt_of_lt_of_le hk h.grown.size) fun e => by have := (own_row h.kid e.symm).1; omega).trans (h.grown.block k hk hn)⟩ hkeep
theorem LayS.rowSet {W9 : World} {g : Nat} {S : List Nat} {K : List RN} {sp : Option Addr} {sc : Nat} {kp : Option Addr} {kc : Nat} {cs : List Value} {wr w7 : World} (h : LayS W9 g S K sp sc kp kc cs wr) {sp' : Option Addr} {sc' : Nat} {xs : List Value}
    (ha : AppX wr w7 W9.heap.size 3 1 sp S.length sc sp' sc' xs) : w7.heap[g]? = some (rn3 sp S.length sc kp K.length kc) := by
  have hgr := ha.grow
  rw [own_blk] at hgr
  exact (hgr.block g (Nat.lt_of_lt_of_le h.lt h.grown.size) fun e => by have := (own_row h.set e.symm).1; have := h.lt; omega).trans h.row
theorem LayS.rowKid {W9 : World} {g : Nat} {S : List Nat} {K : List RN} {sp : Option Addr} {sc : Nat} {kp : Option Addr} {kc : Nat} {cs : List Value} {wr w7 : World} (h : LayS W9 g S K sp sc kp kc cs wr) {kp' : Option Addr} {kc' : Nat} {xs : List Value}
    (ha : AppX wr w7 W9.heap.size 138 5 kp K.length kc kp' kc' xs) : w7.heap[g]? = some (rn3 sp S.length sc kp K.length kc) := by
  have hgr := ha.grow
  rw [own_blk] at hgr
  exact (hgr.block g (Nat.lt_of_lt_of_le h.lt h.grown.size) fun e => by have := (own_row h.kid e.symm).1; have := h.lt; omega).trans h.row
theorem infoI3 : (Tryz.prog.info? 3).map (fun i => (i.zero, i.size, i.bytes)) = some (some (.int .i64 0), 1, 8) := by kernel_rfl
theorem st32 : SlTy 32 3 1 8 := slTy Tryz.underlying32 infoI3 rfl (by decide)
theorem infoR138 : (Tryz.prog.info? 138).map (fun i => (i.zero, i.size, i.bytes)) = some (some (.agg #[.int .i64 0, .int .u64 0, .slice none 0 0, .slice none 0 0, .slice none 0 0]), 5, 88) := by kernel_rfl
theorem st136 : SlTy 136 138 5 88 := slTy Tryz.underlying136 infoR138 rfl (by decide)
end Go.Proofs.YtmbiiemlepfoaaaGreatDoor
