/- The walk of Seed. A whole row loaded in a fenced walk, as an arm. From the shell's word on a slice of bytes to this seat's. Arguments opened: slices of bytes. The tree's even, join, Delete, in plain Lean: what becomes of its list. -/
import Derived.Test.YtmbiiemlepfoaaaGreatDoorFl12
import Derived.Laws.IdiomCopy
import Derived.Laws.Alloc2
import Derived.Laws.NewBlocks
import Derived.Laws.ResultCell
import Derived.OwnWalkIn
import Derived.Test.YtmbiiemlepfoaaaGreatDoorFl01
import Derived.ProofKit
import Derived.OpenShut
import Derived.ShutString
import Derived.ChangeOld
import Derived.Below
import Derived.Deep.Slices
import Derived.Lib.SmallJoins
import Derived.Test.YtmbiiemlepfoaaaGreatDoorFl09

namespace Go.Proofs.YtmbiiemlepfoaaaGreatDoor
open Go.RowKit
set_option linter.unusedVariables false
def zeroB : Array Value := #[.int .u8 0, .int .u8 0, .int .u8 0, .int .u8 0, .int .u8 0, .int .u8 0, .int .u8 0, .int .u8 0, .int .u8 0, .int .u8 0, .int .u8 0, .int .u8 0, .int .u8 0, .int .u8 0, .int .u8 0, .int .u8 0]
def setsA : List Value → Nat → Array Value → Array Value
  | [], _, c => c
  | v :: r, o, c => setsA r (o + 1) (c.setIfInBounds o v)
theorem sets_gen (w : World) (t : TypeId) : ∀ (vs : List Value) (o : Nat) (c : Array Value), (w.alloc (.cells c t)).setCells w.heap.size o vs = w.alloc (.cells (setsA vs o c) t)
  | [], _, _ => rfl
  | v :: r, o, c => by rw [World.setCells, World.setCell_alloc_new, sets_gen w t r]; rfl
theorem sets_new (w : World) (t : TypeId) (v0 v1 v2 v3 v4 v5 v6 v7 v8 v9 va vb vc vd ve vf : Value) :
    (w.alloc (.cells zeroB t)).setCells w.heap.size 0 [v0, v1, v2, v3, v4, v5, v6, v7, v8, v9, va, vb, vc, vd, ve, vf] = w.alloc (.cells #[v0, v1, v2, v3, v4, v5, v6, v7, v8, v9, va, vb, vc, vd, ve, vf] t) := by
  rw [sets_gen]
  have : setsA [v0, v1, v2, v3, v4, v5, v6, v7, v8, v9, va, vb, vc, vd, ve, vf] 0 zeroB = #[v0, v1, v2, v3, v4, v5, v6, v7, v8, v9, va, vb, vc, vd, ve, vf] := by kernel_rfl
  rw [this]
theorem sets_drew (b : Nat) : ∀ (vs : List Value) (o : Nat) (w : World), w.drew.setCells b o vs = (w.setCells b o vs).drew
  | [], _, _ => rfl
  | v :: r, o, w => by rw [World.setCells, World.setCells, World.setCell_drew, sets_drew b r]
theorem copy_seed (w : World) {q : Option Addr} {d : Nat} {l : List UInt8} (hor : OR w 0 q d l) (hl : 16 ≤ l.length) (v0 v1 v2 v3 v4 v5 v6 v7 v8 v9 va vb vc vd ve vf : Value)
    (hv : (l.take 16).map bv = [v0, v1, v2, v3, v4, v5, v6, v7, v8, v9, va, vb, vc, vd, ve, vf]) (ty : TypeId) (u : Nat) :
    (Builtin.copy_ #[22, 22] ty #[.slice (some ⟨w.heap.size + 1, 0, none⟩) 16 16, .slice q l.length d]).run Tryz.prog (((w.alloc (.cells zeroB u)).alloc (.cells zeroB u)).drew) =
      .ok (.int .i64 16) (((w.alloc (.cells zeroB u)).alloc (.cells #[v0, v1, v2, v3, v4, v5, v6, v7, v8, v9, va, vb, vc, vd, ve, vf] u)).drew) := by
  have hcap := hor.cap
  rcases q with _ | y
  · have := hor.nil rfl; omega
  · obtain ⟨b, o, rfl, _, hlt, hr, ht⟩ := hor.row y rfl (by omega)
    have hbel : Below w.heap.size w (((w.alloc (.cells zeroB u)).alloc (.cells zeroB u)).drew) := (((Below.refl _ w).alloc (Nat.le_refl _) _).alloc (by simp) _).drew
    have hlen : ((l.take 16).map bv).length = 16 := by simp; omega
    have hsz : (w.alloc (.cells zeroB u)).heap.size = w.heap.size + 1 := by simp
    have hrow := heap_alloc_new (w.alloc (.cells zeroB u)) (.cells zeroB u)
    rw [hsz] at hrow
    have h := run_copy_cells (P := Tryz.prog) (((w.alloc (.cells zeroB u)).alloc (.cells zeroB u)).drew) 22 22 ty 5 (w.heap.size + 1) 0 16 16 ⟨b, o, none⟩ l.length d ((l.take 16).map bv) Tryz.underlying22 (by kernel_rfl)
      (by rw [hlen]; exact (Nat.min_eq_right hl).symm) (fun j v hj => ?_) (fun j hj => ?_) (fun j hj => ?_) (fun v hv => ?_)
    · rw [h, hlen, hv, sets_drew, ← hsz, sets_new]
      rfl
    · rw [Addr.add_lit, hbel.cell (p := ⟨b, o + j, none⟩) hlt]
      refine hr j v ?_
      rw [List.getElem?_map] at hj ⊢
      rw [List.getElem?_take] at hj
      split at hj
      · exact hj
      · simp at hj
    · rw [hlen] at hj
      have : (((w.alloc (.cells zeroB u)).alloc (.cells zeroB u)).drew).cell? ⟨w.heap.size + 1, 0 + j, none⟩ = zeroB[0 + j]? := cell_of_row _ _ _ _ _ (0, 0) hrow
      rw [this, Array.getElem?_eq_getElem (by show 0 + j < 16; omega)]
      rfl
    · exact frozen_of_row _ _ _ _ _ hrow
    · obtain ⟨x, _, rfl⟩ := List.mem_map.1 hv; rfl
theorem sixteenB : ∀ (vs : List UInt8), vs.length = 16 → ∃ x0 x1 x2 x3 x4 x5 x6 x7 x8 x9 xa xb xc xd xe xf : UInt8, vs = [x0, x1, x2, x3, x4, x5, x6, x7, x8, x9, xa, xb, xc, xd, xe, xf]
  | [x0, x1, x2, x3, x4, x5, x6, x7, x8, x9, xa, xb, xc, xd, xe, xf], _ => ⟨_, _, _, _, _, _, _, _, _, _, _, _, _, _, _, _, rfl⟩
structure SeedS (w w' : World) (S : Nat → Prop) (g : Nat) (l : List UInt8) (t : Nat) : Prop where
  src : Src w' S g (l.drop 16) (t + 1)
  kept : Kept w w' (fun k => k = g)
theorem seeded {w : World} {S : Nat → Prop} {g : Nat} {l : List UInt8} {t : Nat} {q : Option Addr} {d : Nat} (hrow : w.heap[g]? = some (.cells #[.slice q l.length d, .int .i64 (t : Int)] 189))
    {q' : Option Addr} {d' : Nat} (hor : OR w 0 q' d' (l.drop 16)) (hS : S g) (hne : ∀ x, q' = some x → 0 < d' → x.block ≠ g ∧ S x.block) (A B : Obj) :
    SeedS w (((((w.setCell ⟨g, 0, none⟩ (.slice q' (l.length - 16) d')).setCell ⟨g, 1, none⟩ (.int .i64 ((t : Int) + 1))).alloc A).alloc B).drew) S g l t := by
  have h1 : Kept w ((w.setCell ⟨g, 0, none⟩ (.slice q' (l.length - 16) d')).setCell ⟨g, 1, none⟩ (.int .i64 ((t : Int) + 1))) (fun k => k = g) :=
    ⟨rfl, rfl, rfl, by simp [World.setCell], fun k _ hk => (Below.heap_setCell _ _ _ k (fun e => hk e)).trans (Below.heap_setCell w _ _ k (fun e => hk e))⟩
  have hb : ∀ w2 : World, Below w2.heap.size w2 ((w2.alloc A).alloc B).drew := fun w2 => (((Below.refl _ w2).alloc (Nat.le_refl _) _).alloc (by simp) _).drew
  have hs : Src ((w.setCell ⟨g, 0, none⟩ (.slice q' (l.length - 16) d')).setCell ⟨g, 1, none⟩ (.int .i64 ((t : Int) + 1))) S g (l.drop 16) (t + 1) := by
    refine ⟨q', d', ?_, hor.same h1.size fun x hx hd => ?_, hS, hne⟩
    · rw [List.length_drop]
      simp [World.setCell, Array.getElem?_modify, hrow]
    · exact (Below.heap_setCell _ _ _ _ (fun e => (hne x hx hd).1 e)).trans (Below.heap_setCell w _ _ _ (fun e => (hne x hx hd).1 e))
  exact ⟨hs.below (hb _), h1.trans (Kept.of_below (hb _))⟩
set_option maxHeartbeats 1000000 in
set_option maxRecDepth 100000 in
theorem srcSeed (w : World) {S : Nat → Prop} {g : Nat} {l : List UInt8} {t : Nat} (h : Src w S g l t) (hl : 16 ≤ l.length) (ht : t < 1000000) :
    Calls Tryz.prog 88 #[.pointer (some ⟨g, 0, none⟩)] w fun e w' => e = .returned (.tuple #[.agg ((l.take 16).map bv).toArray, .int .i64 0]) ∧ SeedS w w' S g l t := by
  have hlt := h.lt
  obtain ⟨q, d, hrow, hor, hS, hne⟩ := h
  have c0 : w.cell? ⟨g, 0, none⟩ = some (.slice q l.length d) := cell_of_row w g 0 _ _ (0, 0) hrow
  have c1 : w.cell? ⟨g, 1, none⟩ = some (.int .i64 (t : Int)) := cell_of_row w g 1 _ _ (0, 0) hrow
  have f0 : w.frozen? ⟨g, 0, none⟩ = false := frozen_of_row w g 0 _ _ hrow
  have f1 : w.frozen? ⟨g, 1, none⟩ = false := frozen_of_row w g 1 _ _ hrow
  have g0 : ¬ (l.length : Int) < 16 := by omega
  have hcap := hor.cap
  obtain ⟨x0, x1, x2, x3, x4, x5, x6, x7, x8, x9, xa, xb, xc, xd, xe, xf, hx⟩ := sixteenB (l.take 16) (by simp; omega)
  have hv : (l.take 16).map bv = [.int .u8 (x0.toNat : Int), .int .u8 (x1.toNat : Int), .int .u8 (x2.toNat : Int), .int .u8 (x3.toNat : Int), .int .u8 (x4.toNat : Int), .int .u8 (x5.toNat : Int), .int .u8 (x6.toNat : Int), .int .u8 (x7.toNat : Int), .int .u8 (x8.toNat : Int), .int .u8 (x9.toNat : Int), .int .u8 (xa.toNat : Int), .int .u8 (xb.toNat : Int), .int .u8 (xc.toNat : Int), .int .u8 (xd.toNat : Int), .int .u8 (xe.toNat : Int), .int .u8 (xf.toNat : Int)] := by rw [hx]; rfl
  have hcp := fun ty => copy_seed w hor hl _ _ _ _ _ _ _ _ _ _ _ _ _ _ _ _ hv ty 105
  unfold zeroB at hcp
  have n1 : (16 : Int) ≤ (l.length : Int) := by omega
  have n2 : (l.length : Int) ≤ (d : Int) := by omega
  have hdr := hor.drop 16 hl
  rcases q with _ | y
  · have := hor.nil rfl; omega
  obtain ⟨b, o, rfl, _, hbl, _⟩ := hor.row y rfl (by omega)
  have hne1 := hne _ rfl (by omega)
  have hdr2 : OR w 0 (if d = 16 then some ⟨b, o, none⟩ else some ⟨b, o + 16, none⟩) (d - 16) (l.drop 16) := by
    have e : (some (⟨b, o, none⟩ : Addr)).map (·.add 16) = some ⟨b, o + 16, none⟩ := by simp [Addr.add_lit]
    rw [e] at hdr
    exact hdr
  have hfin := fun A B => seeded hrow hdr2 hS (fun x hx _ => by
    split at hx
    · cases hx; exact hne1
    · cases hx; exact hne1) A B
  have HFIN := Lib.hid hfin
  have HV := Lib.hid hv
  clear hor hS hne hv hx hdr hdr2 hne1 hfin hrow hbl
  by_cases hds : d = 16
  · subst hds
    rw [if_pos rfl, Nat.sub_self, show l.length - 16 = 0 from by omega] at HFIN
    go_enter Tryz.func88, Tryz.ntmps88
    go_wp2_with fail
    go_region
    go_wp2
    (try simp only [Exit.inBlock, Exit.then])
    refine bodyPost_ret (v := .tuple #[.agg #[.int .u8 (x0.toNat : Int), .int .u8 (x1.toNat : Int), .int .u8 (x2.toNat : Int), .int .u8 (x3.toNat : Int), .int .u8 (x4.toNat : Int), .int .u8 (x5.toNat : Int), .int .u8 (x6.toNat : Int), .int .u8 (x7.toNat : Int), .int .u8 (x8.toNat : Int), .int .u8 (x9.toNat : Int), .int .u8 (xa.toNat : Int), .int .u8 (xb.toNat : Int), .int .u8 (xc.toNat : Int), .int .u8 (xd.toNat : Int), .int .u8 (xe.toNat : Int), .int .u8 (xf.toNat : Int)], .int .i64 0]) ?_ rfl ?_
    · rw [results_cell_tmp rfl]
      simp [go_sem, asAddr, Result.andThen]
    rw [HV.out]
    exact ⟨rfl, HFIN.out _ _⟩
  · rw [if_neg hds] at HFIN
    go_enter Tryz.func88, Tryz.ntmps88
    go_wp2_with fail
    go_region
    go_wp2
    (try simp only [Exit.inBlock, Exit.then])
    refine bodyPost_ret (v := .tuple #[.agg #[.int .u8 (x0.toNat : Int), .int .u8 (x1.toNat : Int), .int .u8 (x2.toNat : Int), .int .u8 (x3.toNat : Int), .int .u8 (x4.toNat : Int), .int .u8 (x5.toNat : Int), .int .u8 (x6.toNat : Int), .int .u8 (x7.toNat : Int), .int .u8 (x8.toNat : Int), .int .u8 (x9.toNat : Int), .int .u8 (xa.toNat : Int), .int .u8 (xb.toNat : Int), .int .u8 (xc.toNat : Int), .int .u8 (xd.toNat : Int), .int .u8 (xe.toNat : Int), .int .u8 (xf.toNat : Int)], .int .i64 0]) ?_ rfl ?_
    · rw [results_cell_tmp rfl]
      simp [go_sem, asAddr, Result.andThen]
    rw [HV.out]
    exact ⟨rfl, HFIN.out _ _⟩
theorem wpListIn_load112 {F : Fence} {n : Nat} {ops : Array Oper} {rest : List Oper} {o : Oper} {a : Act} {w : World} {Q : Exit → Act → World → Prop} (hgd : o.guard = none) (x : Operand) (ho : o.op = .load 112 x)
    (b f : Nat) (hx : a.eval x = .pointer (some ⟨b, f, none⟩)) (cs : List Value) (hc : w.rangeAt b f cs) (hl : cs.length = 18)
    (h : wpListIn F n Tryz.prog ops Q rest (a.put o.dst (.agg cs.toArray)) w) : wpListIn F n Tryz.prog ops Q (o :: rest) a w := by
  obtain ⟨d, hd, hr⟩ := und_of row_112
  refine wpListIn_plain hgd fun K hK => ?_
  have hrun := run_loadAt_mid w b f 112 cs d hc hd hr (by rw [info_112, hl])
  unfold Oper.wpIn
  refine ⟨?_, ?_⟩
  · simp [Oper.about, ho]
  · rw [Oper.semAt_plain F _ _ (by rw [ho]; intro c hc'; cases hc')]
    unfold execOp
    simp only [ho, hx, Sem.run_bind, Sem.run_pure, hrun, Result.andThen_ok]
    exact hK _ _ h
end Go.Proofs.YtmbiiemlepfoaaaGreatDoor
namespace Go.Proofs.YtmbiiemlepfoaaaGreatDoor
open Go.RowKit
def byteOf (n : Int) : UInt8 := UInt8.ofNat n.toNat
theorem byteOf_back {n : Int} (h : (Lit.int .u8 n).wf = true) : ((byteOf n).toNat : Int) = n := by
  have h2 : 0 ≤ n ∧ n < 256 := by
    simp [Lit.wf, IntKind.min, IntKind.max, IntKind.signed, IntKind.bits] at h
    omega
  unfold byteOf
  rw [UInt8.toNat_ofNat']
  omega
theorem isB_of_row {w : World} {a : Option Addr} {len cap : Nat} {zs : List Int}
    (h : (a = none ∧ len = 0 ∧ cap = 0 ∧ zs = []) ∨
      ∃ x, a = some x ∧ len ≤ cap ∧ cap ≤ maxLen ∧ zs.length = cap ∧ (∀ i, i < zs.length → w.cell? (x.add i) = some (.int .u8 (zs.getD i 0))) ∧ ∀ n ∈ zs, (Lit.int .u8 n).wf = true) :
    ∃ l : List UInt8, l.length = len ∧ IsB w a cap l := by
  rcases h with ⟨rfl, rfl, rfl, rfl⟩ | ⟨x, rfl, hl, hm, hz, hc, hw⟩
  · exact ⟨[], rfl, IsB.none_ w⟩
  · refine ⟨(zs.take len).map byteOf, by simp; omega, ⟨by simp; omega, fun h => by simp at h, hm, fun h0 => ?_⟩⟩
    simp at h0
    have hx := hc 0 (by omega)
    obtain ⟨b, o, s⟩ := x
    have hs : s = none := by
      have := World.cell?_spot hx
      simpa [Addr.add] using this
    subst hs
    refine ⟨b, o, rfl, ?_, fun i y hy => ?_⟩
    · have := World.block_lt_of_cell? w _ hx
      simpa [Addr.add_lit] using this
    · rw [List.getElem?_map, Option.map_eq_some_iff] at hy
      obtain ⟨z, hz1, rfl⟩ := hy
      rw [List.getElem?_take] at hz1
      split at hz1
      · rename_i hi
        have hc1 := hc i (by omega)
        rw [Addr.add_lit] at hc1
        rw [hc1, List.getD_eq_getElem?_getD, hz1]
        unfold bv
        rw [byteOf_back (hw z (List.mem_of_getElem? hz1))]
        rfl
      · cases hz1
end Go.Proofs.YtmbiiemlepfoaaaGreatDoor
namespace Go.Proofs.YtmbiiemlepfoaaaGreatDoor
open Go.RowKit Go.ChangeShapes Go.WideShapes Go.ChangeAt
section
variable {H : Type} {enc : TypeId × Value → H} {W : World}
set_option maxRecDepth 100000 in
theorem bytes_cells {fuel : Nat} {cs : List Value} {x : DataW H × List MemPlace} (h : DataW.trod enc Tryz.prog W 0 (fun _ => true) true fuel 22 cs = some x) :
    ∃ (p : Option Addr) (c : Nat) (l : List UInt8), cs = [.slice p l.length c] ∧ IsB W p c l := by
  rcases open_ints Tryz.underlying22 Tryz.underlying5 (by kernel_rfl) h with ⟨rfl, _⟩ | ⟨a, len, cap, zs, rfl, _, hl, hm, hz, _, hcell, hwz⟩
  · exact ⟨none, 0, [], rfl, IsB.none_ W⟩
  · obtain ⟨l, rfl, hB⟩ := isB_of_row (w := W) (a := some a) (len := len) (cap := cap) (zs := zs) (.inr ⟨a, rfl, hl, hm, by simpa using hz, hcell, hwz⟩)
    exact ⟨some a, cap, l, rfl, hB⟩
end
end Go.Proofs.YtmbiiemlepfoaaaGreatDoor
namespace Go.Proofs.YtmbiiemlepfoaaaGreatDoor
set_option linter.unusedVariables false
theorem evenT_some {l r t : T} {k v : List UInt8} (hl : l.Bal) (hr : r.Bal) (h : evenT l k v r = some t) : t.Bal ∧ t.list = l.list ++ (k, v) :: r.list := by
  unfold evenT at h
  split at h
  · rename_i h1
    cases h
    exact ⟨⟨h1, hl, hr⟩, rfl⟩
  · split at h
    · cases r with
      | nil => simp [leftT] at h
      | node i k2 v2 o =>
        obtain ⟨he, hi, ho⟩ := hr
        simp only [leftT] at h
        split at h
        · rename_i hs
          cases h
          simp only [singleB, Bool.and_eq_true] at hs
          exact ⟨⟨by simp only [T.size]; rw [show l.size + 1 + i.size = l.size + i.size + 1 from by omega]; exact hs.2, ⟨hs.1, hl, hi⟩, ho⟩, by simp [T.list]⟩
        · cases i with
          | nil => simp at h
          | node a k3 v3 b =>
            dsimp only at h
            split at h
            · rename_i hd
              cases h
              simp only [doubleB, Bool.and_eq_true] at hd
              obtain ⟨hab, ha, hb⟩ := hi
              exact ⟨⟨by simp only [T.size]; exact hd.2, ⟨hd.1.1, hl, ha⟩, hd.1.2, hb, ho⟩, by simp [T.list]⟩
            · cases h
    · cases l with
      | nil => simp [rightT] at h
      | node o k2 v2 i =>
        obtain ⟨he, ho, hi⟩ := hl
        simp only [rightT] at h
        split at h
        · rename_i hs
          cases h
          simp only [singleB, Bool.and_eq_true] at hs
          have e1 := evenB_iff.1 hs.1
          have e2 := evenB_iff.1 hs.2
          exact ⟨⟨evenB_iff.2 (by simp only [T.size]; omega), ho, evenB_iff.2 (by omega), hi, hr⟩, by simp [T.list]⟩
        · cases i with
          | nil => simp at h
          | node a k3 v3 b =>
            dsimp only at h
            split at h
            · rename_i hd
              cases h
              simp only [doubleB, Bool.and_eq_true] at hd
              obtain ⟨hab, ha, hb⟩ := hi
              have e1 := evenB_iff.1 hd.1.1
              have e2 := evenB_iff.1 hd.1.2
              have e3 := evenB_iff.1 hd.2
              exact ⟨⟨evenB_iff.2 (by simp only [T.size]; omega), ⟨evenB_iff.2 (by omega), ho, ha⟩, evenB_iff.2 (by omega), hb, hr⟩, by simp [T.list]⟩
            · cases h
def evenF (l : T) (k v : List UInt8) (r : T) : T := (evenT l k v r).getD (fromT (l.list ++ (k, v) :: r.list))
theorem evenF_ok {l r : T} (k v : List UInt8) (hl : l.Bal) (hr : r.Bal) : (evenF l k v r).Bal ∧ (evenF l k v r).list = l.list ++ (k, v) :: r.list := by
  unfold evenF
  cases h : evenT l k v r with
  | some t => exact evenT_some hl hr h
  | none => exact ⟨from_bal _, from_list _⟩
theorem evenF_size {l r : T} (k v : List UInt8) (hl : l.Bal) (hr : r.Bal) : (evenF l k v r).size = l.size + 1 + r.size := by
  rw [← T.list_length, (evenF_ok k v hl hr).2, List.length_append, List.length_cons, T.list_length, T.list_length]; omega
def joinT (l : T) (k v : List UInt8) (r : T) : T :=
  if evenB l.size r.size then .node l k v r
  else if r.size < l.size then
    match l with
    | .nil => .nil
    | .node a k' v' b => evenF a k' v' (joinT b k v r)
  else
    match r with
    | .nil => .nil
    | .node a k' v' b => evenF (joinT l k v a) k' v' b
  termination_by l.size + r.size
  decreasing_by
  all_goals simp only [T.size]
  all_goals omega
theorem joinT_ok : ∀ (n : Nat) (l r : T) (k v : List UInt8), l.size + r.size ≤ n → l.Bal → r.Bal → (joinT l k v r).Bal ∧ (joinT l k v r).list = l.list ++ (k, v) :: r.list := by
  intro n
  induction n with
  | zero =>
    intro l r k v hn hl hr
    rw [joinT.eq_def, if_pos (evenB_iff.2 (by omega))]
    exact ⟨⟨evenB_iff.2 (by omega), hl, hr⟩, rfl⟩
  | succ n ih =>
    intro l r k v hn hl hr
    rw [joinT.eq_def]
    split
    · rename_i h1
      exact ⟨⟨h1, hl, hr⟩, rfl⟩
    · rename_i h0
      rw [evenB_iff] at h0
      split
      · cases l with
        | nil => rename_i h1; simp [T.size] at h1
        | node a k' v' b =>
          simp only [T.size] at hn
          obtain ⟨h2, h3⟩ := ih b r k v (by omega) hl.2.2 hr
          obtain ⟨h4, h5⟩ := evenF_ok k' v' hl.2.1 h2
          dsimp only
          exact ⟨h4, by rw [h5, h3]; simp [T.list]⟩
      · cases r with
        | nil => rename_i h1; simp only [T.size] at h1 h0; omega
        | node a k' v' b =>
          simp only [T.size] at hn
          obtain ⟨h2, h3⟩ := ih l a k v (by omega) hl hr.2.1
          obtain ⟨h4, h5⟩ := evenF_ok k' v' h2 hr.2.2
          dsimp only
          exact ⟨h4, by rw [h5, h3]; simp [T.list]⟩
theorem join_ok {l r : T} (k v : List UInt8) (hl : l.Bal) (hr : r.Bal) : (joinT l k v r).Bal ∧ (joinT l k v r).list = l.list ++ (k, v) :: r.list := joinT_ok _ l r k v (Nat.le_refl _) hl hr
theorem join_size {l r : T} (k v : List UInt8) (hl : l.Bal) (hr : r.Bal) : (joinT l k v r).size = l.size + 1 + r.size := by
  rw [← T.list_length, (join_ok k v hl hr).2, List.length_append, List.length_cons, T.list_length, T.list_length]; omega
def firstT (k v : List UInt8) (r : T) : T → PairT × T
  | .nil => ((k, v), r)
  | .node a k' v' b => ((firstT k' v' b a).1, evenF (firstT k' v' b a).2 k v r)
def spineT : T → Nat
  | .nil => 0
  | .node l _ _ _ => 1 + spineT l
theorem first_ok : ∀ (l : T) (k v : List UInt8) (r : T), l.Bal → r.Bal → (firstT k v r l).2.Bal ∧ l.list ++ (k, v) :: r.list = (firstT k v r l).1 :: (firstT k v r l).2.list
  | .nil, k, v, r, _, hr => ⟨hr, rfl⟩
  | .node a k' v' b, k, v, r, hl, hr => by
    obtain ⟨h1, h2⟩ := first_ok a k' v' b hl.2.1 hl.2.2
    obtain ⟨h3, h4⟩ := evenF_ok k v h1 hr
    unfold firstT
    refine ⟨h3, ?_⟩
    dsimp only
    rw [h4, T.list, h2]
    simp
def pairT2 (l : T) : T → T
  | .nil => l
  | .node a k v b => match l with
    | .nil => .node a k v b
    | .node c k' v' d => joinT (.node c k' v' d) (firstT k v b a).1.1 (firstT k v b a).1.2 (firstT k v b a).2
def pairS (l : T) (r : T) : Nat := match l with
  | .nil => 0
  | .node _ _ _ _ => spineT r
theorem pair_ok {l r : T} (hl : l.Bal) (hr : r.Bal) : (pairT2 l r).Bal ∧ (pairT2 l r).list = l.list ++ r.list := by
  cases r with
  | nil => exact ⟨hl, by simp [pairT2, T.list]⟩
  | node a k v b =>
    cases l with
    | nil => exact ⟨hr, by simp [pairT2, T.list]⟩
    | node c k' v' d =>
      obtain ⟨h1, h2⟩ := first_ok a k v b hr.2.1 hr.2.2
      obtain ⟨h3, h4⟩ := join_ok (firstT k v b a).1.1 (firstT k v b a).1.2 hl h1
      unfold pairT2
      dsimp only
      exact ⟨h3, by rw [h4]; simp only [T.list]; rw [h2]⟩
def delT (k : List UInt8) : T → Option T
  | .nil => none
  | .node l k' v' r =>
    if Lib.compareBytes k k' = 0 then some (pairT2 l r)
    else if Lib.compareBytes k k' = 1 then (delT k r).map fun r' => evenF l k' v' r'
    else (delT k l).map fun l' => evenF l' k' v' r
def delS (k : List UInt8) : T → Nat × Nat
  | .nil => (0, 0)
  | .node l k' _ r =>
    if Lib.compareBytes k k' = 0 then (1 + pairS l r, 1)
    else if Lib.compareBytes k k' = 1 then (1 + (delS k r).1, 1 + (delS k r).2)
    else (1 + (delS k l).1, 1 + (delS k l).2)
def T.hgt : T → Nat
  | .nil => 0
  | .node l _ _ r => 1 + max l.hgt r.hgt
theorem spine_hgt : ∀ t : T, spineT t ≤ t.hgt
  | .nil => Nat.le_refl _
  | .node l _ _ r => by have := spine_hgt l; simp only [spineT, T.hgt]; omega
theorem delS_hgt (k : List UInt8) : ∀ t : T, (delS k t).1 ≤ t.hgt ∧ (delS k t).2 ≤ (delS k t).1
  | .nil => ⟨Nat.le_refl _, Nat.le_refl _⟩
  | .node l k' _ r => by
    have h1 := delS_hgt k l
    have h2 := delS_hgt k r
    have h3 := spine_hgt r
    have h4 : pairS l r ≤ spineT r := by unfold pairS; split <;> omega
    unfold delS
    simp only [T.hgt]
    split
    · dsimp only; omega
    · split
      · dsimp only; omega
      · dsimp only; omega
theorem path_hgt (k : List UInt8) : ∀ t : T, pathT k t ≤ t.hgt
  | .nil => Nat.le_refl _
  | .node l k' _ r => by
    have h1 := path_hgt k l
    have h2 := path_hgt k r
    unfold pathT
    simp only [T.hgt]
    split
    · omega
    · split <;> omega
theorem hgt_pow : ∀ {t : T}, t.Bal → 4 ^ t.hgt ≤ (t.size + 1) ^ 6
  | .nil, _ => by decide
  | .node l _ _ r, ⟨he, hl, hr⟩ => by
    have h1 := hgt_pow hl
    have h2 := hgt_pow hr
    have he' := evenB_iff.1 he
    have key : ∀ a b : Nat, 4 * (a + 1) ≤ 3 * (b + 1) → 4 * (a + 1) ^ 6 ≤ (b + 1) ^ 6 := fun a b h => by
      have h5 := Nat.pow_le_pow_left h 6
      rw [Nat.mul_pow, Nat.mul_pow] at h5
      have h6 : (4 : Nat) ^ 6 = 4096 := by decide
      have h7 : (3 : Nat) ^ 6 = 729 := by decide
      rw [h6, h7] at h5
      omega
    simp only [T.hgt, T.size]
    rw [Nat.add_comm 1, Nat.pow_succ]
    rcases Nat.le_total l.hgt r.hgt with h | h
    · rw [Nat.max_eq_right h]
      have := key r.size (l.size + 1 + r.size) (by omega)
      omega
    · rw [Nat.max_eq_left h]
      have := key l.size (l.size + 1 + r.size) (by omega)
      omega
def Asc (x : List PairT) : Prop := x.Pairwise fun a b => Lib.compareBytes a.1 b.1 = -1
def putL (p : PairT) : List PairT → List PairT
  | [] => [p]
  | q :: m => if Lib.compareBytes q.1 p.1 = -1 then q :: putL p m else p :: (q :: m).filter fun x => decide (x.1 ≠ p.1)
def withoutL (k : List UInt8) (m : List PairT) : List PairT := m.filter fun x => decide (x.1 ≠ k)
def hasL (k : List UInt8) (m : List PairT) : Bool := m.any fun x => decide (x.1 = k)
theorem cmp_ne {a b : List UInt8} (h : Lib.compareBytes a b = -1) : a ≠ b := fun e => by rw [e, cmp_self] at h; cases h
theorem cmp_gt {a b : List UInt8} (h : Lib.compareBytes a b = 1) : Lib.compareBytes b a = -1 := by rw [cmp_swap, h]
theorem cmp_lt {a b : List UInt8} (h : Lib.compareBytes a b = -1) : Lib.compareBytes b a = 1 := by rw [cmp_swap, h]; rfl
theorem cmp_ge {a b : List UInt8} (h : ¬ Lib.compareBytes a b = -1) (hne : a ≠ b) : Lib.compareBytes b a = -1 := by
  rcases cmp_range a b with h1 | h1 | h1
  · exact absurd h1 h
  · exact absurd (cmp_zero h1) hne
  · exact cmp_gt h1
theorem cmp_ltt {a b c : List UInt8} (h1 : Lib.compareBytes a b = -1) (h2 : Lib.compareBytes b c = -1) : Lib.compareBytes a c = -1 := by
  have h3 := cmp_trans (a := a) (b := b) (c := c) (by omega) (by omega)
  rcases cmp_range a c with h | h | h
  · exact h
  · rw [← cmp_zero h, cmp_lt h1] at h2; cases h2
  · omega
theorem filter_all {x : List PairT} {k : List UInt8} (h : ∀ q ∈ x, q.1 ≠ k) : (x.filter fun y => decide (y.1 ≠ k)) = x := List.filter_eq_self.2 fun q hq => by simp [h q hq]
theorem putL_ge {p : PairT} {x : List PairT} (h : ∀ q ∈ x, ¬ Lib.compareBytes q.1 p.1 = -1) : putL p x = p :: x.filter fun y => decide (y.1 ≠ p.1) := by
  cases x with
  | nil => rfl
  | cons q m => unfold putL; rw [if_neg (h q (by simp))]
theorem mem_putL {p y : PairT} : ∀ {x : List PairT}, y ∈ putL p x ↔ y = p ∨ (y ∈ x ∧ y.1 ≠ p.1)
  | [] => by simp [putL]
  | q :: m => by
    unfold putL
    split
    · rename_i h
      have hne := cmp_ne h
      rw [List.mem_cons, mem_putL (x := m), List.mem_cons]
      constructor
      · rintro (rfl | rfl | ⟨h1, h2⟩)
        · exact .inr ⟨.inl rfl, hne⟩
        · exact .inl rfl
        · exact .inr ⟨.inr h1, h2⟩
      · rintro (rfl | ⟨rfl | h1, h2⟩)
        · exact .inr (.inl rfl)
        · exact .inl rfl
        · exact .inr (.inr ⟨h1, h2⟩)
    · rw [List.mem_cons, List.mem_filter]
      simp
theorem Asc.head {q : PairT} {m : List PairT} (h : Asc (q :: m)) : ∀ y ∈ m, Lib.compareBytes q.1 y.1 = -1 := (List.pairwise_cons.1 h).1
theorem Asc.tail {q : PairT} {m : List PairT} (h : Asc (q :: m)) : Asc m := (List.pairwise_cons.1 h).2
theorem Asc.filter {x : List PairT} (h : Asc x) (f : PairT → Bool) : Asc (x.filter f) := List.Pairwise.filter f h
theorem asc_putL {p : PairT} : ∀ {x : List PairT}, Asc x → Asc (putL p x)
  | [], _ => by simp [putL, Asc]
  | q :: m, h => by
    unfold putL
    split
    · rename_i h1
      refine List.pairwise_cons.2 ⟨fun y hy => ?_, asc_putL h.tail⟩
      rcases mem_putL.1 hy with rfl | ⟨hy, _⟩
      · exact h1
      · exact h.head y hy
    · rename_i h1
      refine List.pairwise_cons.2 ⟨fun y hy => ?_, h.filter _⟩
      obtain ⟨h2, h3⟩ := List.mem_filter.1 hy
      simp only [decide_eq_true_eq] at h3
      rcases List.mem_cons.1 h2 with rfl | h2
      · exact cmp_ge h1 h3
      · have h4 := h.head y h2
        by_cases he : q.1 = p.1
        · rw [← he]; exact h4
        · exact cmp_ltt (cmp_ge h1 he) h4
theorem asc_app {A B : List PairT} {q : PairT} (h : Asc (A ++ q :: B)) : (∀ a ∈ A, Lib.compareBytes a.1 q.1 = -1) ∧ (∀ b ∈ B, Lib.compareBytes q.1 b.1 = -1) ∧ Asc A ∧ Asc B := by
  obtain ⟨h1, h2, h3⟩ := List.pairwise_append.1 h
  exact ⟨fun a ha => h3 a ha q (by simp), (List.pairwise_cons.1 h2).1, h1, (List.pairwise_cons.1 h2).2⟩
theorem putL_app {p q : PairT} {B : List PairT} : ∀ {A : List PairT}, Asc (A ++ q :: B) → putL p (A ++ q :: B) =
    if Lib.compareBytes p.1 q.1 = 0 then A ++ p :: B else if Lib.compareBytes p.1 q.1 = 1 then A ++ q :: putL p B else putL p A ++ q :: B
  | [], h => by
    have hB := (asc_app h).2.1
    rcases cmp_range p.1 q.1 with e | e | e
    · rw [if_neg (by omega), if_neg (by omega), List.nil_append, putL_ge (fun y hy he => ?_), filter_all (fun y hy he => ?_)]
      · rfl
      · rcases List.mem_cons.1 hy with rfl | hy
        · exact cmp_ne e he.symm
        · exact cmp_ne (cmp_ltt e (hB y hy)) he.symm
      · rcases List.mem_cons.1 hy with rfl | hy
        · rw [cmp_lt e] at he; cases he
        · rw [cmp_lt (cmp_ltt e (hB y hy))] at he; cases he
    · have e' := cmp_zero e
      rw [if_pos e, List.nil_append, putL, if_neg (by rw [e', cmp_self]; decide), List.filter_cons_of_neg (by simp [e']), filter_all (fun y hy he => by rw [e'] at he; exact cmp_ne (hB y hy) he.symm)]
      rfl
    · rw [if_neg (by omega), if_pos e, List.nil_append, putL, if_pos (cmp_gt e)]
      rfl
  | a :: A, h => by
    obtain ⟨hA, hB, hA1, hB1⟩ := asc_app h
    have h' : Asc (A ++ q :: B) := Asc.tail h
    have ih := putL_app (p := p) h'
    have haq := hA a (by simp)
    rw [List.cons_append]
    rcases cmp_range p.1 q.1 with e | e | e
    · rw [if_neg (by omega), if_neg (by omega)] at ih ⊢
      unfold putL
      split
      · rw [ih]; rfl
      · rw [List.cons_append]
        congr 1
        rw [List.filter_cons, List.filter_cons, List.filter_append, filter_all (x := q :: B) (fun y hy he => ?_)]
        · split <;> rfl
        · rcases List.mem_cons.1 hy with rfl | hy
          · exact cmp_ne e he.symm
          · exact cmp_ne (cmp_ltt e (hB y hy)) he.symm
    · rw [if_pos e] at ih ⊢
      rw [putL, if_pos (by rw [cmp_zero e]; exact haq), ih]
      rfl
    · rw [if_neg (by omega), if_pos e] at ih ⊢
      rw [putL, if_pos (cmp_ltt haq (cmp_gt e)), ih]
      rfl
theorem without_app {k : List UInt8} {q : PairT} {A B : List PairT} (h : Asc (A ++ q :: B)) : withoutL k (A ++ q :: B) =
    if Lib.compareBytes k q.1 = 0 then A ++ B else if Lib.compareBytes k q.1 = 1 then A ++ q :: withoutL k B else withoutL k A ++ q :: B := by
  obtain ⟨hA, hB, hA1, hB1⟩ := asc_app h
  unfold withoutL
  rw [List.filter_append, List.filter_cons]
  rcases cmp_range k q.1 with e | e | e
  · rw [if_neg (c := Lib.compareBytes k q.1 = 0) (by omega), if_neg (c := Lib.compareBytes k q.1 = 1) (by omega), if_pos (by simp [(cmp_ne e).symm]), filter_all (x := B) fun y hy he => cmp_ne (cmp_ltt e (hB y hy)) he.symm]
  · have e' := cmp_zero e
    rw [if_pos (c := Lib.compareBytes k q.1 = 0) e, if_neg (by simp [e']), filter_all (x := B) fun y hy he => by rw [e'] at he; exact cmp_ne (hB y hy) he.symm, filter_all (x := A) fun y hy he => by rw [e'] at he; exact cmp_ne (hA y hy) he]
  · rw [if_neg (c := Lib.compareBytes k q.1 = 0) (by omega), if_pos (c := Lib.compareBytes k q.1 = 1) e, if_pos (by simp [cmp_ne (cmp_gt e)]), filter_all (x := A) fun y hy he => cmp_ne (cmp_ltt (hA y hy) (cmp_gt e)) he]
theorem has_app {k : List UInt8} {q : PairT} {A B : List PairT} (h : Asc (A ++ q :: B)) : hasL k (A ++ q :: B) =
    if Lib.compareBytes k q.1 = 0 then true else if Lib.compareBytes k q.1 = 1 then hasL k B else hasL k A := by
  obtain ⟨hA, hB, hA1, hB1⟩ := asc_app h
  unfold hasL
  rw [List.any_append, List.any_cons]
  rcases cmp_range k q.1 with e | e | e
  · have h1 : (B.any fun x => decide (x.1 = k)) = false := List.any_eq_false.2 fun y hy => by simp; exact fun he => cmp_ne (cmp_ltt e (hB y hy)) he.symm
    rw [if_neg (c := Lib.compareBytes k q.1 = 0) (by omega), if_neg (c := Lib.compareBytes k q.1 = 1) (by omega), h1]
    simp [(cmp_ne e).symm]
  · have e' := cmp_zero e
    rw [if_pos (c := Lib.compareBytes k q.1 = 0) e]
    simp [e']
  · have h1 : (A.any fun x => decide (x.1 = k)) = false := List.any_eq_false.2 fun y hy => by simp; exact fun he => cmp_ne (cmp_ltt (hA y hy) (cmp_gt e)) he
    rw [if_neg (c := Lib.compareBytes k q.1 = 0) (by omega), if_pos (c := Lib.compareBytes k q.1 = 1) e, h1]
    simp [cmp_ne (cmp_gt e)]
theorem putT_list {k v : List UInt8} : ∀ {t : T}, t.Bal → Asc t.list → (putT k v t).list = putL (k, v) t.list
  | .nil, _, _ => rfl
  | .node l k' v' r, hb, ha => by
    have ha' : Asc (l.list ++ (k', v') :: r.list) := ha
    obtain ⟨_, _, hl, hr⟩ := asc_app ha'
    obtain ⟨tr, h1⟩ := putT_right (k := k) (v := v) hb
    obtain ⟨tl, h2⟩ := putT_left (k := k) (v := v) hb
    have e := putL_app (p := (k, v)) ha'
    show _ = putL (k, v) (l.list ++ (k', v') :: r.list)
    rw [e]
    unfold putT
    dsimp only
    split
    · rfl
    · split
      · rw [h1.eq]
        simp only [Option.getD_some]
        rw [h1.list, putT_list hb.2.2 hr]
      · rw [h2.eq]
        simp only [Option.getD_some]
        rw [h2.list, putT_list hb.2.1 hl]
structure DelOk (k : List UInt8) (t u : T) : Prop where
  bal : u.Bal
  list : u.list = withoutL k t.list
  has : hasL k t.list = true
theorem delT_ok {k : List UInt8} : ∀ {t : T}, t.Bal → Asc t.list → (∀ u, delT k t = some u → DelOk k t u) ∧ (delT k t = none → hasL k t.list = false)
  | .nil, _, _ => ⟨fun u h => (by simp [delT] at h), fun _ => rfl⟩
  | .node l k' v' r, hb, ha => by
    have ha' : Asc (l.list ++ (k', v') :: r.list) := ha
    obtain ⟨_, _, hl, hr⟩ := asc_app ha'
    have e1 := without_app (k := k) ha'
    have e2 := has_app (k := k) ha'
    obtain ⟨l1, l2⟩ := delT_ok (k := k) hb.2.1 hl
    obtain ⟨r1, r2⟩ := delT_ok (k := k) hb.2.2 hr
    have E1 : withoutL k (T.node l k' v' r).list = _ := e1
    have E2 : hasL k (T.node l k' v' r).list = _ := e2
    unfold delT
    dsimp only at E1 E2
    rw [E2]
    rcases cmp_range k k' with e | e | e
    · rw [if_neg (by omega), if_neg (by omega)] at E1 ⊢
      rw [if_neg (by omega), if_neg (by omega)] at E2 ⊢
      refine ⟨fun u hu => ?_, fun hu => ?_⟩
      · obtain ⟨l', h1, rfl⟩ := Option.map_eq_some_iff.1 hu
        have o := l1 l' h1
        obtain ⟨h3, h4⟩ := evenF_ok k' v' o.bal hb.2.2
        exact ⟨h3, by rw [h4, E1, o.list], by rw [E2]; exact o.has⟩
      · exact l2 (by simpa using hu)
    · rw [if_pos e] at E1 E2 ⊢
      rw [if_pos e]
      refine ⟨fun u hu => ?_, fun hu => by cases hu⟩
      cases hu
      obtain ⟨h3, h4⟩ := pair_ok hb.2.1 hb.2.2
      exact ⟨h3, by rw [h4, E1], E2⟩
    · rw [if_neg (by omega), if_pos e] at E1 ⊢
      rw [if_neg (by omega), if_pos e] at E2 ⊢
      refine ⟨fun u hu => ?_, fun hu => ?_⟩
      · obtain ⟨r', h1, rfl⟩ := Option.map_eq_some_iff.1 hu
        have o := r1 r' h1
        obtain ⟨h3, h4⟩ := evenF_ok k' v' hb.2.1 o.bal
        exact ⟨h3, by rw [h4, E1, o.list], by rw [E2]; exact o.has⟩
      · exact r2 (by simpa using hu)
theorem filter_put {Q : List UInt8 → Bool} {p : PairT} : ∀ {x : List PairT}, Asc x → ((putL p x).filter fun y => Q y.1) = if Q p.1 then putL p (x.filter fun y => Q y.1) else x.filter fun y => Q y.1
  | [], _ => by
    unfold putL
    rw [List.filter_cons]
    split <;> rfl
  | q :: m, h => by
    have ih := filter_put (Q := Q) (p := p) h.tail
    by_cases h1 : Lib.compareBytes q.1 p.1 = -1
    · rw [putL, if_pos h1, List.filter_cons, List.filter_cons, ih]
      split
      · split
        · rw [putL, if_pos h1]
        · rfl
      · rfl
    · have hge : ∀ y ∈ q :: m, ¬ Lib.compareBytes y.1 p.1 = -1 := fun y hy he => by
        rcases List.mem_cons.1 hy with rfl | hy
        · exact h1 he
        · exact h1 (cmp_ltt (h.head y hy) he)
      rw [putL_ge hge, List.filter_cons]
      split
      · rw [putL_ge fun y hy => hge y (List.mem_filter.1 hy).1, List.filter_filter, List.filter_filter]
        congr 2
        funext y
        rw [Bool.and_comm]
      · rename_i hq
        rw [List.filter_filter]
        apply List.filter_congr
        intro y hy
        by_cases he : y.1 = p.1
        · rw [he]; simp [hq]
        · simp [he]
theorem filter_without {Q : List UInt8 → Bool} {k : List UInt8} (x : List PairT) : (withoutL k x).filter (fun y => Q y.1) = withoutL k (x.filter fun y => Q y.1) := by
  unfold withoutL
  rw [List.filter_filter, List.filter_filter]
  congr 1
  funext y
  rw [Bool.and_comm]
theorem without_none {k : List UInt8} {x : List PairT} (h : hasL k x = false) : withoutL k x = x := filter_all fun q hq he => by
  unfold hasL at h
  rw [List.any_eq_false] at h
  exact h q hq (by simp [he])
theorem putL_has {p : PairT} {x : List PairT} (h : hasL p.1 x = false) : (putL p x).length = x.length + 1 := by
  induction x with
  | nil => rfl
  | cons q m ih =>
    unfold hasL at h ih
    rw [List.any_cons, Bool.or_eq_false_iff] at h
    unfold putL
    split
    · rw [List.length_cons, ih h.2, List.length_cons]
    · rw [filter_all fun y hy he => ?_]
      · rfl
      · rcases List.mem_cons.1 hy with rfl | hy
        · simp [he] at h
        · exact List.any_eq_false.1 h.2 y hy (by simp [he])
end Go.Proofs.YtmbiiemlepfoaaaGreatDoor
