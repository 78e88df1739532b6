/- The walk of Seed. -/
import Derived.Test.YtkcijbljgcgdmaaSrcFeed
import Derived.Laws.IdiomCopy
import Derived.Laws.Alloc2
import Derived.Laws.NewBlocks
import Derived.Laws.ResultCell
namespace Go.Proofs.Ytkcijbljgcgdmaa
open Go.RowKit
set_option linter.unusedVariables false

def zeroB : Array Value := #[.int .u8 0, .int .u8 0, .int .u8 0, .int .u8 0, .int .u8 0, .int .u8 0, .int .u8 0, .int .u8 0, .int .u8 0, .int .u8 0, .int .u8 0, .int .u8 0, .int .u8 0, .int .u8 0, .int .u8 0, .int .u8 0]
theorem sixteen : ∀ (vs : List Value), vs.length = 16 → ∃ v0 v1 v2 v3 v4 v5 v6 v7 v8 v9 va vb vc vd ve vf : Value, vs = [v0, v1, v2, v3, v4, v5, v6, v7, v8, v9, va, vb, vc, vd, ve, vf]
  | [v0, v1, v2, v3, v4, v5, v6, v7, v8, v9, va, vb, vc, vd, ve, vf], _ => ⟨_, _, _, _, _, _, _, _, _, _, _, _, _, _, _, _, rfl⟩
def setsA : List Value → Nat → Array Value → Array Value
  | [], _, c => c
  | v :: r, o, c => setsA r (o + 1) (c.setIfInBounds o v)
theorem sets_gen (w : World) (t : TypeId) : ∀ (vs : List Value) (o : Nat) (c : Array Value), (w.alloc (.cells c t)).setCells w.heap.size o vs = w.alloc (.cells (setsA vs o c) t)
  | [], _, _ => rfl
  | v :: r, o, c => by rw [World.setCells, World.setCell_alloc_new, sets_gen w t r]; rfl
theorem sets_new (w : World) (t : TypeId) (v0 v1 v2 v3 v4 v5 v6 v7 v8 v9 va vb vc vd ve vf : Value) :
    (w.alloc (.cells zeroB t)).setCells w.heap.size 0 [v0, v1, v2, v3, v4, v5, v6, v7, v8, v9, va, vb, vc, vd, ve, vf] = w.alloc (.cells #[v0, v1, v2, v3, v4, v5, v6, v7, v8, v9, va, vb, vc, vd, ve, vf] t) := by
  rw [sets_gen]
  have : setsA [v0, v1, v2, v3, v4, v5, v6, v7, v8, v9, va, vb, vc, vd, ve, vf] 0 zeroB = #[v0, v1, v2, v3, v4, v5, v6, v7, v8, v9, va, vb, vc, vd, ve, vf] := by kernel_rfl
  rw [this]
theorem sets_drew (b : Nat) : ∀ (vs : List Value) (o : Nat) (w : World), w.drew.setCells b o vs = (w.setCells b o vs).drew
  | [], _, _ => rfl
  | v :: r, o, w => by rw [World.setCells, World.setCells, World.setCell_drew, sets_drew b r]
/-- copy(seed[:], s.b). -/
theorem copy_seed (w : World) {q : Option Addr} {d : Nat} {l : List UInt8} (hor : OR w 0 q d l) (hl : 16 ≤ l.length) (v0 v1 v2 v3 v4 v5 v6 v7 v8 v9 va vb vc vd ve vf : Value)
    (hv : (l.take 16).map bv = [v0, v1, v2, v3, v4, v5, v6, v7, v8, v9, va, vb, vc, vd, ve, vf]) (ty : TypeId) (u : Nat) :
    (Builtin.copy_ #[22, 22] ty #[.slice (some ⟨w.heap.size + 1, 0, none⟩) 16 16, .slice q l.length d]).run Try.prog (((w.alloc (.cells zeroB u)).alloc (.cells zeroB u)).drew) =
      .ok (.int .i64 16) (((w.alloc (.cells zeroB u)).alloc (.cells #[v0, v1, v2, v3, v4, v5, v6, v7, v8, v9, va, vb, vc, vd, ve, vf] u)).drew) := by
  have hcap := hor.cap
  rcases q with _ | y
  · have := hor.nil rfl; omega
  · obtain ⟨b, o, rfl, _, hlt, hr, ht⟩ := hor.row y rfl (by omega)
    have hbel : Below w.heap.size w (((w.alloc (.cells zeroB u)).alloc (.cells zeroB u)).drew) := (((Below.refl _ w).alloc (Nat.le_refl _) _).alloc (by simp) _).drew
    have hlen : ((l.take 16).map bv).length = 16 := by simp; omega
    have hsz : (w.alloc (.cells zeroB u)).heap.size = w.heap.size + 1 := by simp
    have hrow := heap_alloc_new (w.alloc (.cells zeroB u)) (.cells zeroB u)
    rw [hsz] at hrow
    have h := run_copy_cells (P := Try.prog) (((w.alloc (.cells zeroB u)).alloc (.cells zeroB u)).drew) 22 22 ty 5 (w.heap.size + 1) 0 16 16 ⟨b, o, none⟩ l.length d ((l.take 16).map bv) Try.underlying22 (by kernel_rfl)
      (by rw [hlen]; exact (Nat.min_eq_right hl).symm) (fun j v hj => ?_) (fun j hj => ?_) (fun j hj => ?_) (fun v hv => ?_)
    · rw [h, hlen, hv, sets_drew, ← hsz, sets_new]
      rfl
    · rw [Addr.add_lit, hbel.cell (p := ⟨b, o + j, none⟩) hlt]
      refine hr j v ?_
      rw [List.getElem?_map] at hj ⊢
      rw [List.getElem?_take] at hj
      split at hj
      · exact hj
      · simp at hj
    · rw [hlen] at hj
      have : (((w.alloc (.cells zeroB u)).alloc (.cells zeroB u)).drew).cell? ⟨w.heap.size + 1, 0 + j, none⟩ = zeroB[0 + j]? := cell_of_row _ _ _ _ _ (0, 0) hrow
      rw [this, Array.getElem?_eq_getElem (by show 0 + j < 16; omega)]
      rfl
    · exact frozen_of_row _ _ _ _ _ hrow
    · obtain ⟨x, _, rfl⟩ := List.mem_map.1 hv; rfl
theorem sixteenB : ∀ (vs : List UInt8), vs.length = 16 → ∃ x0 x1 x2 x3 x4 x5 x6 x7 x8 x9 xa xb xc xd xe xf : UInt8, vs = [x0, x1, x2, x3, x4, x5, x6, x7, x8, x9, xa, xb, xc, xd, xe, xf]
  | [x0, x1, x2, x3, x4, x5, x6, x7, x8, x9, xa, xb, xc, xd, xe, xf], _ => ⟨_, _, _, _, _, _, _, _, _, _, _, _, _, _, _, _, rfl⟩
/-- What Seed leaves. -/
structure SeedS (w w' : World) (S : Nat → Prop) (g : Nat) (l : List UInt8) (t : Nat) : Prop where
  src : Src w' S g (l.drop 16) (t + 1)
  kept : Kept w w' (fun k => k = g)
theorem seeded {w : World} {S : Nat → Prop} {g : Nat} {l : List UInt8} {t : Nat} {q : Option Addr} {d : Nat} (hrow : w.heap[g]? = some (.cells #[.slice q l.length d, .int .i64 (t : Int)] 46))
    {q' : Option Addr} {d' : Nat} (hor : OR w 0 q' d' (l.drop 16)) (hS : S g) (hne : ∀ x, q' = some x → 0 < d' → x.block ≠ g ∧ S x.block) (A B : Obj) :
    SeedS w (((((w.setCell ⟨g, 0, none⟩ (.slice q' (l.length - 16) d')).setCell ⟨g, 1, none⟩ (.int .i64 ((t : Int) + 1))).alloc A).alloc B).drew) S g l t := by
  have h1 : Kept w ((w.setCell ⟨g, 0, none⟩ (.slice q' (l.length - 16) d')).setCell ⟨g, 1, none⟩ (.int .i64 ((t : Int) + 1))) (fun k => k = g) :=
    ⟨rfl, rfl, rfl, by simp [World.setCell], fun k _ hk => (Below.heap_setCell _ _ _ k (fun e => hk e)).trans (Below.heap_setCell w _ _ k (fun e => hk e))⟩
  have hb : ∀ w2 : World, Below w2.heap.size w2 ((w2.alloc A).alloc B).drew := fun w2 => (((Below.refl _ w2).alloc (Nat.le_refl _) _).alloc (by simp) _).drew
  have hs : Src ((w.setCell ⟨g, 0, none⟩ (.slice q' (l.length - 16) d')).setCell ⟨g, 1, none⟩ (.int .i64 ((t : Int) + 1))) S g (l.drop 16) (t + 1) := by
    refine ⟨q', d', ?_, hor.same h1.size fun x hx hd => ?_, hS, hne⟩
    · rw [List.length_drop]
      simp [World.setCell, Array.getElem?_modify, hrow]
    · exact (Below.heap_setCell _ _ _ _ (fun e => (hne x hx hd).1 e)).trans (Below.heap_setCell w _ _ _ (fun e => (hne x hx hd).1 e))
  exact ⟨hs.below (hb _), h1.trans (Kept.of_below (hb _))⟩

set_option maxHeartbeats 1000000 in
set_option maxRecDepth 100000 in
theorem srcSeed (w : World) {S : Nat → Prop} {g : Nat} {l : List UInt8} {t : Nat} (h : Src w S g l t) (hl : 16 ≤ l.length) (ht : t < 1000000) :
    Calls Try.prog 10 #[.pointer (some ⟨g, 0, none⟩)] w fun e w' => e = .returned (.tuple #[.agg ((l.take 16).map bv).toArray, .int .i64 0]) ∧ SeedS w w' S g l t := by
  have hlt := h.lt
  obtain ⟨q, d, hrow, hor, hS, hne⟩ := h
  have c0 : w.cell? ⟨g, 0, none⟩ = some (.slice q l.length d) := cell_of_row w g 0 _ _ (0, 0) hrow
  have c1 : w.cell? ⟨g, 1, none⟩ = some (.int .i64 (t : Int)) := cell_of_row w g 1 _ _ (0, 0) hrow
  have f0 : w.frozen? ⟨g, 0, none⟩ = false := frozen_of_row w g 0 _ _ hrow
  have f1 : w.frozen? ⟨g, 1, none⟩ = false := frozen_of_row w g 1 _ _ hrow
  have g0 : ¬ (l.length : Int) < 16 := by omega
  have hcap := hor.cap
  obtain ⟨x0, x1, x2, x3, x4, x5, x6, x7, x8, x9, xa, xb, xc, xd, xe, xf, hx⟩ := sixteenB (l.take 16) (by simp; omega)
  have hv : (l.take 16).map bv = [.int .u8 (x0.toNat : Int), .int .u8 (x1.toNat : Int), .int .u8 (x2.toNat : Int), .int .u8 (x3.toNat : Int), .int .u8 (x4.toNat : Int), .int .u8 (x5.toNat : Int), .int .u8 (x6.toNat : Int), .int .u8 (x7.toNat : Int), .int .u8 (x8.toNat : Int), .int .u8 (x9.toNat : Int), .int .u8 (xa.toNat : Int), .int .u8 (xb.toNat : Int), .int .u8 (xc.toNat : Int), .int .u8 (xd.toNat : Int), .int .u8 (xe.toNat : Int), .int .u8 (xf.toNat : Int)] := by rw [hx]; rfl
  have hcp := fun ty => copy_seed w hor hl _ _ _ _ _ _ _ _ _ _ _ _ _ _ _ _ hv ty 36
  unfold zeroB at hcp
  have n1 : (16 : Int) ≤ (l.length : Int) := by omega
  have n2 : (l.length : Int) ≤ (d : Int) := by omega
  have hdr := hor.drop 16 hl
  rcases q with _ | y
  · have := hor.nil rfl; omega
  obtain ⟨b, o, rfl, _, hbl, _⟩ := hor.row y rfl (by omega)
  have hne1 := hne _ rfl (by omega)
  have hdr2 : OR w 0 (if d = 16 then some ⟨b, o, none⟩ else some ⟨b, o + 16, none⟩) (d - 16) (l.drop 16) := by
    have e : (some (⟨b, o, none⟩ : Addr)).map (·.add 16) = some ⟨b, o + 16, none⟩ := by simp [Addr.add_lit]
    rw [e] at hdr
    exact hdr
  have hfin := fun A B => seeded hrow hdr2 hS (fun x hx _ => by
    split at hx
    · cases hx; exact hne1
    · cases hx; exact hne1) A B
  have HFIN := Lib.hid hfin
  have HV := Lib.hid hv
  clear hor hS hne hv hx hdr hdr2 hne1 hfin hrow hbl
  by_cases hds : d = 16
  · subst hds
    rw [if_pos rfl, Nat.sub_self, show l.length - 16 = 0 from by omega] at HFIN
    go_enter Try.func10, Try.ntmps10
    go_wp2_with fail
    go_region
    go_wp2
    (try simp only [Exit.inBlock, Exit.then])
    refine bodyPost_ret (v := .tuple #[.agg #[.int .u8 (x0.toNat : Int), .int .u8 (x1.toNat : Int), .int .u8 (x2.toNat : Int), .int .u8 (x3.toNat : Int), .int .u8 (x4.toNat : Int), .int .u8 (x5.toNat : Int), .int .u8 (x6.toNat : Int), .int .u8 (x7.toNat : Int), .int .u8 (x8.toNat : Int), .int .u8 (x9.toNat : Int), .int .u8 (xa.toNat : Int), .int .u8 (xb.toNat : Int), .int .u8 (xc.toNat : Int), .int .u8 (xd.toNat : Int), .int .u8 (xe.toNat : Int), .int .u8 (xf.toNat : Int)], .int .i64 0]) ?_ rfl ?_
    · rw [results_cell_tmp rfl]
      simp [go_sem, asAddr, Result.andThen]
    rw [HV.out]
    exact ⟨rfl, HFIN.out _ _⟩
  · rw [if_neg hds] at HFIN
    go_enter Try.func10, Try.ntmps10
    go_wp2_with fail
    go_region
    go_wp2
    (try simp only [Exit.inBlock, Exit.then])
    refine bodyPost_ret (v := .tuple #[.agg #[.int .u8 (x0.toNat : Int), .int .u8 (x1.toNat : Int), .int .u8 (x2.toNat : Int), .int .u8 (x3.toNat : Int), .int .u8 (x4.toNat : Int), .int .u8 (x5.toNat : Int), .int .u8 (x6.toNat : Int), .int .u8 (x7.toNat : Int), .int .u8 (x8.toNat : Int), .int .u8 (x9.toNat : Int), .int .u8 (xa.toNat : Int), .int .u8 (xb.toNat : Int), .int .u8 (xc.toNat : Int), .int .u8 (xd.toNat : Int), .int .u8 (xe.toNat : Int), .int .u8 (xf.toNat : Int)], .int .i64 0]) ?_ rfl ?_
    · rw [results_cell_tmp rfl]
      simp [go_sem, asAddr, Result.andThen]
    rw [HV.out]
    exact ⟨rfl, HFIN.out _ _⟩

set_option maxHeartbeats 1000000 in
set_option maxRecDepth 100000 in
theorem srcDry (w : World) {S : Nat → Prop} {g : Nat} {l : List UInt8} {t : Nat} (h : Src w S g l t) (hl : l.length < 16) :
    Calls Try.prog 10 #[.pointer (some ⟨g, 0, none⟩)] w fun e w' => e = .returned (.tuple #[.agg zeroB, .int .i64 11]) ∧ Below w.heap.size w w' := by
  have hlt := h.lt
  obtain ⟨q, d, hrow, _⟩ := h
  have c0 : w.cell? ⟨g, 0, none⟩ = some (.slice q l.length d) := cell_of_row w g 0 _ _ (0, 0) hrow
  have g0 : (l.length : Int) < 16 := by omega
  clear hrow
  go_enter Try.func10, Try.ntmps10
  go_wp2
  (try simp only [Exit.inBlock, Exit.then])
  refine bodyPost_ret (v := .tuple #[.agg zeroB, .int .i64 11]) ?_ rfl ?_
  · rw [results_cell_tmp rfl]
    simp [go_sem, asAddr, Result.andThen, zeroB]
  exact ⟨rfl, ((Below.refl _ w).alloc (Nat.le_refl _) _).alloc (by simp) _⟩
end Go.Proofs.Ytkcijbljgcgdmaa
