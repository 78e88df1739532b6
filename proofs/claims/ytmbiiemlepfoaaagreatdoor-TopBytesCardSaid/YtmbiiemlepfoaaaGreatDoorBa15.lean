/- The walk of Seed. A whole row loaded in a fenced walk, as an arm. The walk of the reference's Less. From the shell's word on a slice of bytes to this seat's. Arguments opened: slices of bytes. -/
import Derived.Test.YtmbiiemlepfoaaaGreatDoorBa14
import Derived.Laws.IdiomCopy
import Derived.Laws.Alloc2
import Derived.Laws.NewBlocks
import Derived.Laws.ResultCell
import Derived.Test.YtmbiiemlepfoaaaGreatDoorBa13
import Derived.OwnWalkIn
import Derived.Test.YtmbiiemlepfoaaaGreatDoorBa01
import Derived.Test.YtmbiiemlepfoaaaGreatDoorBa03
import Derived.ProofKit
import Derived.OpenShut
import Derived.ShutString
import Derived.ChangeOld
import Derived.Below
import Derived.Deep.Slices
import Derived.Lib.SmallJoins

/-! The walk of Seed. -/
namespace Go.Proofs.YtmbiiemlepfoaaaGreatDoor
open Go.RowKit
set_option linter.unusedVariables false

def zeroB : Array Value := #[.int .u8 0, .int .u8 0, .int .u8 0, .int .u8 0, .int .u8 0, .int .u8 0, .int .u8 0, .int .u8 0, .int .u8 0, .int .u8 0, .int .u8 0, .int .u8 0, .int .u8 0, .int .u8 0, .int .u8 0, .int .u8 0]
theorem sixteen : ∀ (vs : List Value), vs.length = 16 → ∃ v0 v1 v2 v3 v4 v5 v6 v7 v8 v9 va vb vc vd ve vf : Value, vs = [v0, v1, v2, v3, v4, v5, v6, v7, v8, v9, va, vb, vc, vd, ve, vf]
  | [v0, v1, v2, v3, v4, v5, v6, v7, v8, v9, va, vb, vc, vd, ve, vf], _ => ⟨_, _, _, _, _, _, _, _, _, _, _, _, _, _, _, _, rfl⟩
def setsA : List Value → Nat → Array Value → Array Value
  | [], _, c => c
  | v :: r, o, c => setsA r (o + 1) (c.setIfInBounds o v)
theorem sets_gen (w : World) (t : TypeId) : ∀ (vs : List Value) (o : Nat) (c : Array Value), (w.alloc (.cells c t)).setCells w.heap.size o vs = w.alloc (.cells (setsA vs o c) t)
  | [], _, _ => rfl
  | v :: r, o, c => by rw [World.setCells, World.setCell_alloc_new, sets_gen w t r]; rfl
theorem sets_new (w : World) (t : TypeId) (v0 v1 v2 v3 v4 v5 v6 v7 v8 v9 va vb vc vd ve vf : Value) :
    (w.alloc (.cells zeroB t)).setCells w.heap.size 0 [v0, v1, v2, v3, v4, v5, v6, v7, v8, v9, va, vb, vc, vd, ve, vf] = w.alloc (.cells #[v0, v1, v2, v3, v4, v5, v6, v7, v8, v9, va, vb, vc, vd, ve, vf] t) := by
  rw [sets_gen]
  have : setsA [v0, v1, v2, v3, v4, v5, v6, v7, v8, v9, va, vb, vc, vd, ve, vf] 0 zeroB = #[v0, v1, v2, v3, v4, v5, v6, v7, v8, v9, va, vb, vc, vd, ve, vf] := by kernel_rfl
  rw [this]
theorem sets_drew (b : Nat) : ∀ (vs : List Value) (o : Nat) (w : World), w.drew.setCells b o vs = (w.setCells b o vs).drew
  | [], _, _ => rfl
  | v :: r, o, w => by rw [World.setCells, World.setCells, World.setCell_drew, sets_drew b r]
/-- copy(seed[:], s.b). -/
theorem copy_seed (w : World) {q : Option Addr} {d : Nat} {l : List UInt8} (hor : OR w 0 q d l) (hl : 16 ≤ l.length) (v0 v1 v2 v3 v4 v5 v6 v7 v8 v9 va vb vc vd ve vf : Value)
    (hv : (l.take 16).map bv = [v0, v1, v2, v3, v4, v5, v6, v7, v8, v9, va, vb, vc, vd, ve, vf]) (ty : TypeId) (u : Nat) :
    (Builtin.copy_ #[22, 22] ty #[.slice (some ⟨w.heap.size + 1, 0, none⟩) 16 16, .slice q l.length d]).run Tryz.prog (((w.alloc (.cells zeroB u)).alloc (.cells zeroB u)).drew) =
      .ok (.int .i64 16) (((w.alloc (.cells zeroB u)).alloc (.cells #[v0, v1, v2, v3, v4, v5, v6, v7, v8, v9, va, vb, vc, vd, ve, vf] u)).drew) := by
  have hcap := hor.cap
  rcases q with _ | y
  · have := hor.nil rfl; omega
  · obtain ⟨b, o, rfl, _, hlt, hr, ht⟩ := hor.row y rfl (by omega)
    have hbel : Below w.heap.size w (((w.alloc (.cells zeroB u)).alloc (.cells zeroB u)).drew) := (((Below.refl _ w).alloc (Nat.le_refl _) _).alloc (by simp) _).drew
    have hlen : ((l.take 16).map bv).length = 16 := by simp; omega
    have hsz : (w.alloc (.cells zeroB u)).heap.size = w.heap.size + 1 := by simp
    have hrow := heap_alloc_new (w.alloc (.cells zeroB u)) (.cells zeroB u)
    rw [hsz] at hrow
    have h := run_copy_cells (P := Tryz.prog) (((w.alloc (.cells zeroB u)).alloc (.cells zeroB u)).drew) 22 22 ty 5 (w.heap.size + 1) 0 16 16 ⟨b, o, none⟩ l.length d ((l.take 16).map bv) Tryz.underlying22 (by kernel_rfl)
      (by rw [hlen]; exact (Nat.min_eq_right hl).symm) (fun j v hj => ?_) (fun j hj => ?_) (fun j hj => ?_) (fun v hv => ?_)
    · rw [h, hlen, hv, sets_drew, ← hsz, sets_new]
      rfl
    · rw [Addr.add_lit, hbel.cell (p := ⟨b, o + j, none⟩) hlt]
      refine hr j v ?_
      rw [List.getElem?_map] at hj ⊢
      rw [List.getElem?_take] at hj
      split at hj
      · exact hj
      · simp at hj
    · rw [hlen] at hj
      have : (((w.alloc (.cells zeroB u)).alloc (.cells zeroB u)).drew).cell? ⟨w.heap.size + 1, 0 + j, none⟩ = zeroB[0 + j]? := cell_of_row _ _ _ _ _ (0, 0) hrow
      rw [this, Array.getElem?_eq_getElem (by show 0 + j < 16; omega)]
      rfl
    · exact frozen_of_row _ _ _ _ _ hrow
    · obtain ⟨x, _, rfl⟩ := List.mem_map.1 hv; rfl
theorem sixteenB : ∀ (vs : List UInt8), vs.length = 16 → ∃ x0 x1 x2 x3 x4 x5 x6 x7 x8 x9 xa xb xc xd xe xf : UInt8, vs = [x0, x1, x2, x3, x4, x5, x6, x7, x8, x9, xa, xb, xc, xd, xe, xf]
  | [x0, x1, x2, x3, x4, x5, x6, x7, x8, x9, xa, xb, xc, xd, xe, xf], _ => ⟨_, _, _, _, _, _, _, _, _, _, _, _, _, _, _, _, rfl⟩
/-- What Seed leaves. -/
structure SeedS (w w' : World) (S : Nat → Prop) (g : Nat) (l : List UInt8) (t : Nat) : Prop where
  src : Src w' S g (l.drop 16) (t + 1)
  kept : Kept w w' (fun k => k = g)
theorem seeded {w : World} {S : Nat → Prop} {g : Nat} {l : List UInt8} {t : Nat} {q : Option Addr} {d : Nat} (hrow : w.heap[g]? = some (.cells #[.slice q l.length d, .int .i64 (t : Int)] 189))
    {q' : Option Addr} {d' : Nat} (hor : OR w 0 q' d' (l.drop 16)) (hS : S g) (hne : ∀ x, q' = some x → 0 < d' → x.block ≠ g ∧ S x.block) (A B : Obj) :
    SeedS w (((((w.setCell ⟨g, 0, none⟩ (.slice q' (l.length - 16) d')).setCell ⟨g, 1, none⟩ (.int .i64 ((t : Int) + 1))).alloc A).alloc B).drew) S g l t := by
  have h1 : Kept w ((w.setCell ⟨g, 0, none⟩ (.slice q' (l.length - 16) d')).setCell ⟨g, 1, none⟩ (.int .i64 ((t : Int) + 1))) (fun k => k = g) :=
    ⟨rfl, rfl, rfl, by simp [World.setCell], fun k _ hk => (Below.heap_setCell _ _ _ k (fun e => hk e)).trans (Below.heap_setCell w _ _ k (fun e => hk e))⟩
  have hb : ∀ w2 : World, Below w2.heap.size w2 ((w2.alloc A).alloc B).drew := fun w2 => (((Below.refl _ w2).alloc (Nat.le_refl _) _).alloc (by simp) _).drew
  have hs : Src ((w.setCell ⟨g, 0, none⟩ (.slice q' (l.length - 16) d')).setCell ⟨g, 1, none⟩ (.int .i64 ((t : Int) + 1))) S g (l.drop 16) (t + 1) := by
    refine ⟨q', d', ?_, hor.same h1.size fun x hx hd => ?_, hS, hne⟩
    · rw [List.length_drop]
      simp [World.setCell, Array.getElem?_modify, hrow]
    · exact (Below.heap_setCell _ _ _ _ (fun e => (hne x hx hd).1 e)).trans (Below.heap_setCell w _ _ _ (fun e => (hne x hx hd).1 e))
  exact ⟨hs.below (hb _), h1.trans (Kept.of_below (hb _))⟩

set_option maxHeartbeats 1000000 in
set_option maxRecDepth 100000 in
theorem srcSeed (w : World) {S : Nat → Prop} {g : Nat} {l : List UInt8} {t : Nat} (h : Src w S g l t) (hl : 16 ≤ l.length) (ht : t < 1000000) :
    Calls Tryz.prog 88 #[.pointer (some ⟨g, 0, none⟩)] w fun e w' => e = .returned (.tuple #[.agg ((l.take 16).map bv).toArray, .int .i64 0]) ∧ SeedS w w' S g l t := by
  have hlt := h.lt
  obtain ⟨q, d, hrow, hor, hS, hne⟩ := h
  have c0 : w.cell? ⟨g, 0, none⟩ = some (.slice q l.length d) := cell_of_row w g 0 _ _ (0, 0) hrow
  have c1 : w.cell? ⟨g, 1, none⟩ = some (.int .i64 (t : Int)) := cell_of_row w g 1 _ _ (0, 0) hrow
  have f0 : w.frozen? ⟨g, 0, none⟩ = false := frozen_of_row w g 0 _ _ hrow
  have f1 : w.frozen? ⟨g, 1, none⟩ = false := frozen_of_row w g 1 _ _ hrow
  have g0 : ¬ (l.length : Int) < 16 := by omega
  have hcap := hor.cap
  obtain ⟨x0, x1, x2, x3, x4, x5, x6, x7, x8, x9, xa, xb, xc, xd, xe, xf, hx⟩ := sixteenB (l.take 16) (by simp; omega)
  have hv : (l.take 16).map bv = [.int .u8 (x0.toNat : Int), .int .u8 (x1.toNat : Int), .int .u8 (x2.toNat : Int), .int .u8 (x3.toNat : Int), .int .u8 (x4.toNat : Int), .int .u8 (x5.toNat : Int), .int .u8 (x6.toNat : Int), .int .u8 (x7.toNat : Int), .int .u8 (x8.toNat : Int), .int .u8 (x9.toNat : Int), .int .u8 (xa.toNat : Int), .int .u8 (xb.toNat : Int), .int .u8 (xc.toNat : Int), .int .u8 (xd.toNat : Int), .int .u8 (xe.toNat : Int), .int .u8 (xf.toNat : Int)] := by rw [hx]; rfl
  have hcp := fun ty => copy_seed w hor hl _ _ _ _ _ _ _ _ _ _ _ _ _ _ _ _ hv ty 105
  unfold zeroB at hcp
  have n1 : (16 : Int) ≤ (l.length : Int) := by omega
  have n2 : (l.length : Int) ≤ (d : Int) := by omega
  have hdr := hor.drop 16 hl
  rcases q with _ | y
  · have := hor.nil rfl; omega
  obtain ⟨b, o, rfl, _, hbl, _⟩ := hor.row y rfl (by omega)
  have hne1 := hne _ rfl (by omega)
  have hdr2 : OR w 0 (if d = 16 then some ⟨b, o, none⟩ else some ⟨b, o + 16, none⟩) (d - 16) (l.drop 16) := by
    have e : (some (⟨b, o, none⟩ : Addr)).map (·.add 16) = some ⟨b, o + 16, none⟩ := by simp [Addr.add_lit]
    rw [e] at hdr
    exact hdr
  have hfin := fun A B => seeded hrow hdr2 hS (fun x hx _ => by
    split at hx
    · cases hx; exact hne1
    · cases hx; exact hne1) A B
  have HFIN := Lib.hid hfin
  have HV := Lib.hid hv
  clear hor hS hne hv hx hdr hdr2 hne1 hfin hrow hbl
  by_cases hds : d = 16
  · subst hds
    rw [if_pos rfl, Nat.sub_self, show l.length - 16 = 0 from by omega] at HFIN
    go_enter Tryz.func88, Tryz.ntmps88
    go_wp2_with fail
    go_region
    go_wp2
    (try simp only [Exit.inBlock, Exit.then])
    refine bodyPost_ret (v := .tuple #[.agg #[.int .u8 (x0.toNat : Int), .int .u8 (x1.toNat : Int), .int .u8 (x2.toNat : Int), .int .u8 (x3.toNat : Int), .int .u8 (x4.toNat : Int), .int .u8 (x5.toNat : Int), .int .u8 (x6.toNat : Int), .int .u8 (x7.toNat : Int), .int .u8 (x8.toNat : Int), .int .u8 (x9.toNat : Int), .int .u8 (xa.toNat : Int), .int .u8 (xb.toNat : Int), .int .u8 (xc.toNat : Int), .int .u8 (xd.toNat : Int), .int .u8 (xe.toNat : Int), .int .u8 (xf.toNat : Int)], .int .i64 0]) ?_ rfl ?_
    · rw [results_cell_tmp rfl]
      simp [go_sem, asAddr, Result.andThen]
    rw [HV.out]
    exact ⟨rfl, HFIN.out _ _⟩
  · rw [if_neg hds] at HFIN
    go_enter Tryz.func88, Tryz.ntmps88
    go_wp2_with fail
    go_region
    go_wp2
    (try simp only [Exit.inBlock, Exit.then])
    refine bodyPost_ret (v := .tuple #[.agg #[.int .u8 (x0.toNat : Int), .int .u8 (x1.toNat : Int), .int .u8 (x2.toNat : Int), .int .u8 (x3.toNat : Int), .int .u8 (x4.toNat : Int), .int .u8 (x5.toNat : Int), .int .u8 (x6.toNat : Int), .int .u8 (x7.toNat : Int), .int .u8 (x8.toNat : Int), .int .u8 (x9.toNat : Int), .int .u8 (xa.toNat : Int), .int .u8 (xb.toNat : Int), .int .u8 (xc.toNat : Int), .int .u8 (xd.toNat : Int), .int .u8 (xe.toNat : Int), .int .u8 (xf.toNat : Int)], .int .i64 0]) ?_ rfl ?_
    · rw [results_cell_tmp rfl]
      simp [go_sem, asAddr, Result.andThen]
    rw [HV.out]
    exact ⟨rfl, HFIN.out _ _⟩

set_option maxHeartbeats 1000000 in
set_option maxRecDepth 100000 in
theorem srcDry (w : World) {S : Nat → Prop} {g : Nat} {l : List UInt8} {t : Nat} (h : Src w S g l t) (hl : l.length < 16) :
    Calls Tryz.prog 88 #[.pointer (some ⟨g, 0, none⟩)] w fun e w' => e = .returned (.tuple #[.agg zeroB, .int .i64 11]) ∧ Below w.heap.size w w' := by
  have hlt := h.lt
  obtain ⟨q, d, hrow, _⟩ := h
  have c0 : w.cell? ⟨g, 0, none⟩ = some (.slice q l.length d) := cell_of_row w g 0 _ _ (0, 0) hrow
  have g0 : (l.length : Int) < 16 := by omega
  clear hrow
  go_enter Tryz.func88, Tryz.ntmps88
  go_wp2
  (try simp only [Exit.inBlock, Exit.then])
  refine bodyPost_ret (v := .tuple #[.agg zeroB, .int .i64 11]) ?_ rfl ?_
  · rw [results_cell_tmp rfl]
    simp [go_sem, asAddr, Result.andThen, zeroB]
  exact ⟨rfl, ((Below.refl _ w).alloc (Nat.le_refl _) _).alloc (by simp) _⟩
end Go.Proofs.YtmbiiemlepfoaaaGreatDoor

/-! A whole row loaded in a fenced walk, as an arm. -/
namespace Go.Proofs.YtmbiiemlepfoaaaGreatDoor
open Go.RowKit
set_option linter.unusedVariables false

theorem wpListIn_load112 {F : Fence} {n : Nat} {ops : Array Oper} {rest : List Oper} {o : Oper} {a : Act} {w : World} {Q : Exit → Act → World → Prop} (hgd : o.guard = none) (x : Operand) (ho : o.op = .load 112 x)
    (b f : Nat) (hx : a.eval x = .pointer (some ⟨b, f, none⟩)) (cs : List Value) (hc : w.rangeAt b f cs) (hl : cs.length = 18)
    (h : wpListIn F n Tryz.prog ops Q rest (a.put o.dst (.agg cs.toArray)) w) : wpListIn F n Tryz.prog ops Q (o :: rest) a w := by
  obtain ⟨d, hd, hr⟩ := und_of row_112
  refine wpListIn_plain hgd fun K hK => ?_
  have hrun := run_loadAt_mid w b f 112 cs d hc hd hr (by rw [info_112, hl])
  unfold Oper.wpIn
  refine ⟨?_, ?_⟩
  · simp [Oper.about, ho]
  · rw [Oper.semAt_plain F _ _ (by rw [ho]; intro c hc'; cases hc')]
    unfold execOp
    simp only [ho, hx, Sem.run_bind, Sem.run_pure, hrun, Result.andThen_ok]
    exact hK _ _ h
end Go.Proofs.YtmbiiemlepfoaaaGreatDoor

/-! The walk of the reference's Less. -/
namespace Go.Proofs.YtmbiiemlepfoaaaGreatDoor
open Go.RowKit

theorem getL (s : ByteArray) (i : Nat) (h : i < s.size) : s.data.toList[i]'(by simpa using h) = s[i] := rfl

set_option maxHeartbeats 1000000 in
theorem refLess (a b : ByteArray) (w : World) (ha : a.size ≤ 9223372036854775807) (_hb : b.size ≤ 9223372036854775807) :
    Calls Tryz.prog 34 #[.string a, .string b] w fun e w' => e = .returned (.bool (lessB a.data.toList b.data.toList)) ∧ ∃ n, w' = w.drewN n := by
  have la : a.data.toList.length = a.size := by simp
  have lb : b.data.toList.length = b.size := by simp
  have LA := Lib.hid la
  have LB := Lib.hid lb
  clear la lb
  go_enter Tryz.func34, Tryz.ntmps34
  go_wp2
  go_loopw [5] (fun v5 wr => ∃ i : Nat, v5 = .int .i64 i ∧ i ≤ a.size ∧ i ≤ b.size ∧ Hid (a.data.toList.take i = b.data.toList.take i) ∧ ∃ n, wr = w.drewN n) (fun v5 _ => a.size - (intOf v5).toNat)
  case atStart => exact ⟨0, rfl, Nat.zero_le _, Nat.zero_le _, rfl, 0, rfl⟩
  case round =>
    obtain ⟨i, rfl, hia, hib, HT, n, rfl⟩ := hrel
    by_cases h1 : i < a.size
    · by_cases h2 : i < b.size
      · have g1 : (i : Int) < (a.size : Int) := by omega
        have g2 : (i : Int) < (b.size : Int) := by omega
        have la : a.data.toList.length = a.size := by simp
        have lb : b.data.toList.length = b.size := by simp
        by_cases he : a[i] = b[i]
        · have hm := take_more HT.out (by omega) (by omega) he
          have HM := Lib.hid hm
          have hq : ((a[i].toNat : Int) != (b[i].toNat : Int)) = false := by rw [he]; simp
          clear hm he la lb
          go_wp2_with fail
          go_quiet (fail)
          go_wp2
          go_roundw
          case rel => exact ⟨i + 1, by go_num, by omega, by omega, HM.out, _, rfl⟩
          case measure => simp [intOf]; omega
        · have hl : lessB a.data.toList b.data.toList = decide (a[i] < b[i]) := less_at HT.out (by omega) (by omega) he
          have HL := Lib.hid hl
          have hq : ((a[i].toNat : Int) != (b[i].toNat : Int)) = true := by
            rw [bne_iff_ne]
            intro h
            exact he (UInt8.toNat_inj.1 (by omega))
          clear hl he la lb
          go_wp2_with fail
          go_quiet (fail)
          go_wp2_with fail
          go_quiet (fail)
          go_wp2
          go_ret
          refine ⟨?_, _, by rw [World.drewN_drewN, World.drewN_drewN]⟩
          rw [HL.out]
          exact congrArg (fun x => Ending.returned (.bool x)) (decide_eq_decide.2 (by rw [UInt8.lt_iff_toNat_lt]))
      · have g1 : (i : Int) < (a.size : Int) := by omega
        have g2 : ¬ ((i : Int) < (b.size : Int)) := by omega
        have la : a.data.toList.length = a.size := by simp
        have lb : b.data.toList.length = b.size := by simp
        have hl := less_end HT.out (.inr (by omega)) (by omega) (by omega)
        rw [la, lb] at hl
        have HL := Lib.hid hl
        clear hl la lb
        go_wp2
        go_ret
        refine ⟨?_, _, rfl⟩
        rw [HL.out]
        rfl
    · have g1 : ¬ ((i : Int) < (a.size : Int)) := by omega
      have la : a.data.toList.length = a.size := by simp
      have lb : b.data.toList.length = b.size := by simp
      have hl := less_end HT.out (.inl (by omega)) (by omega) (by omega)
      rw [la, lb] at hl
      have HL := Lib.hid hl
      clear hl la lb
      go_wp2
      go_ret
      refine ⟨?_, _, rfl⟩
      rw [HL.out]
      rfl
end Go.Proofs.YtmbiiemlepfoaaaGreatDoor

/-! From the shell's word on a slice of bytes to this seat's. -/
namespace Go.Proofs.YtmbiiemlepfoaaaGreatDoor
open Go.RowKit

def byteOf (n : Int) : UInt8 := UInt8.ofNat n.toNat
theorem byteOf_back {n : Int} (h : (Lit.int .u8 n).wf = true) : ((byteOf n).toNat : Int) = n := by
  have h2 : 0 ≤ n ∧ n < 256 := by
    simp [Lit.wf, IntKind.min, IntKind.max, IntKind.signed, IntKind.bits] at h
    omega
  unfold byteOf
  rw [UInt8.toNat_ofNat']
  omega

/-- What the shell hands over of a slice of bytes that came in. -/
theorem isB_of_row {w : World} {a : Option Addr} {len cap : Nat} {zs : List Int}
    (h : (a = none ∧ len = 0 ∧ cap = 0 ∧ zs = []) ∨
      ∃ x, a = some x ∧ len ≤ cap ∧ cap ≤ maxLen ∧ zs.length = cap ∧ (∀ i, i < zs.length → w.cell? (x.add i) = some (.int .u8 (zs.getD i 0))) ∧ ∀ n ∈ zs, (Lit.int .u8 n).wf = true) :
    ∃ l : List UInt8, l.length = len ∧ IsB w a cap l := by
  rcases h with ⟨rfl, rfl, rfl, rfl⟩ | ⟨x, rfl, hl, hm, hz, hc, hw⟩
  · exact ⟨[], rfl, IsB.none_ w⟩
  · refine ⟨(zs.take len).map byteOf, by simp; omega, ⟨by simp; omega, fun h => by simp at h, hm, fun h0 => ?_⟩⟩
    simp at h0
    have hx := hc 0 (by omega)
    obtain ⟨b, o, s⟩ := x
    have hs : s = none := by
      have := World.cell?_spot hx
      simpa [Addr.add] using this
    subst hs
    refine ⟨b, o, rfl, ?_, fun i y hy => ?_⟩
    · have := World.block_lt_of_cell? w _ hx
      simpa [Addr.add_lit] using this
    · rw [List.getElem?_map, Option.map_eq_some_iff] at hy
      obtain ⟨z, hz1, rfl⟩ := hy
      rw [List.getElem?_take] at hz1
      split at hz1
      · rename_i hi
        have hc1 := hc i (by omega)
        rw [Addr.add_lit] at hc1
        rw [hc1, List.getD_eq_getElem?_getD, hz1]
        unfold bv
        rw [byteOf_back (hw z (List.mem_of_getElem? hz1))]
        rfl
      · cases hz1
end Go.Proofs.YtmbiiemlepfoaaaGreatDoor

/-! Arguments opened: slices of bytes. -/
namespace Go.Proofs.YtmbiiemlepfoaaaGreatDoor
open Go.RowKit Go.ChangeShapes Go.WideShapes Go.ChangeAt

section
variable {H : Type} {enc : TypeId × Value → H} {W : World}

set_option maxRecDepth 100000 in
theorem bytes_cells {fuel : Nat} {cs : List Value} {x : DataW H × List MemPlace} (h : DataW.trod enc Tryz.prog W 0 (fun _ => true) true fuel 22 cs = some x) :
    ∃ (p : Option Addr) (c : Nat) (l : List UInt8), cs = [.slice p l.length c] ∧ IsB W p c l := by
  rcases open_ints Tryz.underlying22 Tryz.underlying5 (by kernel_rfl) h with ⟨rfl, _⟩ | ⟨a, len, cap, zs, rfl, _, hl, hm, hz, _, hcell, hwz⟩
  · exact ⟨none, 0, [], rfl, IsB.none_ W⟩
  · obtain ⟨l, rfl, hB⟩ := isB_of_row (w := W) (a := some a) (len := len) (cap := cap) (zs := zs) (.inr ⟨a, rfl, hl, hm, by simpa using hz, hcell, hwz⟩)
    exact ⟨some a, cap, l, rfl, hB⟩

set_option maxRecDepth 100000 in
theorem open_bytes {v : Value} {b : Nat} {d : DataW H} {p : List MemPlace} (hv : Value.okWide Tryz.prog W .any b 22 v) (h : DataW.Trod enc Tryz.prog W 0 (fun _ => true) true 22 v d p) :
    ∃ (q : Option Addr) (c : Nat) (l : List UInt8), v = .slice q l.length c ∧ IsB W q c l := by
  obtain ⟨a, len, cap, rfl⟩ := okWide_slice Tryz.underlying22 hv
  obtain ⟨fuel, hf⟩ := h
  obtain ⟨q, c, l, e, hB⟩ := bytes_cells hf
  simp [Value.cells] at e
  obtain ⟨rfl, rfl, rfl⟩ := e
  exact ⟨_, _, l, rfl, hB⟩
end
end Go.Proofs.YtmbiiemlepfoaaaGreatDoor
