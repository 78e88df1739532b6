/- The walk of a reader's Text. The walk of the reference's Take. A chart's value; the walks of Index, Len, codec.text. The walk of codec.Size. The bytes of a map as plain lists: what is written, what is read; no program. The walk of codec.begins. -/
import Derived.Test.YtmbiiemlepfoaaaGreatDoorBa19
import Derived.Test.YtmbiiemlepfoaaaGreatDoorBa04
import Derived.Test.YtmbiiemlepfoaaaGreatDoorBa03
import Derived.Deep.RegionHeld3

/-! The walk of a reader's Text. -/
namespace Go.Proofs.YtmbiiemlepfoaaaGreatDoor
open Go.RowKit

def textOp (l : List UInt8) (e m : Nat) : List UInt8 × List UInt8 × Nat :=
  if (numOp l e).2.2 = 0 then
    (if m < (numOp l e).1 then ([], l, 4) else if (numOp l e).2.1.length < (numOp l e).1 then ([], l, 3) else ((numOp l e).2.1.take (numOp l e).1, (numOp l e).2.1.drop (numOp l e).1, 0))
  else ([], (numOp l e).2.1, (numOp l e).2.2)

theorem numOp_len (l : List UInt8) (e : Nat) : (numOp l e).2.1.length ≤ l.length := by
  unfold numOp
  split
  · simp
  · exact Nat.le_refl _

set_option maxHeartbeats 2000000 in
set_option maxRecDepth 100000 in
theorem rdText (w : World) {g : Nat} {l : List UInt8} {e : Nat} (n : Int) (m : Nat) (hm : max n 0 = (m : Int)) (hm63 : m ≤ 9223372036854775807) (hl : l.length ≤ 140737488355328) (h : Rd w g l e) :
    Calls Tryz.prog 163 #[.pointer (some ⟨g, 0, none⟩), .int .i64 n] w fun en w' => ∃ q d, en = .returned (.slice q (textOp l e m).1.length d) ∧ TakeR w w' g q d (textOp l e m) := by
  obtain ⟨q, d, c0, c1, f0, f1, ob⟩ := h.cells
  have hnum := rdNumber w h
  have hop : textOp l e m = if (numOp l e).2.2 = 0 then
      (if m < (numOp l e).1 then ([], l, 4) else if (numOp l e).2.1.length < (numOp l e).1 then ([], l, 3) else ((numOp l e).2.1.take (numOp l e).1, (numOp l e).2.1.drop (numOp l e).1, 0))
    else ([], (numOp l e).2.1, (numOp l e).2.2) := rfl
  have hnl := numOp_len l e
  obtain ⟨x, l1, e1, hno⟩ : ∃ x l1 e1, numOp l e = (x, l1, e1) := ⟨_, _, _, rfl⟩
  rw [hno] at hop hnum hnl
  dsimp only at hop hnum hnl
  have hx : e1 = 0 → x < 18446744073709551616 := fun he1 => by
    unfold numOp at hno
    split at hno
    · simp only [Prod.mk.injEq] at hno
      obtain ⟨rfl, _, h3⟩ := hno
      obtain ⟨a, b, c, hd⟩ : ∃ a b c, dec l = (a, b, c) := ⟨_, _, _, rfl⟩
      rw [hd] at h3 ⊢
      dsimp only at h3 ⊢
      rw [h3, he1] at hd
      exact (dec_back hd).2.2.2
    · simp only [Prod.mk.injEq] at hno
      omega
  have HNUM := Lib.hid hnum
  have HOP := Lib.hid hop
  have OB0 := Lib.hid ob
  have HX : Hid (e1 = 0 → x < 18446744073709551616) := hx
  have H := Lib.hid h
  clear hop hnum hno ob hx h
  go_enter Tryz.func163, Tryz.ntmps163
  go_wp2_with fail
  refine HNUM.out.mono ?_
  rintro en w1 ⟨rfl, hrd, hgr⟩
  obtain ⟨q1, d1, k0, k1, z0, z1, ob1⟩ := hrd.cells
  have RD := Lib.hid hrd
  have GR : Hid (w.grownBy w1 (some g)) := hgr
  have OB1 := Lib.hid ob1
  have OB0' := Lib.hid (H.out.bytes OB0.out hgr)
  clear hrd hgr ob1 c0 c1 f0 f1
  by_cases he1 : e1 = 0
  · have hx64 := HX.out he1
    subst he1
    by_cases hmx : m < x
    · have hfin : Hid (textOp l e m = ([], l, 4)) := by show textOp l e m = _; rw [HOP.out, if_pos rfl, if_pos hmx]
      have g1 : (m : Int) < (x : Int) := by omega
      have hfail := rdFail w1 4 RD.out
      have hf : failE 0 4 = 4 := rfl
      rw [hf] at hfail
      have HF := Lib.hid hfail
      clear hfail hf hmx
      go_wp2_with fail
      refine HF.out.mono ?_
      rintro en w2 ⟨rfl, hrd, hgr⟩
      obtain ⟨q2, d2, k0, k1, z0, z1, ob2⟩ := hrd.cells
      have hb2 := RD.out.bytes OB0'.out hgr
      have hset := hrd.set_b hb2
      have HSET := Lib.hid hset
      have GR2 : Hid (w.grownBy w2 (some g)) := grown_transR GR.out hgr
      have RD2 := Lib.hid hrd
      have OB2 := Lib.hid hb2
      clear hrd hgr ob2 hb2 hset
      go_wp2
      go_ret
      rw [hfin.out]
      exact ⟨none, 0, rfl, OB.nil_ _, HSET.out.1, grown_transR GR2.out HSET.out.2⟩
    · by_cases hlx : l1.length < x
      · have hfin : Hid (textOp l e m = ([], l, 3)) := by show textOp l e m = _; rw [HOP.out, if_pos rfl, if_neg hmx, if_pos hlx]
        have g1 : ¬ (m : Int) < (x : Int) := by omega
        have g2 : (l1.length : Int) < (x : Int) := by omega
        have hfail := rdFail w1 3 RD.out
        have hf : failE 0 3 = 3 := rfl
        rw [hf] at hfail
        have HF := Lib.hid hfail
        clear hfail hf hmx hlx
        go_wp2_with fail
        refine HF.out.mono ?_
        rintro en w2 ⟨rfl, hrd, hgr⟩
        obtain ⟨q2, d2, k0, k1, z0, z1, ob2⟩ := hrd.cells
        have hb2 := RD.out.bytes OB0'.out hgr
        have hset := hrd.set_b hb2
        have HSET := Lib.hid hset
        have GR2 : Hid (w.grownBy w2 (some g)) := grown_transR GR.out hgr
        clear hrd hgr ob2 hb2 hset
        go_wp2
        go_ret
        rw [hfin.out]
        exact ⟨none, 0, rfl, OB.nil_ _, HSET.out.1, grown_transR GR2.out HSET.out.2⟩
      · have htk : takeOp l1 0 x = (l1.take x, l1.drop x, 0) := by unfold takeOp; rw [if_pos rfl, if_neg hlx]
        have hfin : Hid (textOp l e m = takeOp l1 0 x) := by show textOp l e m = _; rw [HOP.out, if_pos rfl, if_neg hmx, if_neg hlx, htk]
        have g1 : ¬ (m : Int) < (x : Int) := by omega
        have g2 : ¬ (l1.length : Int) < (x : Int) := by omega
        have htake := rdTake w1 (x : Int) x (by omega) (by omega) RD.out
        have HT := Lib.hid htake
        clear htake htk hmx hlx
        go_wp2_with fail
        refine HT.out.mono ?_
        rintro en w2 ⟨q2, d2, rfl, ht1, ht2, ht3⟩
        have T1 := Lib.hid ht1
        have T2 := Lib.hid ht2
        have T3 : Hid (w1.grownBy w2 (some g)) := ht3
        clear ht1 ht2 ht3
        go_wp2
        go_ret
        rw [hfin.out]
        exact ⟨q2, d2, rfl, T1.out, T2.out, grown_transR GR.out T3.out⟩
  · have hfin : Hid (textOp l e m = ([], l1, e1)) := by show textOp l e m = _; rw [HOP.out, if_neg he1]
    have g1 : ((e1 : Int) != 0) = true := by rw [bne_iff_ne]; omega
    clear he1
    go_wp2
    go_ret
    rw [hfin.out]
    exact ⟨none, 0, rfl, OB.nil_ _, RD.out, GR.out⟩
end Go.Proofs.YtmbiiemlepfoaaaGreatDoor

/-! The walk of the reference's Take. -/
namespace Go.Proofs.YtmbiiemlepfoaaaGreatDoor
open Go.RowKit

theorem decGo_err : ∀ (l : List UInt8) (acc k : Nat), (decGo acc k l).2.2 ≠ 0 → (decGo acc k l).1 = 0 ∧ (decGo acc k l).2.1 = 0
  | [], _, _ => fun _ => ⟨rfl, rfl⟩
  | c :: l, acc, k => by
    unfold decGo
    split
    · exact fun _ => ⟨rfl, rfl⟩
    · split
      · exact fun h => absurd rfl h
      · exact decGo_err l _ _
theorem dec_err {l : List UInt8} (h : (dec l).2.2 ≠ 0) : (dec l).1 = 0 ∧ (dec l).2.1 = 0 := by
  rcases l with _ | ⟨c, l⟩
  · exact ⟨rfl, rfl⟩
  · by_cases hc : c.toNat = 128
    · have := dec_form (l := c :: l) (by simp) hc
      rw [this]
      exact ⟨rfl, rfl⟩
    · have := dec_first (l := c :: l) (by simp) hc
      rw [this] at h ⊢
      exact decGo_err _ _ _ h
theorem textOp_zero (l : List UInt8) (m : Nat) : textOp l 0 m = if (dec l).2.2 = 0 then
      (if m < (dec l).1 then ([], l, 4) else if (l.drop (dec l).2.1).length < (dec l).1 then ([], l, 3) else ((l.drop (dec l).2.1).take (dec l).1, (l.drop (dec l).2.1).drop (dec l).1, 0))
    else ([], l, (dec l).2.2) := by
  have h : textOp l 0 m = if (numOp l 0).2.2 = 0 then
      (if m < (numOp l 0).1 then ([], l, 4) else if (numOp l 0).2.1.length < (numOp l 0).1 then ([], l, 3) else ((numOp l 0).2.1.take (numOp l 0).1, (numOp l 0).2.1.drop (numOp l 0).1, 0))
    else ([], (numOp l 0).2.1, (numOp l 0).2.2) := rfl
  have hn : numOp l 0 = ((dec l).1, l.drop (dec l).2.1, (dec l).2.2) := rfl
  rw [h, hn]
  dsimp only
  split
  · rfl
  · rename_i he
    rw [(dec_err he).2]
    rfl

set_option maxHeartbeats 1000000 in
set_option maxRecDepth 100000 in
theorem refTake (w : World) (s : ByteArray) (hs : s.size ≤ 1000000) (n : Int) (m : Nat) (hm : max n 0 = (m : Int)) (hm63 : m ≤ 9223372036854775807) : Calls Tryz.prog 33 #[.string s, .int .i64 n] w fun e w' =>
    ∃ t r : ByteArray, e = .returned (.tuple #[.string t, .string r, .int .i64 ((textOp s.data.toList 0 m).2.2 : Int)]) ∧ t.data.toList = (textOp s.data.toList 0 m).1 ∧ r.data.toList = (textOp s.data.toList 0 m).2.1 ∧ Below w.heap.size w w' := by
  have hls : s.data.toList.length = s.size := by simp
  have hr := refRead w s hs
  have hop := textOp_zero s.data.toList m
  have hb : (dec s.data.toList).2.2 = 0 → (dec s.data.toList).1 < 2 ^ 64 := fun he => by
    obtain ⟨a, b, c, hd⟩ : ∃ a b c, dec s.data.toList = (a, b, c) := ⟨_, _, _, rfl⟩
    rw [hd] at he ⊢
    dsimp only at he
    subst he
    exact (dec_back hd).2.2.2
  obtain ⟨x, u, e, hd⟩ : ∃ a b c, dec s.data.toList = (a, b, c) := ⟨_, _, _, rfl⟩
  rw [hd] at hr hop hb
  dsimp only at hr hop hb
  have HR := Lib.hid hr
  have HOP := Lib.hid hop
  clear hr hop hd
  go_enter Tryz.func33, Tryz.ntmps33
  go_wp2_with fail
  refine HR.out.mono ?_
  rintro e1 w1 ⟨t, rfl, ht, k, rfl⟩
  have htl : t.data.toList.length = t.size := by simp
  have hts : t.size ≤ 1000000 := by rw [← htl, ht, List.length_drop]; omega
  have HT := Lib.hid ht
  clear ht
  by_cases he : e = 0
  · have hx := hb he
    subst he
    clear hb
    rw [if_pos rfl, ← HT.out, htl] at HOP
    by_cases hneg : n < 0
    · have hm0 : m = 0 := by omega
      subst hm0
      by_cases hmx : 0 < x
      · have hfin : Hid (textOp s.data.toList 0 0 = ([], s.data.toList, 4)) := by have := HOP.out; rw [if_pos hmx] at this; exact this
        have g1 : (0 : Int) < (x : Int) := by omega
        clear hmx HOP
        go_wp2
        go_ret3
        rw [hfin.out]
        exact ⟨_, _, rfl, rfl, rfl, Go.below_drewN (Below.refl _ _) _⟩
      · have hx0 : x = 0 := by omega
        subst hx0
        have hfin : Hid (textOp s.data.toList 0 0 = ([], t.data.toList, 0)) := by have := HOP.out; rw [if_neg hmx, if_neg (by omega)] at this; exact this
        have g2 : ¬ (t.size : Int) < ((0 : Nat) : Int) := by omega
        clear hmx HOP
        go_wp2_with fail
        go_quiet (fail)
        go_wp2
        go_ret3
        rw [hfin.out]
        exact ⟨_, _, rfl, by simp, by simp, Go.below_drewN (Go.below_drewN (Below.refl _ _) _) _⟩
    · obtain rfl : n = (m : Int) := by omega
      by_cases hmx : m < x
      · have hfin : Hid (textOp s.data.toList 0 m = ([], s.data.toList, 4)) := by have := HOP.out; rw [if_pos hmx] at this; exact this
        have g1 : (m : Int) < (x : Int) := by omega
        clear hmx HOP
        go_wp2
        go_ret3
        rw [hfin.out]
        exact ⟨_, _, rfl, rfl, rfl, Go.below_drewN (Below.refl _ _) _⟩
      · have g1 : ¬ (m : Int) < (x : Int) := by omega
        by_cases hlx : t.size < x
        · have hfin : Hid (textOp s.data.toList 0 m = ([], s.data.toList, 3)) := by have := HOP.out; rw [if_neg hmx, if_pos hlx] at this; exact this
          have g2 : (t.size : Int) < (x : Int) := by omega
          clear hmx hlx HOP
          go_wp2
          go_ret3
          rw [hfin.out]
          exact ⟨_, _, rfl, rfl, rfl, Go.below_drewN (Below.refl _ _) _⟩
        · have hfin : Hid (textOp s.data.toList 0 m = (t.data.toList.take x, t.data.toList.drop x, 0)) := by have := HOP.out; rw [if_neg hmx, if_neg hlx] at this; exact this
          have g2 : ¬ (t.size : Int) < (x : Int) := by omega
          clear hmx hlx HOP
          go_wp2_with fail
          go_quiet (fail)
          go_wp2
          go_ret3
          rw [hfin.out]
          exact ⟨_, _, rfl, by simp, Lib.extract_to_end _ _, Go.below_drewN (Go.below_drewN (Below.refl _ _) _) _⟩
  · have ge : ¬ (e : Int) = 0 := by omega
    have hfin : Hid (textOp s.data.toList 0 m = ([], s.data.toList, e)) := by have := HOP.out; rw [if_neg he] at this; exact this
    go_wp2
    go_ret3
    rw [hfin.out]
    exact ⟨_, _, rfl, rfl, rfl, Go.below_drewN (Below.refl _ _) _⟩
end Go.Proofs.YtmbiiemlepfoaaaGreatDoor

/-! A chart's value; the walks of Index, Len, codec.text. -/
namespace Go.Proofs.YtmbiiemlepfoaaaGreatDoor
open Go.RowKit
set_option linter.unusedVariables false

theorem codecText (w : World) {p : Option Addr} {c : Nat} {l : List UInt8} (hl : l.length ≤ 1000000) :
    Calls Tryz.prog 171 #[.slice p l.length c] w fun e w' => e = .returned (.int .i64 ((sizeN l.length + l.length : Nat) : Int)) ∧ w = w' := by
  have CS := Lib.hid (frSize w l.length (by omega))
  have hz : sizeN l.length ≤ 10 := by
    have := blen_le (x := l.length) (k := 64) (by omega)
    unfold sizeN
    omega
  have w1 : IntKind.u64.wrap (l.length : Int) = (l.length : Int) := IntWalk.u64_in _ (by omega)
  have w2 : IntKind.i64.wrap ((sizeN l.length : Int) + (l.length : Int)) = ((sizeN l.length + l.length : Nat) : Int) := by rw [IntWalk.i64_in _ (by omega)]; omega
  go_enter Tryz.func171, Tryz.ntmps171
  go_wp2_with (go_at_call 170; ((with_reducible refine CS.out.mono ?_)); rintro e w1 ⟨rfl, rfl⟩)
  go_ret
  exact ⟨rfl, rfl⟩

def chartV (seed : List UInt8) (root : Value) (p : Option Addr) : Value := .agg ((seed.map bv).toArray ++ #[root, .pointer p])
theorem sixteenL : ∀ (vs : List UInt8), vs.length = 16 → ∃ x0 x1 x2 x3 x4 x5 x6 x7 x8 x9 xa xb xc xd xe xf : UInt8, vs = [x0, x1, x2, x3, x4, x5, x6, x7, x8, x9, xa, xb, xc, xd, xe, xf]
  | [x0, x1, x2, x3, x4, x5, x6, x7, x8, x9, xa, xb, xc, xd, xe, xf], _ => ⟨_, _, _, _, _, _, _, _, _, _, _, _, _, _, _, _, rfl⟩
def chartRow (seed : List UInt8) (root : Value) (p : Option Addr) : Obj := .cells ((seed.map bv).toArray ++ #[root, .pointer p]) 112

/-- A trie's root, as a value: nil, or a pointer under a type. -/
def IsRoot (r : Value) : Prop := r = .nilIface ∨ ∃ t a, r = .iface t (.pointer a)

set_option maxHeartbeats 1000000 in
set_option maxRecDepth 100000 in
theorem chartIndex (w : World) {seed : List UInt8} (hs : seed.length = 16) {root : Value} (hr : IsRoot root) (p : Option Addr) :
    Calls Tryz.prog 100 #[chartV seed root p] w fun e w' => e = .returned (.pointer p) ∧ w' = w.alloc (chartRow seed root p) := by
  obtain ⟨x0, x1, x2, x3, x4, x5, x6, x7, x8, x9, xa, xb, xc, xd, xe, xf, rfl⟩ := sixteenL seed hs
  unfold chartV chartRow
  simp only [List.map, bv, List.append_toArray, List.cons_append, List.nil_append]
  rcases hr with rfl | ⟨t, a, rfl⟩
  all_goals
    go_enter Tryz.func100, Tryz.ntmps100
    go_wp2
    go_ret
    exact ⟨rfl, rfl⟩
set_option maxHeartbeats 1000000 in
set_option maxRecDepth 100000 in
theorem chartLen (w : World) {D : Nat → Prop} {seed : List UInt8} (hs : seed.length = 16) {root : Value} (hr : IsRoot root) {p : Option Addr} {t : T} (h : TreeAt w D p t) :
    Calls Tryz.prog 98 #[chartV seed root p] w fun e w' => e = .returned (.int .i64 (t.size : Int)) ∧ w' = w.alloc (chartRow seed root p) := by
  obtain ⟨x0, x1, x2, x3, x4, x5, x6, x7, x8, x9, xa, xb, xc, xd, xe, xf, rfl⟩ := sixteenL seed hs
  have CS := Lib.hid (show ∀ w', Below w.heap.size w w' → Calls Tryz.prog 64 #[.pointer p] w' _ from fun w' hb => treeSize w' (h.below hb))
  have hb := (Below.refl _ w).alloc (Nat.le_refl _) (chartRow [x0, x1, x2, x3, x4, x5, x6, x7, x8, x9, xa, xb, xc, xd, xe, xf] root p)
  unfold chartV
  unfold chartRow at hb ⊢
  simp only [List.map, bv, List.append_toArray, List.cons_append, List.nil_append] at hb ⊢
  clear h
  rcases hr with rfl | ⟨t, a, rfl⟩
  all_goals
    go_enter Tryz.func98, Tryz.ntmps98
    go_wp2_with (go_at_call 64; ((refine (CS.out _ hb).mono ?_)); rintro e w1 ⟨rfl, rfl⟩)
    go_ret
    exact ⟨rfl, rfl⟩
end Go.Proofs.YtmbiiemlepfoaaaGreatDoor

/-! The walk of codec.Size. -/
namespace Go.Proofs.YtmbiiemlepfoaaaGreatDoor
open Go.RowKit Go.Shelf
set_option linter.unusedVariables false
attribute [local go_sem] Oper.semAt_some

/-- A text's bytes, as many as are written. -/
def textN (l : List UInt8) : Nat := sizeN l.length + l.length
def pairN (x : PairT) : Nat := textN x.1 + textN x.2
def pairsN (l : List PairT) : Nat := (l.map pairN).sum
def sizeM (t : T) : Nat := 4 + sizeN t.size + pairsN t.list

/-- walk.All makes its closure: two boxes. -/
theorem walkAll (w : World) (p : Option Addr) (fp tp : Option Addr) (fc tc : Nat) (f tk : List UInt8) (closed : Bool) :
    Calls Tryz.prog 99 #[.pointer p, spanV fp fc f tp tc tk closed] w fun e w' => e = .returned (.func (.func 172) #[] #[.pointer (some ⟨w.heap.size, 0, none⟩), .pointer (some ⟨w.heap.size + 1, 0, none⟩)]) ∧
      w' = (w.alloc (.cells #[.pointer p] 43)).alloc (.cells #[.slice fp f.length fc, .slice tp tk.length tc, .bool closed] 151) := by
  have hmf : ∀ (fn : Fn) (first cap : Array Value) (w : World), (Instr.makeFunc fn first cap).run Tryz.prog w = .ok (.func fn first cap) w := fun _ _ _ _ => rfl
  go_enter Tryz.func99, Tryz.ntmps99
  go_wp2
  go_ret
  exact ⟨rfl, rfl⟩

def T.Neat (t : T) : Prop := ∀ x ∈ t.list, x.1.length ≤ 1000000 ∧ x.2.length ≤ 1000000
theorem T.Neat.small {t : T} (h : t.Neat) : t.Small := fun x hx => by have := h x hx; omega

end Go.Proofs.YtmbiiemlepfoaaaGreatDoor

/-! The bytes of a map as plain lists: what is written, what is read; no program. -/
namespace Go.Proofs.YtmbiiemlepfoaaaGreatDoor
open Go.Lib
set_option linter.unusedVariables false

def markL : List UInt8 := [66, 82, 87, 49]
def beginsGo : List UInt8 → List UInt8 → Nat
  | [], _ => 0
  | _ :: _, [] => 3
  | m :: ms, x :: xs => if x = m then beginsGo ms xs else 2
def beginsM (b : List UInt8) : Nat := beginsGo markL b
def textB (l : List UInt8) : List UInt8 := enc l.length ++ l
def pairB (x : PairT) : List UInt8 := textB x.1 ++ textB x.2
def mapB (L : List PairT) : List UInt8 := markL ++ (enc L.length ++ L.flatMap pairB)
/-- One pair, behind some key: the pair, what is left, the error's number. -/
def oneM (l : List UInt8) (last : Option (List UInt8)) : PairT × List UInt8 × Nat :=
  if (textOp l 0 65536).2.2 ≠ 0 then (((textOp l 0 65536).1, []), (textOp l 0 65536).2.1, (textOp l 0 65536).2.2)
  else if last = some (textOp l 0 65536).1 then (((textOp l 0 65536).1, []), (textOp l 0 65536).2.1, 6)
  else if (last.any fun k => compareBytes (textOp l 0 65536).1 k == -1) = true then (((textOp l 0 65536).1, []), (textOp l 0 65536).2.1, 5)
  else (((textOp l 0 65536).1, (textOp (textOp l 0 65536).2.1 0 65536).1), (textOp (textOp l 0 65536).2.1 0 65536).2.1, (textOp (textOp l 0 65536).2.1 0 65536).2.2)
def pairsM : Nat → List UInt8 → Option (List UInt8) → List PairT → List PairT × Nat
  | 0, l, _, acc => if l = [] then (acc, 0) else ([], 7)
  | n + 1, l, last, acc => if (oneM l last).2.2 ≠ 0 then ([], (oneM l last).2.2) else pairsM n (oneM l last).2.1 (some (oneM l last).1.1) (acc ++ [(oneM l last).1])
def readM (b : List UInt8) : List PairT × Nat :=
  if beginsM b ≠ 0 then ([], beginsM b)
  else if (dec (b.drop 4)).2.2 ≠ 0 then ([], (dec (b.drop 4)).2.2)
  else if 1048576 < (dec (b.drop 4)).1 then ([], 4)
  else pairsM (dec (b.drop 4)).1 ((b.drop 4).drop (dec (b.drop 4)).2.1) none []
def AscFrom : Option (List UInt8) → List PairT → Prop
  | _, [] => True
  | last, x :: xs => (∀ k, last = some k → compareBytes k x.1 = -1) ∧ AscFrom (some x.1) xs

theorem begins_zero : ∀ (m b : List UInt8), beginsGo m b = 0 → b = m ++ b.drop m.length
  | [], b, _ => by simp
  | _ :: _, [], h => by simp [beginsGo] at h
  | m :: ms, x :: xs, h => by
    unfold beginsGo at h
    split at h
    · rename_i hx
      subst hx
      have := begins_zero ms xs h
      simp only [List.cons_append, List.length_cons, List.drop_succ_cons]
      rw [← this]
    · cases h
theorem text_back {l : List UInt8} {m : Nat} {t r : List UInt8} (h : textOp l 0 m = (t, r, 0)) : l = textB t ++ r ∧ t.length ≤ m := by
  rw [textOp_zero] at h
  obtain ⟨a, b, c, hd⟩ : ∃ a b c, dec l = (a, b, c) := ⟨_, _, _, rfl⟩
  rw [hd] at h
  dsimp only at h
  split at h
  · rename_i hc
    subst hc
    obtain ⟨h2, h3, h4, h5⟩ := dec_back hd
    split at h
    · simp at h
    · split at h
      · simp at h
      · rename_i h6 h7
        simp only [Prod.mk.injEq, and_true] at h
        obtain ⟨rfl, rfl⟩ := h
        have h8 : ((l.drop b).take a).length = a := by rw [List.length_take]; omega
        unfold textB
        rw [h8, ← h4, List.append_assoc, List.take_append_drop, List.take_append_drop]
        exact ⟨rfl, by omega⟩
  · rename_i hc
    simp only [Prod.mk.injEq] at h
    omega
theorem one_back {l : List UInt8} {last : Option (List UInt8)} {x : PairT} {r : List UInt8} (h : oneM l last = (x, r, 0)) : l = pairB x ++ r ∧ x.1.length ≤ 65536 ∧ x.2.length ≤ 65536 ∧ ∀ k, last = some k → compareBytes k x.1 = -1 := by
  unfold oneM at h
  obtain ⟨t, r1, e1, h1⟩ : ∃ t r1 e1, textOp l 0 65536 = (t, r1, e1) := ⟨_, _, _, rfl⟩
  rw [h1] at h
  dsimp only at h
  obtain ⟨v, r2, e2, h2⟩ : ∃ v r2 e2, textOp r1 0 65536 = (v, r2, e2) := ⟨_, _, _, rfl⟩
  rw [h2] at h
  dsimp only at h
  split at h
  · rename_i hc
    simp only [Prod.mk.injEq] at h
    omega
  · rename_i hc
    split at h
    · simp only [Prod.mk.injEq] at h; omega
    · split at h
      · simp only [Prod.mk.injEq] at h; omega
      · rename_i hne hlt
        simp only [Prod.mk.injEq] at h
        obtain ⟨rfl, rfl, rfl⟩ := h
        have hc' : e1 = 0 := by omega
        subst hc'
        obtain ⟨a1, a2⟩ := text_back h1
        obtain ⟨b1, b2⟩ := text_back h2
        refine ⟨?_, a2, b2, ?_⟩
        · unfold pairB
          rw [a1, b1, List.append_assoc]
        · rintro k rfl
          simp only [Option.any_some, beq_iff_eq] at hlt
          have e0 : compareBytes t k ≠ 0 := fun he => hne (by rw [cmp_zero he])
          have := cmp_swap t k
          rcases cmp_range t k with e | e | e <;> dsimp only at hlt ⊢ <;> omega
theorem pairs_back : ∀ (n : Nat) (l : List UInt8) (last : Option (List UInt8)) (acc L : List PairT), pairsM n l last acc = (L, 0) →
    ∃ M, L = acc ++ M ∧ M.length = n ∧ l = M.flatMap pairB ∧ AscFrom last M ∧ ∀ x ∈ M, x.1.length ≤ 65536 ∧ x.2.length ≤ 65536
  | 0, l, last, acc, L, h => by
    unfold pairsM at h
    split at h
    · rename_i hl
      simp only [Prod.mk.injEq, and_true] at h
      subst h; subst hl
      exact ⟨[], by simp, rfl, rfl, trivial, fun _ h => by cases h⟩
    · simp at h
  | n + 1, l, last, acc, L, h => by
    unfold pairsM at h
    obtain ⟨x, r, e, ho⟩ : ∃ x r e, oneM l last = (x, r, e) := ⟨_, _, _, rfl⟩
    rw [ho] at h
    dsimp only at h
    split at h
    · rename_i he
      simp only [Prod.mk.injEq] at h
      omega
    · rename_i he
      have he0 : e = 0 := by omega
      subst he0
      obtain ⟨h1, h2, h3, h4⟩ := one_back ho
      obtain ⟨M, m1, m2, m3, m4, m5⟩ := pairs_back n r _ _ _ h
      refine ⟨x :: M, by rw [m1]; simp, by simp [m2], by rw [h1, m3]; rfl, ⟨h4, m4⟩, ?_⟩
      intro y hy
      rcases List.mem_cons.1 hy with rfl | hy
      · exact ⟨h2, h3⟩
      · exact m5 y hy
/-- WHAT IS READ IS WRITTEN SO: each map has one text. -/
theorem read_back {b : List UInt8} {L : List PairT} (h : readM b = (L, 0)) : mapB L = b ∧ AscFrom none L ∧ (∀ x ∈ L, x.1.length ≤ 65536 ∧ x.2.length ≤ 65536) ∧ L.length ≤ b.length ∧ L.length ≤ 1048576 := by
  unfold readM at h
  split at h
  · rename_i hb
    simp only [Prod.mk.injEq] at h
    omega
  · rename_i hb
    have hb0 : beginsM b = 0 := by omega
    have h1 := begins_zero _ _ hb0
    obtain ⟨n, u, e, hd⟩ : ∃ n u e, dec (b.drop 4) = (n, u, e) := ⟨_, _, _, rfl⟩
    rw [hd] at h
    dsimp only at h
    split at h
    · rename_i he
      simp only [Prod.mk.injEq] at h
      omega
    · rename_i he
      have he0 : e = 0 := by omega
      subst he0
      split at h
      · simp at h
      · rename_i hn
        obtain ⟨M, m1, m2, m3, m4, m5⟩ := pairs_back _ _ _ _ _ h
        obtain ⟨d1, d2, d3, d4⟩ := dec_back hd
        simp only [List.nil_append] at m1
        subst m1
        have e1 : mapB L = b := by
          unfold mapB
          rw [m2, ← m3, ← d3, List.take_append_drop]
          exact h1.symm
        refine ⟨e1, m4, m5, ?_, by omega⟩
        rw [← e1]
        unfold mapB
        simp only [List.length_append]
        have : L.length ≤ (L.flatMap pairB).length := by
          rw [List.length_flatMap]
          have hp : ∀ x : PairT, 1 ≤ (pairB x).length := fun x => by
            unfold pairB textB
            have := size_pos x.1.length
            simp only [List.length_append, enc_length]
            omega
          clear e1 m2 m3 m4 m5 h
          induction L with
          | nil => simp
          | cons x L ih =>
            have := hp x
            simp only [List.map_cons, List.sum_cons, List.length_cons]
            omega
        omega
theorem sizeM_enc (t : T) : sizeM t = (mapB t.list).length := by
  unfold sizeM mapB pairsN
  rw [List.length_append, List.length_append, List.length_flatMap, enc_length, T.list_length]
  have : t.list.map pairN = t.list.map fun x => (pairB x).length := by
    apply List.map_congr_left
    intro x _
    unfold pairN pairB textB textN
    simp only [List.length_append, enc_length]
  rw [this]
  simp [markL]
  omega
end Go.Proofs.YtmbiiemlepfoaaaGreatDoor

/-! The walk of codec.begins. -/
namespace Go.Proofs.YtmbiiemlepfoaaaGreatDoor
open Go.RowKit
set_option linter.unusedVariables false

set_option maxHeartbeats 4000000 in
set_option maxRecDepth 100000 in
theorem codecBegins (w : World) {p : Option Addr} {c : Nat} {l : List UInt8} (h : IsB w p c l) :
    Calls Tryz.prog 81 #[.slice p l.length c] w fun e w' => e = .returned (.int .i64 (beginsM l : Int)) ∧ ∃ n, w' = w.drewN n := by
  have hlen : l.length ≤ maxLen := Nat.le_trans h.cap h.big
  unfold maxLen at hlen
  have H := Lib.hid h
  clear h
  go_enter Tryz.func81, Tryz.ntmps81
  go_wp2
  go_loopw [4] (fun v4 wr => ∃ i n : Nat, v4 = .int .i64 i ∧ i ≤ 4 ∧ wr = w.drewN n ∧ Hid (beginsGo (markL.drop i) (l.drop i) = beginsM l)) (fun v4 _ => 4 - (intOf v4).toNat)
  case atStart => exact ⟨0, 0, rfl, by omega, rfl, rfl⟩
  case round =>
    obtain ⟨i, n, rfl, hi, rfl, HI⟩ := hrel
    by_cases h4 : i < 4
    · by_cases h1 : i < l.length
      · obtain ⟨b, o, rfl, hb, hc⟩ := H.out.cells (by omega)
        have g1 : (i : Int) < (l.length : Int) := by omega
        have hcell : (w.drewN n).drew.cell? ⟨b, o + i, none⟩ = some (.int .u8 (l[i].toNat : Int)) := hc i _ (List.getElem?_eq_getElem h1)
        have hd : l.drop i = l[i] :: l.drop (i + 1) := List.drop_eq_getElem_cons h1
        have hlt := l[i].toNat_lt
        obtain ⟨x, hx⟩ : ∃ x, l[i] = x := ⟨_, rfl⟩
        rw [hx] at hcell hd hlt
        have HD := Lib.hid hd
        clear hd hc hx
        obtain ⟨m, hm, hms⟩ : ∃ m : UInt8, markL.drop i = m :: markL.drop (i + 1) ∧ (i = 0 ∧ m = 66 ∨ i = 1 ∧ m = 82 ∨ i = 2 ∧ m = 87 ∨ i = 3 ∧ m = 49) := by
          have : i = 0 ∨ i = 1 ∨ i = 2 ∨ i = 3 := by omega
          rcases this with rfl | rfl | rfl | rfl
          · exact ⟨66, rfl, .inl ⟨rfl, rfl⟩⟩
          · exact ⟨82, rfl, .inr (.inl ⟨rfl, rfl⟩)⟩
          · exact ⟨87, rfl, .inr (.inr (.inl ⟨rfl, rfl⟩))⟩
          · exact ⟨49, rfl, .inr (.inr (.inr ⟨rfl, rfl⟩))⟩
        have hg := HI.out
        rw [hm, HD.out, beginsGo] at hg
        by_cases he : x = m
        · rw [if_pos he] at hg
          have HG := Lib.hid hg
          clear hg hm HI HD
          subst he
          rcases hms with ⟨rfl, rfl⟩ | ⟨rfl, rfl⟩ | ⟨rfl, rfl⟩ | ⟨rfl, rfl⟩
          · have hcell' : (w.drewN n).drew.cell? ⟨b, o, none⟩ = some (.int .u8 66) := hcell
            have hne : l ≠ [] := fun e => by rw [e] at h1; cases h1
            have gd : decide (l = []) = false := decide_eq_false hne
            clear hne
            clear hcell
            go_wp2
            go_region_held3 (fun w' => w'.cell? ⟨b, o, none⟩ = some (.int .u8 66)) (assumption) (fail)
            go_wp2
            go_roundw
            case rel => exact ⟨1, n + 1, rfl, by omega, rfl, HG.out⟩
            case measure => simp [intOf]
          · have hcell' : (w.drewN n).drew.cell? ⟨b, o + 1, none⟩ = some (.int .u8 82) := hcell
            have gd : decide ((l.length : Int) ≤ 1) = false := decide_eq_false (by omega)
            have g1' : (1 : Int) < (l.length : Int) := g1
            clear g1
            clear hcell
            go_wp2
            go_region_held3 (fun w' => w'.cell? ⟨b, o + 1, none⟩ = some (.int .u8 82)) (assumption) (fail)
            go_wp2
            go_roundw
            case rel => exact ⟨2, n + 1, rfl, by omega, rfl, HG.out⟩
            case measure => simp [intOf]
          · have hcell' : (w.drewN n).drew.cell? ⟨b, o + 2, none⟩ = some (.int .u8 87) := hcell
            have gd : decide ((l.length : Int) ≤ 2) = false := decide_eq_false (by omega)
            have g1' : (2 : Int) < (l.length : Int) := g1
            clear g1
            clear hcell
            go_wp2
            go_region_held3 (fun w' => w'.cell? ⟨b, o + 2, none⟩ = some (.int .u8 87)) (assumption) (fail)
            go_wp2
            go_roundw
            case rel => exact ⟨3, n + 1, rfl, by omega, rfl, HG.out⟩
            case measure => simp [intOf]
          · have hcell' : (w.drewN n).drew.cell? ⟨b, o + 3, none⟩ = some (.int .u8 49) := hcell
            have gd : decide ((l.length : Int) ≤ 3) = false := decide_eq_false (by omega)
            have g1' : (3 : Int) < (l.length : Int) := g1
            clear g1
            clear hcell
            go_wp2
            go_region_held3 (fun w' => w'.cell? ⟨b, o + 3, none⟩ = some (.int .u8 49)) (assumption) (fail)
            go_wp2
            go_roundw
            case rel => exact ⟨4, n + 1, rfl, by omega, rfl, HG.out⟩
            case measure => simp [intOf]
        · rw [if_neg he] at hg
          have HG := Lib.hid hg
          have hne : x.toNat ≠ m.toNat := fun e => he (UInt8.toNat_inj.1 e)
          generalize x.toNat = y at *
          clear hg hm HI HD he
          rcases hms with ⟨rfl, rfl⟩ | ⟨rfl, rfl⟩ | ⟨rfl, rfl⟩ | ⟨rfl, rfl⟩
          · have hcell' : (w.drewN n).drew.cell? ⟨b, o, none⟩ = some (.int .u8 (y : Int)) := hcell
            have hyn : y ≠ 66 := hne
            have gy : ((y : Int) == 66) = false := by rw [beq_eq_false_iff_ne]; omega
            have gb : ((y : Int) != (((ByteArray.mk #[66, 82, 87, 49])[0]'(by decide)).toNat : Int)) = true := by show ((y : Int) != 66) = true; rw [bne, gy]; rfl
            have hne : l ≠ [] := fun e => by rw [e] at h1; cases h1
            have gd : decide (l = []) = false := decide_eq_false hne
            clear hne
            clear hcell hne
            go_wp2
            go_region_held3 (fun w' => w'.cell? ⟨b, o, none⟩ = some (.int .u8 (y : Int))) (assumption) (fail)
            go_wp2
            go_ret
            exact ⟨by rw [← HG.out]; rfl, n + 1, rfl⟩
          · have hcell' : (w.drewN n).drew.cell? ⟨b, o + 1, none⟩ = some (.int .u8 (y : Int)) := hcell
            have hyn : y ≠ 82 := hne
            have gy : ((y : Int) == 82) = false := by rw [beq_eq_false_iff_ne]; omega
            have gb : ((y : Int) != (((ByteArray.mk #[66, 82, 87, 49])[1]'(by decide)).toNat : Int)) = true := by show ((y : Int) != 82) = true; rw [bne, gy]; rfl
            have gd : decide ((l.length : Int) ≤ 1) = false := decide_eq_false (by omega)
            have g1' : (1 : Int) < (l.length : Int) := g1
            clear g1
            clear hcell hne
            go_wp2
            go_region_held3 (fun w' => w'.cell? ⟨b, o + 1, none⟩ = some (.int .u8 (y : Int))) (assumption) (fail)
            go_wp2
            go_ret
            exact ⟨by rw [← HG.out]; rfl, n + 1, rfl⟩
          · have hcell' : (w.drewN n).drew.cell? ⟨b, o + 2, none⟩ = some (.int .u8 (y : Int)) := hcell
            have hyn : y ≠ 87 := hne
            have gy : ((y : Int) == 87) = false := by rw [beq_eq_false_iff_ne]; omega
            have gb : ((y : Int) != (((ByteArray.mk #[66, 82, 87, 49])[2]'(by decide)).toNat : Int)) = true := by show ((y : Int) != 87) = true; rw [bne, gy]; rfl
            have gd : decide ((l.length : Int) ≤ 2) = false := decide_eq_false (by omega)
            have g1' : (2 : Int) < (l.length : Int) := g1
            clear g1
            clear hcell hne
            go_wp2
            go_region_held3 (fun w' => w'.cell? ⟨b, o + 2, none⟩ = some (.int .u8 (y : Int))) (assumption) (fail)
            go_wp2
            go_ret
            exact ⟨by rw [← HG.out]; rfl, n + 1, rfl⟩
          · have hcell' : (w.drewN n).drew.cell? ⟨b, o + 3, none⟩ = some (.int .u8 (y : Int)) := hcell
            have hyn : y ≠ 49 := hne
            have gy : ((y : Int) == 49) = false := by rw [beq_eq_false_iff_ne]; omega
            have gb : ((y : Int) != (((ByteArray.mk #[66, 82, 87, 49])[3]'(by decide)).toNat : Int)) = true := by show ((y : Int) != 49) = true; rw [bne, gy]; rfl
            have gd : decide ((l.length : Int) ≤ 3) = false := decide_eq_false (by omega)
            have g1' : (3 : Int) < (l.length : Int) := g1
            clear g1
            clear hcell hne
            go_wp2
            go_region_held3 (fun w' => w'.cell? ⟨b, o + 3, none⟩ = some (.int .u8 (y : Int))) (assumption) (fail)
            go_wp2
            go_ret
            exact ⟨by rw [← HG.out]; rfl, n + 1, rfl⟩
      · have hd : l.drop i = [] := List.drop_eq_nil_of_le (by omega)
        have hg := HI.out
        rw [hd] at hg
        have hres : beginsM l = 3 := by
          rw [← hg]
          have : i = 0 ∨ i = 1 ∨ i = 2 ∨ i = 3 := by omega
          rcases this with rfl | rfl | rfl | rfl <;> rfl
        have g1 : ¬ (i : Int) < (l.length : Int) := by omega
        have HR := Lib.hid hres
        clear hd hg hres HI
        go_wp2
        go_ret
        exact ⟨by rw [HR.out]; rfl, n, rfl⟩
    · have hi4 : i = 4 := by omega
      subst hi4
      have HR : Hid (beginsM l = 0) := HI.out.symm
      clear HI
      go_wp2
      go_ret
      exact ⟨by rw [HR.out]; rfl, n, rfl⟩
end Go.Proofs.YtmbiiemlepfoaaaGreatDoor
