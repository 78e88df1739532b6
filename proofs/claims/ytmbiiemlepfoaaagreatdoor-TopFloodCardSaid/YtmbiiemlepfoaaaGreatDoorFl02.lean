/- How many bits a number has: plain numbers, no program. Numbers as bytes: plain lists, no program. A reader's state in memory; the walks of NewReader, fail, Err, Left, End. Trees as the heap has them; the walks of Size, Left, Right, own, node, Root. The walks of own, node, Root. The walk of node. The walk of rank.At. The order of bytes: plain lists, no program. The walks of bytes.Compare, keys.Compare, bytes.Equal. -/
import Derived.Lib.BitFns
import Derived.Lib.ItoaNum
import Derived.Lib.Bytealg
import Derived.Test.YtmbiiemlepfoaaaGreatDoorFl01
import Derived.Laws.ResultCell
import Derived.Laws.Rows
import Derived.Deep.RegionWith
import Derived.Deep.DeepCutAuto
import Derived.Deep.LoopGhost

namespace Go.Proofs.YtmbiiemlepfoaaaGreatDoor
def blen (x : Nat) : Nat := if x = 0 then 0 else x.log2 + 1
theorem blen_zero : blen 0 = 0 := rfl
theorem blen_eq {x k : Nat} (h1 : 2 ^ k ≤ x) (h2 : x < 2 ^ (k + 1)) : blen x = k + 1 := by
  have hx : x ≠ 0 := by have := Nat.two_pow_pos k; omega
  unfold blen
  rw [if_neg hx, (Nat.log2_eq_iff hx).2 ⟨h1, h2⟩]
theorem blen_bounds {x : Nat} (hx : x ≠ 0) : 1 ≤ blen x ∧ 2 ^ (blen x - 1) ≤ x ∧ x < 2 ^ blen x := by
  unfold blen
  rw [if_neg hx]
  exact ⟨by omega, Nat.log2_self_le hx, Nat.lt_log2_self⟩
theorem blen_unique {x k : Nat} (hk : 1 ≤ k) (h1 : 2 ^ (k - 1) ≤ x) (h2 : x < 2 ^ k) : blen x = k := by
  have := blen_eq (x := x) (k := k - 1) h1 (by rw [Nat.sub_add_cancel hk]; exact h2)
  omega
theorem blen_le {x k : Nat} (h : x < 2 ^ k) : blen x ≤ k := by
  by_cases hx : x = 0
  · subst hx; exact Nat.zero_le _
  · obtain ⟨h1, h2, _⟩ := blen_bounds hx
    have : blen x - 1 < k := (Nat.pow_lt_pow_iff_right (by omega : 1 < 2)).1 (Nat.lt_of_le_of_lt h2 h)
    omega
theorem blen_half {x : Nat} (hx : x ≠ 0) : blen x = 1 + blen (x / 2) := by
  by_cases h1 : x / 2 = 0
  · have : x = 1 := by omega
    subst this
    rfl
  · obtain ⟨b1, b2, b3⟩ := blen_bounds h1
    have e1 : 2 ^ (1 + blen (x / 2)) = 2 * 2 ^ blen (x / 2) := by rw [Nat.pow_add]
    have e2 : 2 ^ (1 + blen (x / 2) - 1) = 2 * 2 ^ (blen (x / 2) - 1) := by
      rw [show 1 + blen (x / 2) - 1 = 1 + (blen (x / 2) - 1) from by omega, Nat.pow_add]
    exact blen_unique (by omega) (by rw [e2]; omega) (by rw [e1]; omega)
theorem blen_high {hi lo k : Nat} (hlo : lo < 2 ^ k) (hh : hi ≠ 0) : blen (2 ^ k * hi + lo) = k + blen hi := by
  obtain ⟨b1, b2, b3⟩ := blen_bounds hh
  refine blen_unique (by omega) ?_ ?_
  · rw [show k + blen hi - 1 = k + (blen hi - 1) from by omega, Nat.pow_add]
    have := Nat.mul_le_mul_left (2 ^ k) b2
    omega
  · rw [Nat.pow_add]
    have : 2 ^ k * (hi + 1) ≤ 2 ^ k * 2 ^ blen hi := Nat.mul_le_mul_left _ b3
    rw [Nat.mul_add] at this
    omega
theorem bitLen_blen (x : Nat) (h : x < 18446744073709551616) : Lib.bitLen x = blen x := by
  by_cases hx : x = 0
  · subst hx; rfl
  · obtain ⟨b1, b2, b3⟩ := Lib.bitLenAux_bounds 64 x h hx
    exact (blen_unique b1 b2 b3).symm
def val : List Nat → Nat
  | [] => 0
  | d :: r => d + 65536 * val r
theorem val_append : ∀ (a b : List Nat), val (a ++ b) = val a + 65536 ^ a.length * val b
  | [], b => by simp [val]
  | d :: a, b => by
    rw [List.cons_append, val, val_append a b, val, List.length_cons, Nat.pow_succ, Nat.mul_add]
    rw [show 65536 * (65536 ^ a.length * val b) = 65536 ^ a.length * 65536 * val b from by rw [← Nat.mul_assoc, Nat.mul_comm 65536]]
    omega
theorem val_lt : ∀ (a : List Nat), (∀ d ∈ a, d < 65536) → val a < 65536 ^ a.length
  | [], _ => by simp [val]
  | d :: a, h => by
    have h1 := h d (List.mem_cons_self ..)
    have h2 := val_lt a fun x hx => h x (List.mem_cons_of_mem _ hx)
    rw [val, List.length_cons, Nat.pow_succ]
    have : (val a + 1) * 65536 ≤ 65536 ^ a.length * 65536 := Nat.mul_le_mul_right _ h2
    omega
theorem pow_base (i : Nat) : 65536 ^ i = 2 ^ (16 * i) := by rw [Nat.pow_mul]
theorem val_take_succ {D : List Nat} {i : Nat} (h : i < D.length) : val (D.take (i + 1)) = 65536 ^ i * D[i] + val (D.take i) := by
  rw [List.take_succ_eq_append_getElem h, val_append, List.length_take, Nat.min_eq_left (by omega)]
  simp [val]
  omega
theorem blen_take {D : List Nat} (hd : ∀ d ∈ D, d < 65536) {i : Nat} (h : i < D.length) (hz : D[i] ≠ 0) : blen (val (D.take (i + 1))) = 16 * i + blen D[i] := by
  rw [val_take_succ h, pow_base]
  refine blen_high ?_ hz
  have := val_lt (D.take i) fun d hx => hd d (List.mem_of_mem_take hx)
  rw [List.length_take, Nat.min_eq_left (by omega), pow_base] at this
  exact this
theorem val_take_zero {D : List Nat} {i : Nat} (h : i < D.length) (hz : D[i] = 0) : val (D.take (i + 1)) = val (D.take i) := by
  rw [val_take_succ h, hz]
  omega
def u8 (x : Nat) : UInt8 := UInt8.ofNat x
theorem u8_toNat {x : Nat} (h : x < 256) : (u8 x).toNat = x := by unfold u8; rw [UInt8.toNat_ofNat']; omega
def encP (m : Nat) : List UInt8 := if _h : m = 0 then [] else encP (m / 128) ++ [u8 (128 + m % 128)]
  termination_by m
  decreasing_by omega
theorem encP_zero : encP 0 = [] := by rw [encP]; rfl
theorem encP_pos {m : Nat} (h : m ≠ 0) : encP m = encP (m / 128) ++ [u8 (128 + m % 128)] := by
  conv => lhs; rw [encP]
  rw [dif_neg h]
def enc (n : Nat) : List UInt8 := encP (n / 128) ++ [u8 (n % 128)]
def sizeN (n : Nat) : Nat := max 1 ((blen n + 6) / 7)
theorem blen_128 {m : Nat} (h : m / 128 ≠ 0) : blen m = 7 + blen (m / 128) := by
  have := blen_high (hi := m / 128) (lo := m % 128) (k := 7) (by omega) h
  rwa [show 2 ^ 7 * (m / 128) + m % 128 = m from by omega] at this
theorem encP_length : ∀ m : Nat, (encP m).length = (blen m + 6) / 7 := by
  intro m
  induction m using Nat.strongRecOn with
  | ind m ih =>
    by_cases h : m = 0
    · subst h; rw [encP_zero, blen_zero]; rfl
    · rw [encP_pos h, List.length_append, ih (m / 128) (by omega)]
      by_cases h2 : m / 128 = 0
      · have h3 := blen_le (x := m) (k := 7) (by omega)
        have h4 := (blen_bounds h).1
        rw [h2, blen_zero]
        simp
        omega
      · rw [blen_128 h2]
        simp
        omega
theorem enc_length (n : Nat) : (enc n).length = sizeN n := by
  unfold enc sizeN
  rw [List.length_append, encP_length, List.length_singleton]
  by_cases h2 : n / 128 = 0
  · have h3 := blen_le (x := n) (k := 7) (by omega)
    rw [h2, blen_zero]
    omega
  · rw [blen_128 h2]
    omega
theorem size_le {n : Nat} (h : n < 2 ^ 64) : sizeN n ≤ 10 := by
  have := blen_le h
  unfold sizeN
  omega
theorem size_pos (n : Nat) : 1 ≤ sizeN n := by unfold sizeN; omega
end Go.Proofs.YtmbiiemlepfoaaaGreatDoor
namespace Go.Proofs.YtmbiiemlepfoaaaGreatDoor
open Go.RowKit
structure OB (w : World) (q : Option Addr) (d : Nat) (l : List UInt8) : Prop where
  cap : l.length ≤ d
  nil : q = none → d = 0
  big : d ≤ maxLen
  row : 0 < l.length → ∃ b o cs, q = some ⟨b, o, none⟩ ∧ w.heap[b]? = some (.cells cs 5) ∧ ∀ i x, l[i]? = some x → cs[o + i]? = some (bv x)
theorem row_ltR {w : World} {b : Nat} {o : Obj} (h : w.heap[b]? = some o) : b < w.heap.size := by
  rcases Nat.lt_or_ge b w.heap.size with h1 | h1
  · exact h1
  · rw [Array.getElem?_eq_none h1] at h; cases h
theorem OB.isB {w : World} {q : Option Addr} {d : Nat} {l : List UInt8} (h : OB w q d l) : IsB w q d l :=
  ⟨h.cap, h.nil, h.big, fun hl => by
    obtain ⟨b, o, cs, hq, hb, hc⟩ := h.row hl
    exact ⟨b, o, hq, row_ltR hb, fun i x hx => by rw [cell_of_row w b (o + i) cs _ (0, 0) hb]; exact hc i x hx⟩⟩
theorem OB.of_own {w : World} {base : Nat} {q : Option Addr} {d : Nat} {l : List UInt8} (h : w.ownsRow base 5 1 (.slice q l.length d) l.length (l.map bv)) : OB w q d l := by
  rcases h.2 with ⟨hv, hn⟩ | ⟨g, cap, cur, hv, hg, hh, hnc, hcm, hcs, ht⟩
  · injection hv with h1 h2 h3
    subst h1; subst h3
    obtain rfl : l = [] := List.eq_nil_of_length_eq_zero hn
    exact ⟨Nat.le_refl _, fun _ => rfl, Nat.zero_le _, fun h => absurd h (by simp)⟩
  · injection hv with h1 h2 h3
    subst h1; subst h3
    refine ⟨hnc, fun h => by simp at h, hcm, fun _ => ⟨g, 0, cur, rfl, hh, fun i x hx => ?_⟩⟩
    have := h.cells (g := g) rfl i (bv x) (by simp [hx])
    rw [Addr.add_lit, cell_of_row w g (0 + i) cur _ (0, 0) hh] at this
    exact this
theorem OB.below {w w' : World} {q : Option Addr} {d : Nat} {l : List UInt8} (h : OB w q d l) (hw : Below w.heap.size w w') : OB w' q d l :=
  ⟨h.cap, h.nil, h.big, fun hl => by
    obtain ⟨b, o, cs', hq, hb, hc⟩ := h.row hl
    exact ⟨b, o, cs', hq, (hw.block b (row_ltR hb)).trans hb, hc⟩⟩
theorem grown_below {a b : World} {g : Option Nat} (h : Below a.heap.size a b) : a.grownBy b g := ⟨h.os, h.tape, h.output, h.size, fun i hi _ => h.block i hi⟩
end Go.Proofs.YtmbiiemlepfoaaaGreatDoor
namespace Go.Proofs.YtmbiiemlepfoaaaGreatDoor
open Go.RowKit
set_option linter.unusedVariables false
inductive T where
  | nil : T
  | node (l : T) (k v : List UInt8) (r : T) : T
def T.size : T → Nat
  | .nil => 0
  | .node l _ _ r => l.size + 1 + r.size
def T.list : T → List (List UInt8 × List UInt8)
  | .nil => []
  | .node l k v r => l.list ++ (k, v) :: r.list
theorem T.list_length : ∀ t : T, t.list.length = t.size
  | .nil => rfl
  | .node l k v r => by
    simp only [T.list, T.size, List.length_append, List.length_cons, T.list_length l, T.list_length r]
    omega
structure IsD (w : World) (D : Nat → Prop) (p : Option Addr) (c : Nat) (l : List UInt8) : Prop where
  b : IsB w p c l
  d : ∀ a, p = some a → 0 < l.length → D a.block
theorem IsB.lt {w : World} {p : Option Addr} {c : Nat} {l : List UInt8} (h : IsB w p c l) {a : Addr} (hp : p = some a) (hl : 0 < l.length) : a.block < w.heap.size := by
  obtain ⟨b, o, h1, h2, _⟩ := h.cells hl
  rw [hp] at h1
  cases h1
  exact h2
theorem IsD.keep {w w' : World} {D : Nat → Prop} {p : Option Addr} {c : Nat} {l : List UInt8} (h : IsD w D p c l) (hz : w.heap.size ≤ w'.heap.size) (hk : ∀ k, k < w.heap.size → D k → w'.heap[k]? = w.heap[k]?) : IsD w' D p c l := by
  refine ⟨⟨h.b.cap, h.b.nil, h.b.big, fun hl => ?_⟩, h.d⟩
  obtain ⟨b, o, hp, hb, hc⟩ := h.b.cells hl
  refine ⟨b, o, hp, Nat.lt_of_lt_of_le hb hz, fun i x hx => ?_⟩
  rw [← hc i x hx]
  unfold World.cell?
  rw [hk b hb (h.d _ hp hl)]
theorem IsD.mono {w : World} {D D' : Nat → Prop} {p : Option Addr} {c : Nat} {l : List UInt8} (h : IsD w D p c l) (hd : ∀ k, k < w.heap.size → D k → D' k) : IsD w D' p c l :=
  ⟨h.b, fun a hp hl => hd _ (h.b.lt hp hl) (h.d a hp hl)⟩
theorem below_heap {w w' : World} (hb : Below w.heap.size w w') (D : Nat → Prop) : ∀ k, k < w.heap.size → D k → w'.heap[k]? = w.heap[k]? := fun k hk _ => hb.block k hk
theorem IsD.below {w w' : World} {D : Nat → Prop} {p : Option Addr} {c : Nat} {l : List UInt8} (h : IsD w D p c l) (hb : Below w.heap.size w w') : IsD w' D p c l := h.keep hb.size (below_heap hb D)
abbrev treeRow (kp : Option Addr) (kc : Nat) (k : List UInt8) (vp : Option Addr) (vc : Nat) (v : List UInt8) (lp rp : Option Addr) (n : Nat) : Obj :=
  .cells #[.slice kp k.length kc, .slice vp v.length vc, .pointer lp, .pointer rp, .int .i64 (n : Int)] 143
def TreeAt (w : World) (D : Nat → Prop) : Option Addr → T → Prop
  | p, .nil => p = none
  | p, .node l k v r => ∃ b kp kc vp vc lp rp, p = some ⟨b, 0, none⟩ ∧ D b ∧ w.heap[b]? = some (treeRow kp kc k vp vc v lp rp (l.size + 1 + r.size)) ∧
      IsD w D kp kc k ∧ IsD w D vp vc v ∧ TreeAt w D lp l ∧ TreeAt w D rp r
theorem row_ltT {w : World} {b : Nat} {o : Obj} (h : w.heap[b]? = some o) : b < w.heap.size := (Array.getElem?_eq_some_iff.1 h).1
theorem TreeAt.keep {w w' : World} {D : Nat → Prop} (hz : w.heap.size ≤ w'.heap.size) (hk : ∀ k, k < w.heap.size → D k → w'.heap[k]? = w.heap[k]?) : ∀ {t : T} {p : Option Addr}, TreeAt w D p t → TreeAt w' D p t
  | .nil, _, h => h
  | .node l k v r, _, h => by
    obtain ⟨b, kp, kc, vp, vc, lp, rp, hp, hd, hr, h1, h2, h3, h4⟩ := h
    exact ⟨b, kp, kc, vp, vc, lp, rp, hp, hd, (hk b (row_ltT hr) hd).trans hr, h1.keep hz hk, h2.keep hz hk, TreeAt.keep hz hk h3, TreeAt.keep hz hk h4⟩
theorem TreeAt.mono {w : World} {D D' : Nat → Prop} (hd : ∀ k, k < w.heap.size → D k → D' k) : ∀ {t : T} {p : Option Addr}, TreeAt w D p t → TreeAt w D' p t
  | .nil, _, h => h
  | .node l k v r, _, h => by
    obtain ⟨b, kp, kc, vp, vc, lp, rp, hp, hb, hr, h1, h2, h3, h4⟩ := h
    exact ⟨b, kp, kc, vp, vc, lp, rp, hp, hd b (row_ltT hr) hb, hr, h1.mono hd, h2.mono hd, TreeAt.mono hd h3, TreeAt.mono hd h4⟩
theorem TreeAt.below {w w' : World} {D : Nat → Prop} {p : Option Addr} {t : T} (h : TreeAt w D p t) (hb : Below w.heap.size w w') : TreeAt w' D p t := h.keep hb.size (below_heap hb D)
theorem TreeAt.nil {w : World} {D : Nat → Prop} : TreeAt w D none .nil := rfl
theorem treeSize (w : World) {D : Nat → Prop} {p : Option Addr} {t : T} (h : TreeAt w D p t) :
    Calls Tryz.prog 64 #[.pointer p] w fun e w' => e = .returned (.int .i64 (t.size : Int)) ∧ w = w' := by
  cases t with
  | nil =>
    obtain rfl : p = none := h
    go_enter Tryz.func64, Tryz.ntmps64
    go_wp2
    go_ret
    exact ⟨rfl, rfl⟩
  | node l k v r =>
    obtain ⟨b, kp, kc, vp, vc, lp, rp, rfl, _, hr, _⟩ := h
    have c4 : w.cell? ⟨b, 4, none⟩ = some (.int .i64 ((l.size + 1 + r.size : Nat) : Int)) := cell_of_row w b 4 _ _ (0, 0) hr
    clear hr
    go_enter Tryz.func64, Tryz.ntmps64
    go_wp2
    go_ret
    exact ⟨rfl, rfl⟩
theorem treeLeft (w : World) {D : Nat → Prop} {p : Option Addr} {l r : T} {k v : List UInt8} (h : TreeAt w D p (.node l k v r)) :
    Calls Tryz.prog 221 #[.pointer p] w fun e w' => ∃ lp, e = .returned (.pointer lp) ∧ TreeAt w D lp l ∧ w = w' := by
  obtain ⟨b, kp, kc, vp, vc, lp, rp, rfl, _, hr, _, _, hl, _⟩ := h
  have c4 : w.cell? ⟨b, 2, none⟩ = some (.pointer lp) := cell_of_row w b 2 _ _ (0, 0) hr
  have HL := Lib.hid hl
  clear hr hl
  go_enter Tryz.func221, Tryz.ntmps221
  go_wp2
  go_ret
  exact ⟨_, rfl, HL.out, rfl⟩
theorem treeRight (w : World) {D : Nat → Prop} {p : Option Addr} {l r : T} {k v : List UInt8} (h : TreeAt w D p (.node l k v r)) :
    Calls Tryz.prog 222 #[.pointer p] w fun e w' => ∃ rp, e = .returned (.pointer rp) ∧ TreeAt w D rp r ∧ w = w' := by
  obtain ⟨b, kp, kc, vp, vc, lp, rp, rfl, _, hr, _, _, _, hl⟩ := h
  have c4 : w.cell? ⟨b, 3, none⟩ = some (.pointer rp) := cell_of_row w b 3 _ _ (0, 0) hr
  have HL := Lib.hid hl
  clear hr hl
  go_enter Tryz.func222, Tryz.ntmps222
  go_wp2
  go_ret
  exact ⟨_, rfl, HL.out, rfl⟩
theorem clone_new (w w0 : World) (D : Nat → Prop) (hD : ∀ k, w0.heap.size ≤ k → D k) (h0 : w0.heap.size ≤ w.heap.size) {p : Option Addr} {c : Nat} {l : List UInt8} (h : IsB w p c l) (hl : l.length ≤ 140737488355328) :
    Calls Tryz.prog 80 #[.slice p l.length c] w fun e w' => ∃ q d, e = .returned (.slice q l.length d) ∧ IsD w' D q d l ∧ Below w.heap.size w w' := by
  refine (clone w h hl).mono ?_
  rintro e w' ⟨v, rfl, hc⟩
  obtain ⟨q, d, rfl⟩ := own_slice hc.own
  exact ⟨q, d, rfl, ⟨IsB.own hc.own, fun a hp _ => hD _ (Nat.le_trans h0 (hc.own.lt _ (by subst hp; rfl)).1)⟩, hc.below⟩
abbrev pairV (kp : Option Addr) (kc : Nat) (k : List UInt8) (vp : Option Addr) (vc : Nat) (v : List UInt8) : Value := .agg #[.slice kp k.length kc, .slice vp v.length vc]
theorem isD_set {w : World} {D : Nat → Prop} {q : Option Addr} {d : Nat} {l : List UInt8} (h : IsD w D q d l) {b : Nat} (hb : ¬ D b) (o : Nat) (x : Value) : IsD (w.setCell ⟨b, o, none⟩ x) D q d l :=
  h.keep (by simp [World.setCell]) fun k _ hk => Below.heap_setCell w _ _ _ (fun e => hb (by have e : k = b := e; rwa [← e]))
theorem own_fin {w W2 w1 w2 : World} {D : Nat → Prop} (hD : ∀ k, w.heap.size ≤ k → D k) (h0 : Below w.heap.size w W2) (hs : W2.heap.size = w.heap.size + 2) {q q' : Option Addr} {d d' : Nat} {k v : List UInt8} (x y : Value)
    (hk : IsD w1 (fun j => W2.heap.size ≤ j) q d k) (h1 : Below W2.heap.size W2 w1) (hv : IsD w2 (fun j => W2.heap.size ≤ j) q' d' v) (h2 : Below w1.heap.size w1 w2) :
    IsD ((w2.setCell ⟨w.heap.size + 1, 0, none⟩ x).setCell ⟨w.heap.size + 1, 1, none⟩ y) D q d k ∧ IsD ((w2.setCell ⟨w.heap.size + 1, 0, none⟩ x).setCell ⟨w.heap.size + 1, 1, none⟩ y) D q' d' v ∧
      Below w.heap.size w ((w2.setCell ⟨w.heap.size + 1, 0, none⟩ x).setCell ⟨w.heap.size + 1, 1, none⟩ y) := by
  have hn : ¬ W2.heap.size ≤ w.heap.size + 1 := by omega
  refine ⟨((isD_set (isD_set (hk.below h2) hn _ _) hn _ _)).mono fun j _ hj => hD _ (by omega), ((isD_set (isD_set hv hn _ _) hn _ _)).mono fun j _ hj => hD _ (by omega), ?_⟩
  have hb := (h0.trans (h1.mono h0.size)).trans (h2.mono (Nat.le_trans h0.size h1.size))
  exact (hb.setCell (p := ⟨w.heap.size + 1, 0, none⟩) (Nat.le_succ _) x).setCell (p := ⟨w.heap.size + 1, 1, none⟩) (Nat.le_succ _) y
theorem results_cell1 {fn : Func} {p : Tmp} {ty : TypeId} (h : fn.results = #[.cell p ty]) (tmps : Array Value) (P : Program) (w : World) :
    (results fn tmps).run P w = ((asAddr (tmps.getD p undef)).run P w).andThen fun a w₁ => (loadVar ty a).run P w₁ := by
  simp only [results, h]
  simp [Sem.run_bind, Result.andThen]
set_option maxHeartbeats 1000000 in
set_option maxRecDepth 100000 in
theorem treeOwn (w : World) (D : Nat → Prop) (hD : ∀ k, w.heap.size ≤ k → D k) {kp vp : Option Addr} {kc vc : Nat} {k v : List UInt8} (hk : IsB w kp kc k) (hv : IsB w vp vc v) (hkl : k.length ≤ 140737488355328) (hvl : v.length ≤ 140737488355328) :
    Calls Tryz.prog 63 #[pairV kp kc k vp vc v] w fun e w' => ∃ kp' kc' vp' vc', e = .returned (pairV kp' kc' k vp' vc' v) ∧ IsD w' D kp' kc' k ∧ IsD w' D vp' vc' v ∧ Below w.heap.size w w' := by
  obtain ⟨W2, hW2⟩ : ∃ x, x = (w.alloc (.cells #[.slice kp k.length kc, .slice vp v.length vc] 61)).alloc (.cells #[.slice none 0 0, .slice none 0 0] 61) := ⟨_, rfl⟩
  have hs : W2.heap.size = w.heap.size + 2 := by rw [hW2]; simp
  have hB0 : Below w.heap.size w W2 := by rw [hW2]; exact ((Below.refl _ w).alloc (Nat.le_refl _) _).alloc (by simp) _
  have r0 : W2.heap[w.heap.size]? = some (.cells #[.slice kp k.length kc, .slice vp v.length vc] 61) := by
    rw [hW2]; exact heap_alloc2_old _ _ _
  have r1 : W2.heap[w.heap.size + 1]? = some (.cells #[.slice none 0 0, .slice none 0 0] 61) := by
    rw [hW2]; exact heap_alloc2_new _ _ _
  have HC := Lib.hid (show ∀ w', Below W2.heap.size W2 w' → w'.cell? ⟨w.heap.size, 0, none⟩ = some (.slice kp k.length kc) ∧ w'.cell? ⟨w.heap.size, 1, none⟩ = some (.slice vp v.length vc) ∧ w'.frozen? ⟨w.heap.size + 1, 0, none⟩ = false ∧ w'.frozen? ⟨w.heap.size + 1, 1, none⟩ = false ∧ w'.cell? ⟨w.heap.size + 1, 0, none⟩ = some (.slice none 0 0) ∧ w'.cell? ⟨w.heap.size + 1, 1, none⟩ = some (.slice none 0 0) from fun w' hb => by
    have r0' := (hb.block w.heap.size (by omega)).trans r0
    have r1' := (hb.block (w.heap.size + 1) (by omega)).trans r1
    exact ⟨cell_of_row w' _ 0 _ _ (0, 0) r0', cell_of_row w' _ 1 _ _ (0, 0) r0', frozen_of_row w' _ 0 _ _ r1', frozen_of_row w' _ 1 _ _ r1', cell_of_row w' _ 0 _ _ (0, 0) r1', cell_of_row w' _ 1 _ _ (0, 0) r1'⟩)
  have CK := Lib.hid (show ∀ w', Below W2.heap.size W2 w' → Calls Tryz.prog 80 #[.slice kp k.length kc] w' _ from fun w' hb => clone_new w' W2 (fun j => W2.heap.size ≤ j) (fun _ h => h) hb.size (hk.below (hB0.trans (hb.mono (by omega)))) hkl)
  have CV := Lib.hid (show ∀ w', Below W2.heap.size W2 w' → Calls Tryz.prog 80 #[.slice vp v.length vc] w' _ from fun w' hb => clone_new w' W2 (fun j => W2.heap.size ≤ j) (fun _ h => h) hb.size (hv.below (hB0.trans (hb.mono (by omega)))) hvl)
  have HF := Lib.hid (fun (w1 w2 : World) (q q' : Option Addr) (d d' : Nat) (x y : Value) => own_fin (D := D) (k := k) (v := v) (q := q) (q' := q') (d := d) (d' := d') (w1 := w1) (w2 := w2) hD hB0 hs x y)
  clear hk hv hkl hvl hD r0 r1 hs hB0
  have hB := Below.refl W2.heap.size W2
  have hB' := hB.drew
  obtain ⟨c0, c1, f0, f1, n0, n1⟩ := HC.out _ hB
  go_enter Tryz.func63, Tryz.ntmps63
  go_wp2_with fail
  rw [← hW2]
  clear hW2
  go_region_with (go_at_call 80; first | (((with_reducible refine (CK.out _ hB').mono ?_)); rintro e w1 ⟨q1, d1, rfl, hI1, hb1⟩; have hB1 := hB'.trans hb1; obtain ⟨c01, c11, f01, f11, n01, n11⟩ := HC.out _ hB1) | (((with_reducible refine (CV.out _ hB1).mono ?_)); rintro e w2 ⟨q2, d2, rfl, hI2, hb2⟩; obtain ⟨c02, c12, f02, f12, n02, n12⟩ := HC.out _ (hB1.trans (hb2.mono hB1.size))))
  all_goals
    go_wp2
    refine bodyPost_ret (v := pairV q1 d1 k q2 d2 v) ?_ rfl ?_
    · rw [results_cell1 rfl]
      simp [go_sem, asAddr, Result.andThen, n02, n12]
    exact ⟨_, _, _, _, rfl, HF.out _ _ _ _ _ _ _ _ hI1 hB1 hI2 hb2⟩
theorem node_fin {w : World} {D : Nat → Prop} (hD : ∀ k, w.heap.size ≤ k → D k) {lp rp kp vp : Option Addr} {kc vc : Nat} {l r : T} {k v : List UInt8} (hl : TreeAt w D lp l) (hr : TreeAt w D rp r) (hk : IsD w D kp kc k) (hv : IsD w D vp vc v)
    (w1 : World) (h1 : Below w.heap.size w w1) (n : Int) (hn : n = ((l.size + 1 + r.size : Nat) : Int)) (b : Nat) (hb : b = w1.heap.size) :
    (∃ p, Ending.returned (.pointer (some ⟨b, 0, none⟩)) = .returned (.pointer p) ∧ TreeAt (w1.alloc (.cells #[.slice kp k.length kc, .slice vp v.length vc, .pointer lp, .pointer rp, .int .i64 n] 143)) D p (.node l k v r) ∧
      Below w.heap.size w (w1.alloc (.cells #[.slice kp k.length kc, .slice vp v.length vc, .pointer lp, .pointer rp, .int .i64 n] 143))) := by
  subst hn; subst hb
  have h2 := h1.alloc h1.size (.cells #[.slice kp k.length kc, .slice vp v.length vc, .pointer lp, .pointer rp, .int .i64 ((l.size + 1 + r.size : Nat) : Int)] 143)
  exact ⟨_, rfl, ⟨_, kp, kc, vp, vc, lp, rp, rfl, hD _ h1.size, heap_alloc_new _ _, hk.below h2, hv.below h2, hl.below h2, hr.below h2⟩, h2⟩
set_option maxHeartbeats 1000000 in
set_option maxRecDepth 100000 in
theorem treeNode (w : World) (D : Nat → Prop) (hD : ∀ k, w.heap.size ≤ k → D k) {lp rp kp vp : Option Addr} {kc vc : Nat} {l r : T} {k v : List UInt8} (hl : TreeAt w D lp l) (hr : TreeAt w D rp r) (hk : IsD w D kp kc k) (hv : IsD w D vp vc v)
    (hn : l.size + 1 + r.size < 1152921504606846976) :
    Calls Tryz.prog 115 #[.pointer lp, pairV kp kc k vp vc v, .pointer rp] w fun e w' => ∃ p, e = .returned (.pointer p) ∧ TreeAt w' D p (.node l k v r) ∧ Below w.heap.size w w' := by
  have HF := Lib.hid (node_fin hD hl hr hk hv)
  have CL := Lib.hid (show ∀ w', Below w.heap.size w w' → Calls Tryz.prog 64 #[.pointer lp] w' _ from fun w' hb => treeSize w' (hl.below hb))
  have CR := Lib.hid (show ∀ w', Below w.heap.size w w' → Calls Tryz.prog 64 #[.pointer rp] w' _ from fun w' hb => treeSize w' (hr.below hb))
  have hB1 := ((Below.refl _ w).alloc (Nat.le_refl _) (.cells #[.slice kp k.length kc, .slice vp v.length vc] 61)).drew
  have hw1 : IntKind.i64.wrap ((l.size : Int) + 1) = (l.size : Int) + 1 := IntWalk.i64_in _ (by omega)
  have hw2 : IntKind.i64.wrap ((l.size : Int) + 1 + (r.size : Int)) = (l.size : Int) + 1 + (r.size : Int) := IntWalk.i64_in _ (by omega)
  clear hl hr hk hv hD
  go_enter Tryz.func115, Tryz.ntmps115
  go_wp2_with fail
  go_region_with (go_at_call 64; first | (((with_reducible refine (CL.out _ hB1).mono ?_)); rintro e w1 ⟨rfl, rfl⟩) | (((with_reducible refine (CR.out _ hB1).mono ?_)); rintro e w1 ⟨rfl, rfl⟩))
  all_goals
    go_wp2
    go_ret
    exact HF.out _ hB1 _ (by push_cast; omega) _ (by simp)
set_option maxHeartbeats 1000000 in
set_option maxRecDepth 100000 in
theorem treeRoot (w : World) (D : Nat → Prop) (hD : ∀ k, w.heap.size ≤ k → D k) {D0 : Nat → Prop} {p : Option Addr} {l r : T} {k v : List UInt8} (h : TreeAt w D0 p (.node l k v r)) (hkl : k.length ≤ 140737488355328) (hvl : v.length ≤ 140737488355328) :
    Calls Tryz.prog 219 #[.pointer p] w fun e w' => ∃ kp' kc' vp' vc', e = .returned (pairV kp' kc' k vp' vc' v) ∧ IsD w' D kp' kc' k ∧ IsD w' D vp' vc' v ∧ Below w.heap.size w w' := by
  obtain ⟨b, kp, kc, vp, vc, lp, rp, rfl, _, hr, h1, h2, _, _⟩ := h
  have hB := (Below.refl _ w).alloc (Nat.le_refl _) (.cells #[.slice none 0 0, .slice none 0 0] 61)
  have CO := Lib.hid (treeOwn (w.alloc (.cells #[.slice none 0 0, .slice none 0 0] 61)) (fun j => w.heap.size + 1 ≤ j) (fun _ h => by simpa using h) (h1.b.below hB) (h2.b.below hB) hkl hvl)
  have c0 : w.cell? ⟨b, 0, none⟩ = some (.slice kp k.length kc) := cell_of_row w b 0 _ _ (0, 0) hr
  have c1 : w.cell? ⟨b, 1, none⟩ = some (.slice vp v.length vc) := cell_of_row w b 1 _ _ (0, 0) hr
  have hbl := row_ltT hr
  have HD := Lib.hid hD
  clear hr h1 h2 hD
  go_enter Tryz.func219, Tryz.ntmps219
  go_wp2_with (go_at_call 63; ((with_reducible refine CO.out.mono ?_)); rintro e w1 ⟨q1, d1, q2, d2, rfl, hI1, hI2, hb1⟩; have r1 := (hb1.block w.heap.size (by simp)).trans (heap_alloc_new w _); have f0 : w1.frozen? ⟨w.heap.size, 0, none⟩ = false := frozen_of_row w1 _ 0 _ _ r1; have f1 : w1.frozen? ⟨w.heap.size, 1, none⟩ = false := frozen_of_row w1 _ 1 _ _ r1; have c10 : w1.cell? ⟨w.heap.size, 0, none⟩ = some (.slice none 0 0) := cell_of_row w1 _ 0 _ _ (0, 0) r1; have c11 : w1.cell? ⟨w.heap.size, 1, none⟩ = some (.slice none 0 0) := cell_of_row w1 _ 1 _ _ (0, 0) r1; have HB1 := Lib.hid hb1; clear hb1 r1)
  refine bodyPost_ret (v := pairV q1 d1 k q2 d2 v) ?_ rfl ?_
  · rw [results_cell1 rfl]
    simp [go_sem, asAddr, Result.andThen, c10, c11]
  have hn : ¬ w.heap.size + 1 ≤ w.heap.size := by omega
  refine ⟨_, _, _, _, rfl, (isD_set (isD_set hI1 hn _ _) hn _ _).mono fun j _ hj => HD.out _ (by omega), (isD_set (isD_set hI2 hn _ _) hn _ _).mono fun j _ hj => HD.out _ (by omega), ?_⟩
  exact ((((Below.refl _ w).alloc (Nat.le_refl _) _).trans (HB1.out.mono (by simp))).setCell (p := ⟨w.heap.size, 0, none⟩) (Nat.le_refl _) _).setCell (p := ⟨w.heap.size, 1, none⟩) (Nat.le_refl _) _
def T.Small (t : T) : Prop := ∀ x ∈ t.list, x.1.length ≤ 140737488355328 ∧ x.2.length ≤ 140737488355328
theorem T.Small.left {l r : T} {k v : List UInt8} (h : (T.node l k v r).Small) : l.Small := fun x hx => h x (by simp [T.list, hx])
theorem T.Small.right {l r : T} {k v : List UInt8} (h : (T.node l k v r).Small) : r.Small := fun x hx => h x (by simp [T.list, hx])
theorem T.Small.here {l r : T} {k v : List UInt8} (h : (T.node l k v r).Small) : k.length ≤ 140737488355328 ∧ v.length ≤ 140737488355328 := h (k, v) (by simp [T.list])
theorem T.at_left {l r : T} {k v : List UInt8} {i : Nat} (h : i < l.size) : (T.node l k v r).list[i]? = l.list[i]? := by
  rw [T.list, List.getElem?_append_left (by rw [T.list_length]; exact h)]
theorem T.at_right {l r : T} {k v : List UInt8} {i : Nat} (h : l.size < i) : (T.node l k v r).list[i]? = r.list[i - l.size - 1]? := by
  rw [T.list, List.getElem?_append_right (by rw [T.list_length]; omega), T.list_length, show i - l.size = (i - l.size - 1) + 1 from by omega, List.getElem?_cons_succ]
  rfl
theorem T.at_here {l r : T} {k v : List UInt8} : (T.node l k v r).list[l.size]? = some (k, v) := by
  rw [T.list, List.getElem?_append_right (by rw [T.list_length]; omega), T.list_length, Nat.sub_self]
  rfl
set_option maxHeartbeats 1000000 in
set_option maxRecDepth 100000 in
theorem rankAt (w : World) (D : Nat → Prop) (hD : ∀ k, w.heap.size ≤ k → D k) {D0 : Nat → Prop} {p : Option Addr} {t : T} (h : TreeAt w D0 p t) (hsm : t.Small) (hsz : t.size < 1152921504606846976) (i : Nat) {k v : List UInt8} (hi : t.list[i]? = some (k, v)) :
    Calls Tryz.prog 246 #[.pointer p, .int .i64 (i : Int)] w fun e w' => ∃ q1 d1 q2 d2, e = .returned (.tuple #[pairV q1 d1 k q2 d2 v, .bool true]) ∧ IsD w' D q1 d1 k ∧ IsD w' D q2 d2 v ∧ Below w.heap.size w w' := by
  have hil : i < t.size := by rw [← T.list_length]; exact (List.getElem?_eq_some_iff.1 hi).1
  obtain ⟨W2, hW2⟩ : ∃ x, x = w.alloc (.cells #[.slice none 0 0, .slice none 0 0] 61) := ⟨_, rfl⟩
  have hs : W2.heap.size = w.heap.size + 1 := by rw [hW2]; simp
  have hB : Below w.heap.size w W2 := by rw [hW2]; exact (Below.refl _ w).alloc (Nat.le_refl _) _
  have r0 : W2.heap[w.heap.size]? = some (.cells #[.slice none 0 0, .slice none 0 0] 61) := by rw [hW2]; exact heap_alloc_new _ _
  have ht2 := h.below hB
  have CS := Lib.hid (treeSize W2 ht2)
  have hd2 : ∀ k, W2.heap.size ≤ k → D k := fun k hk => hD k (by omega)
  have HD := Lib.hid hd2
  have HD1 := Lib.hid hD
  have HB := Lib.hid hB
  have HT := Lib.hid ht2
  have HI := Lib.hid hi
  have HSM := Lib.hid hsm
  have n0 : ¬ (i : Int) < 0 := by omega
  have n1 : ¬ (t.size : Int) ≤ (i : Int) := by omega
  have n1d : decide (t.size ≤ i) = false := by simp; omega
  have R0 := Lib.hid r0
  have HS := Lib.hid hs
  clear h hD hi hsm hd2 ht2 hB r0 hs
  go_enter Tryz.func246, Tryz.ntmps246
  go_wp2_with fail
  rw [← hW2]
  clear hW2
  go_wp2_with (go_at_call 64; ((with_reducible refine CS.out.mono ?_)); rintro e w1 ⟨rfl, rfl⟩)
  go_loopg [0, 1] (t.size) (fun n v0 v1 wr => ∃ (t' : T) (p' : Option Addr) (i' : Nat), v0 = .pointer p' ∧ v1 = .int .i64 (i' : Int) ∧ wr = W2 ∧ TreeAt W2 D0 p' t' ∧ t'.Small ∧ t'.list[i']? = some (k, v) ∧ t'.size ≤ n ∧ n < 1152921504606846976)
  case atStart => exact ⟨t, p, i, rfl, rfl, rfl, HT.out, HSM.out, HI.out, Nat.le_refl _, hsz⟩
  case round =>
    obtain ⟨t', p', i', rfl, rfl, rfl, ht, hsm, hi, hn, hn2⟩ := hrel
    have hil' : i' < t'.size := by rw [← T.list_length]; exact (List.getElem?_eq_some_iff.1 hi).1
    cases t' with
    | nil => exact absurd hil' (Nat.not_lt_zero _)
    | node l k' v' r =>
      have CL := Lib.hid (treeLeft wr ht)
      have CR := Lib.hid (treeRight wr ht)
      have CRT := Lib.hid (treeRoot wr (fun j => wr.heap.size ≤ j) (fun _ h => h) ht hsm.here.1 hsm.here.2)
      have CZ := Lib.hid (show ∀ lp, TreeAt wr D0 lp l → Calls Tryz.prog 64 #[.pointer lp] wr _ from fun lp h => treeSize wr h)
      have hsl := Lib.hid hsm.left
      have hsr := Lib.hid hsm.right
      have hszl : l.size + 1 + r.size ≤ gk := hn
      have hil2 : i' < l.size + 1 + r.size := hil'
      have HI' := Lib.hid hi
      clear ht hsm hi hn hil'
      rcases Nat.lt_trichotomy i' l.size with hlt | heq | hgt
      · have g1 : (i' : Int) < (l.size : Int) := by omega
        go_wp2_with first | (go_at_call 221; ((with_reducible refine CL.out.mono ?_)); rintro e w1 ⟨lp, rfl, htl, rfl⟩; have HTL := Lib.hid htl; clear htl) | (go_at_call 64; ((with_reducible refine (CZ.out _ HTL.out).mono ?_)); rintro e w1 ⟨rfl, rfl⟩)
        go_roundg l.size
        case rel => exact ⟨l, _, i', rfl, rfl, rfl, by assumption, hsl.out, by have := HI'.out; rwa [T.at_left hlt] at this, Nat.le_refl _, by omega⟩
        case measure => omega
      · subst heq
        have g1 : ¬ (l.size : Int) < (l.size : Int) := by omega
        have e := HI'.out
        rw [T.at_here] at e
        obtain ⟨rfl, rfl⟩ : k' = k ∧ v' = v := by injection e with e; injection e with e1 e2; exact ⟨e1, e2⟩
        clear e
        go_wp2_with first | (go_at_call 221; ((with_reducible refine CL.out.mono ?_)); rintro e w1 ⟨lp, rfl, htl, rfl⟩; have HTL := Lib.hid htl; clear htl) | (go_at_call 64; ((with_reducible refine (CZ.out _ HTL.out).mono ?_)); rintro e w1 ⟨rfl, rfl⟩) | (go_at_call 219; ((with_reducible refine CRT.out.mono ?_)); rintro e w1 ⟨q1, d1, q2, d2, rfl, hI1, hI2, hb1⟩; have r1 := (hb1.block w.heap.size (by have := HS.out; omega)).trans R0.out; have f0 : w1.frozen? ⟨w.heap.size, 0, none⟩ = false := frozen_of_row w1 _ 0 _ _ r1; have f1 : w1.frozen? ⟨w.heap.size, 1, none⟩ = false := frozen_of_row w1 _ 1 _ _ r1; have c10 : w1.cell? ⟨w.heap.size, 0, none⟩ = some (.slice none 0 0) := cell_of_row w1 _ 0 _ _ (0, 0) r1; have c11 : w1.cell? ⟨w.heap.size, 1, none⟩ = some (.slice none 0 0) := cell_of_row w1 _ 1 _ _ (0, 0) r1; have HB1 := Lib.hid hb1; clear hb1 r1)
        refine bodyPost_ret (v := .tuple #[pairV q1 d1 k' q2 d2 v', .bool true]) ?_ rfl ?_
        · rw [results_cell_tmp rfl]
          simp [go_sem, asAddr, Result.andThen, c10, c11]
        have hn : ¬ wr.heap.size ≤ w.heap.size := by have := HS.out; omega
        have hw : w.heap.size ≤ wr.heap.size := by have := HS.out; omega
        refine ⟨_, _, _, _, rfl, (isD_set (isD_set hI1 hn _ _) hn _ _).mono fun j _ hj => HD.out _ hj, (isD_set (isD_set hI2 hn _ _) hn _ _).mono fun j _ hj => HD.out _ hj, ?_⟩
        exact (((HB.out.trans (HB1.out.mono hw)).setCell (p := ⟨w.heap.size, 0, none⟩) (Nat.le_refl _) _).setCell (p := ⟨w.heap.size, 1, none⟩) (Nat.le_refl _) _)
      · have g1 : ¬ (i' : Int) < (l.size : Int) := by omega
        have g2 : (l.size : Int) < (i' : Int) := by omega
        have n1 : IntKind.i64.wrap ((i' : Int) - (l.size : Int)) = (i' : Int) - (l.size : Int) := IntWalk.i64_in _ (by omega)
        have n2 : IntKind.i64.wrap ((i' : Int) - (l.size : Int) - 1) = ((i' - l.size - 1 : Nat) : Int) := by rw [IntWalk.i64_in _ (by omega)]; omega
        go_wp2_with first | (go_at_call 221; ((with_reducible refine CL.out.mono ?_)); rintro e w1 ⟨lp, rfl, htl, rfl⟩; have HTL := Lib.hid htl; clear htl) | (go_at_call 64; ((with_reducible refine (CZ.out _ HTL.out).mono ?_)); rintro e w1 ⟨rfl, rfl⟩) | (go_at_call 222; ((with_reducible refine CR.out.mono ?_)); rintro e w1 ⟨rp, rfl, htr, rfl⟩; have HTR := Lib.hid htr; clear htr)
        go_roundg r.size
        case rel => exact ⟨r, _, i' - l.size - 1, rfl, rfl, rfl, HTR.out, hsr.out, by have := HI'.out; rwa [T.at_right hgt] at this, Nat.le_refl _, by omega⟩
        case measure => omega
end Go.Proofs.YtmbiiemlepfoaaaGreatDoor
namespace Go.Proofs.YtmbiiemlepfoaaaGreatDoor
open Go.Lib (compareBytes)
theorem cmp_self : ∀ a : List UInt8, compareBytes a a = 0
  | [] => rfl
  | x :: a => by unfold compareBytes; rw [if_neg (UInt8.lt_irrefl x), if_neg (UInt8.lt_irrefl x)]; exact cmp_self a
theorem cmp_swap : ∀ a b : List UInt8, compareBytes a b = -compareBytes b a
  | [], [] => rfl
  | [], _ :: _ => rfl
  | _ :: _, [] => rfl
  | x :: a, y :: b => by
    unfold compareBytes
    by_cases h1 : x < y
    · have h2 : ¬ y < x := UInt8.lt_asymm h1
      simp [h1, h2]
    · by_cases h2 : y < x
      · simp [h1, h2]
      · simp only [h1, h2, if_false]
        exact cmp_swap a b
theorem cmp_range : ∀ a b : List UInt8, compareBytes a b = -1 ∨ compareBytes a b = 0 ∨ compareBytes a b = 1
  | [], [] => .inr (.inl rfl)
  | [], _ :: _ => .inl rfl
  | _ :: _, [] => .inr (.inr rfl)
  | x :: a, y :: b => by
    unfold compareBytes
    by_cases h1 : x < y
    · simp [h1]
    · by_cases h2 : y < x
      · simp [h1, h2]
      · simp only [h1, h2, if_false]
        exact cmp_range a b
theorem cmp_zero : ∀ {a b : List UInt8}, compareBytes a b = 0 → a = b
  | [], [], _ => rfl
  | [], _ :: _, h => by simp [compareBytes] at h
  | _ :: _, [], h => by simp [compareBytes] at h
  | x :: a, y :: b, h => by
    unfold compareBytes at h
    by_cases h1 : x < y
    · simp [h1] at h
    · by_cases h2 : y < x
      · simp [h1, h2] at h
      · simp only [h1, h2, if_false] at h
        rw [cmp_zero h, UInt8.le_antisymm (UInt8.not_lt.1 h2) (UInt8.not_lt.1 h1)]
theorem cmp_trans : ∀ {a b c : List UInt8}, compareBytes a b ≤ 0 → compareBytes b c ≤ 0 → compareBytes a c ≤ 0
  | [], _, [], _, _ => by simp [compareBytes]
  | [], _, _ :: _, _, _ => by simp [compareBytes]
  | _ :: _, [], _, h, _ => by simp [compareBytes] at h
  | _ :: _, _ :: _, [], _, h => by simp [compareBytes] at h
  | x :: a, y :: b, z :: c, h, k => by
    unfold compareBytes at h k ⊢
    have t1 : x < y → y < z → x < z := UInt8.lt_trans
    by_cases h1 : x < y
    · by_cases k1 : y < z
      · simp [t1 h1 k1]
      · by_cases k2 : z < y
        · simp [k1, k2] at k
        · have : y = z := UInt8.le_antisymm (UInt8.not_lt.1 k2) (UInt8.not_lt.1 k1)
          subst this; simp [h1]
    · by_cases h2 : y < x
      · simp [h1, h2] at h
      · have e : x = y := UInt8.le_antisymm (UInt8.not_lt.1 h2) (UInt8.not_lt.1 h1)
        subst e
        simp only [h1, if_false] at h
        by_cases k1 : x < z
        · simp [k1]
        · by_cases k2 : z < x
          · simp [k1, k2] at k
          · simp only [k1, k2, if_false] at k ⊢
            exact cmp_trans h k
theorem cmp_drop : ∀ (i : Nat) {a b : List UInt8}, a.take i = b.take i → compareBytes a b = compareBytes (a.drop i) (b.drop i)
  | 0, _, _, _ => rfl
  | _ + 1, [], [], _ => rfl
  | _ + 1, [], _ :: _, h => by simp at h
  | _ + 1, _ :: _, [], h => by simp at h
  | i + 1, x :: a, y :: b, h => by
    simp only [List.take_succ_cons, List.cons.injEq] at h
    obtain ⟨rfl, h⟩ := h
    rw [List.drop_succ_cons, List.drop_succ_cons, ← cmp_drop i h]
    conv => lhs; unfold compareBytes
    rw [if_neg (UInt8.lt_irrefl x), if_neg (UInt8.lt_irrefl x)]
def lessB (a b : List UInt8) : Bool := compareBytes a b == -1
theorem less_at {i : Nat} {a b : List UInt8} (h : a.take i = b.take i) (ha : i < a.length) (hb : i < b.length) (hne : a[i] ≠ b[i]) : lessB a b = decide (a[i] < b[i]) := by
  unfold lessB
  rw [cmp_drop i h, List.drop_eq_getElem_cons ha, List.drop_eq_getElem_cons hb]
  unfold compareBytes
  by_cases h1 : a[i] < b[i]
  · simp [h1]
  · have h2 : b[i] < a[i] := UInt8.lt_of_le_of_ne (UInt8.not_lt.1 h1) (Ne.symm hne)
    simp [h1, h2]
theorem less_end {i : Nat} {a b : List UInt8} (h : a.take i = b.take i) (he : i = a.length ∨ i = b.length) (ha : i ≤ a.length) (hb : i ≤ b.length) : lessB a b = decide (a.length < b.length) := by
  unfold lessB
  rw [cmp_drop i h]
  rcases he with rfl | rfl
  · rw [List.drop_length]
    rcases Nat.lt_or_ge a.length b.length with hlt | hge
    · rw [List.drop_eq_getElem_cons hlt]; simp [compareBytes, hlt]
    · rw [List.drop_eq_nil_of_le hge]; simp [compareBytes]; omega
  · rw [List.drop_length]
    rcases Nat.lt_or_ge b.length a.length with hlt | hge
    · rw [List.drop_eq_getElem_cons hlt]; simp [compareBytes]; omega
    · rw [List.drop_eq_nil_of_le hge]; simp [compareBytes]; omega
theorem take_more {i : Nat} {a b : List UInt8} (h : a.take i = b.take i) (ha : i < a.length) (hb : i < b.length) (he : a[i] = b[i]) : a.take (i + 1) = b.take (i + 1) := by
  rw [List.take_succ_eq_append_getElem ha, List.take_succ_eq_append_getElem hb, h, he]
end Go.Proofs.YtmbiiemlepfoaaaGreatDoor
namespace Go.Proofs.YtmbiiemlepfoaaaGreatDoor
open Go.RowKit
set_option maxHeartbeats 400000 in
set_option maxRecDepth 100000 in
theorem bytesCompare (w : World) {p p' : Option Addr} {c c' : Nat} {l l' : List UInt8} (h : IsB w p c l) (h' : IsB w p' c' l') :
    Calls Tryz.prog 180 #[.slice p l.length c, .slice p' l'.length c'] w fun e w' => e = .returned (.int .i64 (Lib.compareBytes l l')) ∧ w = w' := by
  have hr := run_compare (P := Tryz.prog) h h'
  have H := Lib.hid hr
  clear hr
  go_enter Tryz.func180, Tryz.ntmps180
  go_wp2
  rw [run_callFunc_extern Tryz.func249 (by kernel_rfl) (by kernel_rfl) (by kernel_rfl) (e := Extern.BytealgCompare.compare) (by kernel_rfl), H.out]
  simp only [Result.andThen]
  rw [Oper.upon_value]
  go_wp2
  go_ret
  exact ⟨rfl, rfl⟩
set_option maxHeartbeats 400000 in
theorem keysCompare (w : World) {p p' : Option Addr} {c c' : Nat} {l l' : List UInt8} (h : IsB w p c l) (h' : IsB w p' c' l') :
    Calls Tryz.prog 106 #[.slice p l.length c, .slice p' l'.length c'] w fun e w' => e = .returned (.int .i64 (Lib.compareBytes l l')) ∧ w = w' := by
  go_enter Tryz.func106, Tryz.ntmps106
  go_wp2_with (go_at_call 180; refine (bytesCompare _ h h').mono ?_; rintro e w' ⟨rfl, rfl⟩)
  go_ret
  exact ⟨rfl, rfl⟩
end Go.Proofs.YtmbiiemlepfoaaaGreatDoor
