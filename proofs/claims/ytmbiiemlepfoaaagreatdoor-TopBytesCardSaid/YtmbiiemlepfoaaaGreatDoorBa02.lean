/- append of bytes onto a row of the call's own, whatever slice the source is. A region that draws its order, inside a round of a range over a function: the walk of a held region serves there too. How many bits a number has: plain numbers, no program. Numbers as bytes: plain lists, no program. A reader's state in memory; the walks of NewReader, fail, Err, Left, End. Trees as the heap has them; the walks of Size, Left, Right, own, node, Root. -/
import Derived.Test.YtmbiiemlepfoaaaGreatDoorBa01
import Derived.Laws.AppendOwnNone
import Derived.RangeFuncCalls
import Derived.OrdersIn
import Derived.Deep.RegionHeld
import Derived.Lib.BitFns
import Derived.Lib.ItoaNum
import Derived.Lib.Bytealg

/-! append of bytes onto a row of the call's own, whatever slice the source is. -/
namespace Go.Proofs.YtmbiiemlepfoaaaGreatDoor
open Go.RowKit

theorem wp_append_bytes (w : World) {ops : Array Oper} {rest : List Oper} {o : Oper} {a : Act} {Q : Exit → Act → World → Prop} (hgd : o.guard = none) (s x : Operand)
    (ho : o.op = .call { callee := .builtin .append, args := #[s, x], argTypes := #[22, 22] })
    (base : Nat) (v : Value) (n : Nat) (xs : List Value) (hs : a.eval s = v) (hown : w.ownsRow base 5 1 v n xs) (hbase : base ≤ w.heap.size)
    {p : Option Addr} {c : Nat} {l : List UInt8} (hB : IsB w p c l) (m : Nat) (hm : m = l.length) (hx : a.eval x = .slice p m c)
    (hbytes : n + l.length ≤ 140737488355328)
    (h : ∀ v' w', w'.ownsRow base 5 1 v' (n + m) (xs ++ l.map bv) → Below base w w' → wpList Tryz.prog ops Q rest (a.put o.dst v') w') : wpList Tryz.prog ops Q (o :: rest) a w := by
  obtain ⟨i0, hi, hz0, hz1, hz2⟩ := info_parts info5
  subst hm
  rcases p with _ | ad
  · have hc := hB.nil rfl
    have hl : l = [] := List.eq_nil_of_length_eq_zero (by have := hB.cap; omega)
    subst hl; subst hc
    exact wpList_append_own_none hgd s x 22 ho base 5 i0 1 Tryz.underlying22 hi v n xs hs hown hx (h v w (by simpa using hown) (Below.refl _ _))
  · refine wpList_append_own w hgd s x 22 ho base 5 i0 (.int .u8 0) 1 1 Tryz.underlying22 hi hz0 hz1 hz2 rfl (by decide) v n xs hs hown ad l.length c (l.map bv) hx (by simp) ?_ ?_ (by unfold maxLen; omega) (by omega) hbase ?_
    · intro j u hj
      rw [List.getElem?_map, Option.map_eq_some_iff] at hj
      obtain ⟨y, hy, rfl⟩ := hj
      obtain ⟨b, o', hp, _, hc⟩ := hB.cells (by have := (List.getElem?_eq_some_iff.1 hy).1; omega)
      obtain rfl := Option.some.inj hp
      rw [Addr.add_lit]
      exact hc j y hy
    · intro u hu; obtain ⟨y, _, rfl⟩ := List.mem_map.1 hu; rfl
    · intro v' w' ho' hg _
      exact h v' w' ho' ((Below.refl _ w).grown hg hbase (fun k hk => (hown.lt k hk).1))
end Go.Proofs.YtmbiiemlepfoaaaGreatDoor

/-! A region that draws its order, inside a round of a range over a function: the walk of a held region serves there too. -/
namespace Go.Proofs.YtmbiiemlepfoaaaGreatDoor
open Go.RowKit
set_option linter.unusedVariables false

theorem rows_round {P : Program} {row : String} {args : Array Value} {w : World} {R : Value → World → Prop} (l n : Nat) (h : Rows P row args w R) : RowsIn (Fence.wide.inRound l) n P row args w R :=
  fun c cs _ => let ⟨v, w', r, s⟩ := h c cs; ⟨v, w', r, stepsIn_wide.2 s⟩
theorem oper_round {P : Program} {o : Oper} {a : Act} {w : World} {K : Act → World → Prop} {Q : Exit → Act → World → Prop} (l n : Nat) (hd : ∀ c, o.op ≠ .defer c)
    (h : o.wp P a w K Q) : o.wpIn (Fence.wide.inRound l) n P a w K Q := by
  unfold Oper.wp at h
  unfold Oper.wpIn
  refine ⟨fun _ _ => trivial, ?_⟩
  rw [Oper.semAt_eq _ _ _ hd]
  generalize (execOp a.eval o).run P w = r at *
  cases r with
  | ok x w' =>
    cases x <;> simp only [Oper.upon, Oper.uponIn] at h ⊢ <;>
      first
        | exact h
        | exact ⟨fun hh => by simp [Fence.wide] at hh, CallsIn.inRound l ((callsIn_wide (n := n - 1)).2 (Calls.mono h (fun e w'' he => by cases e <;> exact he)))⟩
        | exact ⟨fun hh => by simp [Fence.wide] at hh, rows_round l _ h⟩
        | exact h.elim
  | halt x w' => cases x <;> simp only [Oper.upon, Oper.uponIn] at h ⊢ <;> exact h
theorem op_round {P : Program} {ops : Array Oper} {i : Nat} {a : Act} {w : World} {K : Act → World → Prop} {Q : Exit → Act → World → Prop} (l n : Nat) (hd : ∀ o ∈ ops, ∀ c, o.op ≠ .defer c) (hL : ∀ a w, ¬ Q .outgrown a w)
    (h : wpOp P ops Q i K a w) : wpOpIn (Fence.wide.inRound l) n P ops Q i K a w := by
  unfold wpOp at h
  unfold wpOpIn
  cases ho : ops[i]? with
  | none => simpa [ho] using h
  | some o =>
    simp only [ho] at h ⊢
    split
    · rename_i hw
      rw [if_pos hw] at h
      rcases h with h | ⟨_, a0, w0, h⟩
      · exact oper_round l n (hd o (Array.mem_of_getElem? ho)) h
      · exact absurd h (hL a0 w0)
    · rename_i hw
      rw [if_neg hw] at h
      exact ⟨fun _ _ => trivial, h⟩
theorem any_round {P : Program} {md : Region.Mode} {ops : Array Oper} {Q : Exit → Act → World → Prop} (l n : Nat) (hd : ∀ o ∈ ops, ∀ c, o.op ≠ .defer c) (hL : ∀ a w, ¬ Q .outgrown a w) :
    ∀ (fuel : Nat) (listed : Array Bool) (a : Act) (w : World), wpAny P md ops Q fuel listed a w → wpAnyIn (Fence.wide.inRound l) n P md ops Q fuel listed a w
  | 0, _, _, _, h => h
  | fuel + 1, _, _, _, h => ⟨h.1, fun i hi => wpOpIn_mono (fun a' w' h' => any_round l n hd hL fuel _ a' w' h') (op_round l n hd hL (h.2 i hi))⟩
def noDefer (ops : Array Oper) : Bool := ops.all fun o => match o.op with | .defer _ => false | _ => true
theorem noDefer_all {ops : Array Oper} (h : noDefer ops = true) : ∀ o ∈ ops, ∀ c, o.op ≠ .defer c := fun o ho c e => by
  have := (Array.all_eq_true_iff_forall_mem.1 h) o ho
  rw [e] at this
  cases this
/-- THE BEGINNING of a held region inside a round: go on by 'wpAnyH_take', 'wpAnyH_ready', 'wpAnyH_done'. -/
theorem wpIn_round_held {P : Program} {id : Nat} {ops : Array Oper} {Q : Exit → Act → World → Prop} {a : Act} {w : World} {S : World → Prop} {l n : Nat} (hd : noDefer ops = true) (hL : ∀ a w, ¬ Q .outgrown a w) (hm : P.follows .mixedOrders = true)
    (hS : S w.drew) (h : S w.drew → wpAnyH P .any ops Q S ops.size (Array.replicate ops.size false) a w.drew) : (Code.region id ops true).wpIn (Fence.wide.inRound l) n P Q a w :=
  wpIn_region_any hm (any_round l n (noDefer_all hd) hL _ _ _ _ (wpAny_of_held _ _ _ _ (h hS)))
/-- The same in the wide fence, outside a round. -/
theorem wpIn_wide_held {P : Program} {id : Nat} {ops : Array Oper} {Q : Exit → Act → World → Prop} {a : Act} {w : World} {S : World → Prop} {n : Nat} (hm : P.follows .mixedOrders = true)
    (hS : S w.drew) (h : S w.drew → wpAnyH P .any ops Q S ops.size (Array.replicate ops.size false) a w.drew) : (Code.region id ops true).wpIn Fence.wide n P Q a w :=
  wpIn_wide.2 (wp_region_held_drew hm hS h)

/-- One operation, by a law on rows of operations. -/
def thenK (K : Act → World → Prop) (Q : Exit → Act → World → Prop) : Exit → Act → World → Prop
  | .normal => K
  | .outgrown => fun _ _ => False
  | e => Q e
theorem oper_of_list {P : Program} {ops : Array Oper} {o : Oper} {a : Act} {w : World} {K : Act → World → Prop} {Q : Exit → Act → World → Prop} (hgd : o.guard = none)
    (h : wpList P ops (thenK K Q) [o] a w) : o.wp P a w K Q := by
  have hw : Region.wanted o (yielded ops a.tmps) = true := by simp [Region.wanted, hgd]
  unfold wpList at h
  rw [if_pos hw] at h
  have h' : o.wp P a w K (thenK K Q) := h.resolve_right (fun ⟨_, a0, w0, hh⟩ => hh)
  clear h
  unfold Oper.wp at h' ⊢
  generalize (execOp a.eval o).run P w = r at *
  cases r with
  | ok x w' =>
    cases x <;> simp only [Oper.upon] at h' ⊢ <;>
      first
        | exact h'
        | exact Calls.mono h' (fun e w'' he => by cases e <;> first | exact he | (obtain ⟨a0, w0, hh⟩ := he; exact hh.elim))
  | halt x w' => cases x <;> simp only [Oper.upon] at h' ⊢ <;> exact h'
theorem Code.wp_cut {P : Program} {c : Code} {Q Q' : Exit → Act → World → Prop} {a : Act} {w : World} (h : c.wp P Q a w) (hq : ∀ e a w, Q e a w → Q' e a w) : c.wp P Q' a w :=
  (wpIn_wide (n := 0)).1 (wpIn_mono ((wpIn_wide (n := 0)).2 h) hq)

/-! ### A held region whose last operation (one that waits for all others) may write what the others read -/
section
variable {P : Program} {md : Region.Mode} {ops : Array Oper} {Q : Exit → Act → World → Prop} {S : World → Prop}

def lastOp (md : Region.Mode) (ops : Array Oper) (j : Nat) : Bool :=
  match ops[j]? with
  | none => false
  | some o => (List.range ops.size).all fun i => i == j || o.after.any fun e => Region.binds md e && e.on == i
theorem lastOp_waits {j i : Nat} {o : Oper} (h : lastOp md ops j = true) (ho : ops[j]? = some o) (hi : i < ops.size) (hne : j ≠ i) : ∃ e ∈ o.after, Region.binds md e = true ∧ e.on = i := by
  unfold lastOp at h
  rw [ho] at h
  have := List.all_eq_true.1 h i (List.mem_range.2 hi)
  simp only [Bool.or_eq_true, beq_iff_eq, Array.any_eq_true', Bool.and_eq_true] at this
  rcases this with h | h
  · exact absurd h.symm hne
  · obtain ⟨e, he, hb, hon⟩ := h
    exact ⟨e, he, hb, hon⟩

/-- Whatever order is picked; behind each operation but a last one S holds. -/
def wpAnyL (P : Program) (md : Region.Mode) (ops : Array Oper) (Q : Exit → Act → World → Prop) (S : World → Prop) : Nat → Array Bool → Act → World → Prop
  | 0, listed, a, w => Region.ready md ops listed = [] ∧ Q .normal a w
  | fuel + 1, listed, a, w => (Region.ready md ops listed = [] → Q .normal a w) ∧
    ∀ i ∈ Region.ready md ops listed, wpOp P ops Q i (fun a' w' => (S w' ∨ lastOp md ops i = true) ∧ wpAnyL P md ops Q S fuel (listed.setIfInBounds i true) a' w') a w
theorem wpAny_of_L : ∀ (fuel : Nat) (listed : Array Bool) (a : Act) (w : World), wpAnyL P md ops Q S fuel listed a w → wpAny P md ops Q fuel listed a w
  | 0, _, _, _, h => h
  | fuel + 1, _, _, _, h => ⟨h.1, fun i hi => wpOp_mono (fun a' w' h' => wpAny_of_L fuel _ a' w' h'.2) (h.2 i hi)⟩
theorem wpAnyL_take0 {i : Nat} {oi : Oper} {v : Value} (hi : ops[i]? = some oi) (hsel : ∀ (j : Nat) (o : Oper) cs b, ops[j]? = some o → o.op ≠ .select cs b)
    (hQ : ∀ c a w, Q (.panic c) (a.put oi.dst v) w → Q (.panic c) a w) :
    ∀ (fuel : Nat) (listed : Array Bool) (a : Act) (w : World),
      (∀ j oj, ops[j]? = some oj → j ≠ i → listed.getD j true = false → (∀ e ∈ oj.after, Region.binds md e = true → e.on ≠ i) → oi.apart ops oj = true) →
      i ∈ Region.ready md ops listed → YieldsIf P ops S oi v a → S w →
      wpAnyL P md ops Q S fuel (listed.setIfInBounds i true) (a.put oi.dst v) w → wpAnyL P md ops Q S (fuel + 1) listed a w
  | 0, listed, a, w, _, hr, hy, hS, H => by
    refine ⟨fun h => (by rw [h] at hr; cases hr), fun j hj => ?_⟩
    rcases Nat.decEq j i with hji | hji
    · have hm := ready_mono hj hji
      rw [H.1] at hm
      cases hm
    · subst hji
      exact hy.wpOp hi hS ⟨.inl hS, H⟩
  | fuel + 1, listed, a, w, hfree, hr, hy, hS, H => by
    refine ⟨fun h => (by rw [h] at hr; cases hr), fun j hj => ?_⟩
    rcases Nat.decEq j i with hji | hji
    · obtain ⟨hjun, oj, hoj, hall⟩ := mem_ready.1 hj
      have hlt : i < ops.size := (Array.getElem?_eq_some_iff.1 hi).1
      have hwait : ∀ e ∈ oj.after, Region.binds md e = true → e.on ≠ i := by
        intro e he hb heq
        have hin := hall e he hb
        have hout := (mem_ready.1 hr).1
        rw [heq] at hin
        rcases Nat.lt_or_ge i listed.size with hl | hl
        · simp [hl] at hin hout
          rw [hout] at hin
          cases hin
        · simp [Array.getElem?_eq_none hl] at hin
      have hnl : ¬ lastOp md ops j = true := fun hlast => by
        obtain ⟨e, he, hb, hon⟩ := lastOp_waits hlast hoj hlt hji
        exact hwait e he hb hon
      have step := wpOp_putIf hoj (hfree j oj hoj hji hjun hwait) (fun cs b => hsel i oi cs b hi) (fun cs b => hsel j oj cs b hoj) hQ hy (H.2 j (ready_mono hj hji))
      refine wpOp_mono (fun a' w' hh => ?_) step
      obtain ⟨hy', hSl, hrest⟩ := hh
      have hS' : S w' := hSl.resolve_right hnl
      refine ⟨.inl hS', wpAnyL_take0 hi hsel hQ fuel (listed.setIfInBounds j true) a' w' (fun k ok hk hki hun hno => hfree k ok hk hki ?_ hno) (ready_mono hr (Ne.symm hji)) hy' hS' (by rw [Array.setIfInBounds_comm _ _ hji]; exact hrest)⟩
      rcases Nat.decEq j k with hjk | hjk
      · rw [getD_set_ne true hjk] at hun
        exact hun
      · subst hjk
        exact hjun
    · subst hji
      exact hy.wpOp hi hS ⟨.inl hS, H⟩
theorem wpAnyL_take {i : Nat} {oi : Oper} {v : Value} {fuel : Nat} {listed : Array Bool} {a : Act} {w : World} (hi : ops[i]? = some oi)
    (hs : Region.noSelect ops = true) (hf : Region.free md ops listed i = true) (hr : (Region.ready md ops listed).contains i = true)
    (hQ : ∀ c a w, Q (.panic c) (a.put oi.dst v) w → Q (.panic c) a w) (hy : YieldsIf P ops S oi v a) (hS : S w)
    (h : wpAnyL P md ops Q S fuel (listed.setIfInBounds i true) (a.put oi.dst v) w) : wpAnyL P md ops Q S (fuel + 1) listed a w :=
  wpAnyL_take0 hi (Region.noSelect_spec hs) hQ fuel listed a w (Region.free_spec hi hf) (by simpa using hr) hy hS h
theorem wpAnyL_done {listed : Array Bool} {a : Act} {w : World} (hr : Region.ready md ops listed = []) (h : Q .normal a w) : ∀ fuel, wpAnyL P md ops Q S fuel listed a w
  | 0 => ⟨hr, h⟩
  | _ + 1 => ⟨fun _ => h, by rw [hr]; simp⟩
/-- One operation alone may come up. -/
theorem wpAnyL_one {i : Nat} {o : Oper} {fuel : Nat} {listed : Array Bool} {a : Act} {w : World} (ho : ops[i]? = some o) (hr : Region.ready md ops listed = [i])
    (h : ∀ K' : Act → World → Prop, Shut (∀ a w, (S w ∨ lastOp md ops i = true) → wpAnyL P md ops Q S fuel (listed.setIfInBounds i true) a w → K' a w) → if Region.wanted o (yielded ops a.tmps) = true then Oper.wp P o a w K' Q else K' (a.put o.dst undef) w) :
    wpAnyL P md ops Q S (fuel + 1) listed a w :=
  ⟨fun h0 => (by rw [hr] at h0; cases h0), fun j hj => by
    rw [hr] at hj
    obtain rfl := List.mem_singleton.1 hj
    exact wpOp_step ho (fun K' hK => h K' (fun a w hS hW => hK a w ⟨hS, hW⟩))⟩
theorem wp_region_heldL {id : Nat} {a : Act} {w : World} (hm : P.follows .mixedOrders = true) (h : wpAnyL P .any ops Q S ops.size (Array.replicate ops.size false) a w.drew) : (Code.region id ops true).wp P Q a w :=
  wp_region_any hm (wpAny_of_L _ _ _ _ h)
theorem wpIn_round_heldL {id : Nat} {a : Act} {w : World} {l n : Nat} (hd : noDefer ops = true) (hL : ∀ a w, ¬ Q .outgrown a w) (hm : P.follows .mixedOrders = true)
    (h : wpAnyL P .any ops Q S ops.size (Array.replicate ops.size false) a w.drew) : (Code.region id ops true).wpIn (Fence.wide.inRound l) n P Q a w :=
  wpIn_region_any hm (any_round l n (noDefer_all hd) hL _ _ _ _ (wpAny_of_L _ _ _ _ h))
end
end Go.Proofs.YtmbiiemlepfoaaaGreatDoor

/-! How many bits a number has: plain numbers, no program. -/
namespace Go.Proofs.YtmbiiemlepfoaaaGreatDoor

def blen (x : Nat) : Nat := if x = 0 then 0 else x.log2 + 1
theorem blen_zero : blen 0 = 0 := rfl
theorem blen_eq {x k : Nat} (h1 : 2 ^ k ≤ x) (h2 : x < 2 ^ (k + 1)) : blen x = k + 1 := by
  have hx : x ≠ 0 := by have := Nat.two_pow_pos k; omega
  unfold blen
  rw [if_neg hx, (Nat.log2_eq_iff hx).2 ⟨h1, h2⟩]
theorem blen_bounds {x : Nat} (hx : x ≠ 0) : 1 ≤ blen x ∧ 2 ^ (blen x - 1) ≤ x ∧ x < 2 ^ blen x := by
  unfold blen
  rw [if_neg hx]
  exact ⟨by omega, Nat.log2_self_le hx, Nat.lt_log2_self⟩
theorem blen_lt (x : Nat) : x < 2 ^ blen x := by
  by_cases hx : x = 0
  · subst hx; exact Nat.one_pos
  · exact (blen_bounds hx).2.2
theorem blen_unique {x k : Nat} (hk : 1 ≤ k) (h1 : 2 ^ (k - 1) ≤ x) (h2 : x < 2 ^ k) : blen x = k := by
  have := blen_eq (x := x) (k := k - 1) h1 (by rw [Nat.sub_add_cancel hk]; exact h2)
  omega
theorem blen_le {x k : Nat} (h : x < 2 ^ k) : blen x ≤ k := by
  by_cases hx : x = 0
  · subst hx; exact Nat.zero_le _
  · obtain ⟨h1, h2, _⟩ := blen_bounds hx
    have : blen x - 1 < k := (Nat.pow_lt_pow_iff_right (by omega : 1 < 2)).1 (Nat.lt_of_le_of_lt h2 h)
    omega
theorem blen_ge {x k : Nat} (h : 2 ^ k ≤ x) : k + 1 ≤ blen x := by
  have := Nat.lt_of_le_of_lt h (blen_lt x)
  have := (Nat.pow_lt_pow_iff_right (by omega : 1 < 2)).1 this
  omega
theorem blen_mono {x y : Nat} (h : x ≤ y) : blen x ≤ blen y := blen_le (Nat.lt_of_le_of_lt h (blen_lt y))
theorem blen_half {x : Nat} (hx : x ≠ 0) : blen x = 1 + blen (x / 2) := by
  by_cases h1 : x / 2 = 0
  · have : x = 1 := by omega
    subst this
    rfl
  · obtain ⟨b1, b2, b3⟩ := blen_bounds h1
    have e1 : 2 ^ (1 + blen (x / 2)) = 2 * 2 ^ blen (x / 2) := by rw [Nat.pow_add]
    have e2 : 2 ^ (1 + blen (x / 2) - 1) = 2 * 2 ^ (blen (x / 2) - 1) := by
      rw [show 1 + blen (x / 2) - 1 = 1 + (blen (x / 2) - 1) from by omega, Nat.pow_add]
    exact blen_unique (by omega) (by rw [e2]; omega) (by rw [e1]; omega)
/-- Digits: what stands above k bits. -/
theorem blen_high {hi lo k : Nat} (hlo : lo < 2 ^ k) (hh : hi ≠ 0) : blen (2 ^ k * hi + lo) = k + blen hi := by
  obtain ⟨b1, b2, b3⟩ := blen_bounds hh
  refine blen_unique (by omega) ?_ ?_
  · rw [show k + blen hi - 1 = k + (blen hi - 1) from by omega, Nat.pow_add]
    have := Nat.mul_le_mul_left (2 ^ k) b2
    omega
  · rw [Nat.pow_add]
    have : 2 ^ k * (hi + 1) ≤ 2 ^ k * 2 ^ blen hi := Nat.mul_le_mul_left _ b3
    rw [Nat.mul_add] at this
    omega
theorem bitLen_blen (x : Nat) (h : x < 18446744073709551616) : Lib.bitLen x = blen x := by
  by_cases hx : x = 0
  · subst hx; rfl
  · obtain ⟨b1, b2, b3⟩ := Lib.bitLenAux_bounds 64 x h hx
    exact (blen_unique b1 b2 b3).symm

/-- The number that digits to the base 65536 make, the lowest first. -/
def val : List Nat → Nat
  | [] => 0
  | d :: r => d + 65536 * val r
theorem val_append : ∀ (a b : List Nat), val (a ++ b) = val a + 65536 ^ a.length * val b
  | [], b => by simp [val]
  | d :: a, b => by
    rw [List.cons_append, val, val_append a b, val, List.length_cons, Nat.pow_succ, Nat.mul_add]
    rw [show 65536 * (65536 ^ a.length * val b) = 65536 ^ a.length * 65536 * val b from by rw [← Nat.mul_assoc, Nat.mul_comm 65536]]
    omega
theorem val_lt : ∀ (a : List Nat), (∀ d ∈ a, d < 65536) → val a < 65536 ^ a.length
  | [], _ => by simp [val]
  | d :: a, h => by
    have h1 := h d (List.mem_cons_self ..)
    have h2 := val_lt a fun x hx => h x (List.mem_cons_of_mem _ hx)
    rw [val, List.length_cons, Nat.pow_succ]
    have : (val a + 1) * 65536 ≤ 65536 ^ a.length * 65536 := Nat.mul_le_mul_right _ h2
    omega
theorem pow_base (i : Nat) : 65536 ^ i = 2 ^ (16 * i) := by rw [Nat.pow_mul]
theorem val_take_succ {D : List Nat} {i : Nat} (h : i < D.length) : val (D.take (i + 1)) = 65536 ^ i * D[i] + val (D.take i) := by
  rw [List.take_succ_eq_append_getElem h, val_append, List.length_take, Nat.min_eq_left (by omega)]
  simp [val]
  omega
theorem blen_take {D : List Nat} (hd : ∀ d ∈ D, d < 65536) {i : Nat} (h : i < D.length) (hz : D[i] ≠ 0) : blen (val (D.take (i + 1))) = 16 * i + blen D[i] := by
  rw [val_take_succ h, pow_base]
  refine blen_high ?_ hz
  have := val_lt (D.take i) fun d hx => hd d (List.mem_of_mem_take hx)
  rw [List.length_take, Nat.min_eq_left (by omega), pow_base] at this
  exact this
theorem val_take_zero {D : List Nat} {i : Nat} (h : i < D.length) (hz : D[i] = 0) : val (D.take (i + 1)) = val (D.take i) := by
  rw [val_take_succ h, hz]
  omega
end Go.Proofs.YtmbiiemlepfoaaaGreatDoor

/-! Numbers as bytes: plain lists, no program. -/
namespace Go.Proofs.YtmbiiemlepfoaaaGreatDoor

def u8 (x : Nat) : UInt8 := UInt8.ofNat x
theorem u8_toNat {x : Nat} (h : x < 256) : (u8 x).toNat = x := by unfold u8; rw [UInt8.toNat_ofNat']; omega
theorem u8_back (c : UInt8) : u8 c.toNat = c := by unfold u8; simp

/-- The bytes ahead of the last. -/
def encP (m : Nat) : List UInt8 := if _h : m = 0 then [] else encP (m / 128) ++ [u8 (128 + m % 128)]
  termination_by m
  decreasing_by omega
theorem encP_zero : encP 0 = [] := by rw [encP]; rfl
theorem encP_pos {m : Nat} (h : m ≠ 0) : encP m = encP (m / 128) ++ [u8 (128 + m % 128)] := by
  conv => lhs; rw [encP]
  rw [dif_neg h]
/-- A number as it is written. -/
def enc (n : Nat) : List UInt8 := encP (n / 128) ++ [u8 (n % 128)]

/-- What is read: the number, how many bytes it has, the error's number. -/
def decGo : Nat → Nat → List UInt8 → Nat × Nat × Nat
  | _, _, [] => (0, 0, 3)
  | acc, k, c :: r => if 2 ^ 57 ≤ acc then (0, 0, 4) else if c.toNat < 128 then (acc * 128 + c.toNat % 128, k + 1, 0) else decGo (acc * 128 + c.toNat % 128) (k + 1) r
def dec (l : List UInt8) : Nat × Nat × Nat :=
  match l with
  | [] => (0, 0, 3)
  | c :: r => if c.toNat = 128 then (0, 0, 2) else decGo 0 0 (c :: r)

theorem decGo_encP : ∀ (m : Nat) (t : List UInt8), m < 2 ^ 57 → decGo 0 0 (encP m ++ t) = decGo m (encP m).length t := by
  intro m
  induction m using Nat.strongRecOn with
  | ind m ih =>
    intro t hm
    by_cases h : m = 0
    · subst h; rw [encP_zero]; rfl
    · rw [encP_pos h, List.append_assoc, ih (m / 128) (by omega) _ (by omega), List.singleton_append]
      conv => lhs; unfold decGo
      have e : (u8 (128 + m % 128)).toNat = 128 + m % 128 := u8_toNat (by omega)
      rw [if_neg (by omega), if_neg (by rw [e]; omega), List.length_append, e]
      have e2 : m / 128 * 128 + (128 + m % 128) % 128 = m := by omega
      rw [e2]
      rfl
theorem encP_head : ∀ (m : Nat), m ≠ 0 → ∃ d r, encP m = u8 (128 + d) :: r ∧ 0 < d ∧ d < 128 := by
  intro m
  induction m using Nat.strongRecOn with
  | ind m ih =>
    intro h
    rw [encP_pos h]
    by_cases h2 : m / 128 = 0
    · rw [h2, encP_zero]
      exact ⟨m % 128, [], rfl, by omega, by omega⟩
    · obtain ⟨d, r, e, h3, h4⟩ := ih (m / 128) (by omega) h2
      rw [e]
      exact ⟨d, _, rfl, h3, h4⟩
/-- WHAT IS WRITTEN IS READ. -/
theorem dec_enc (n : Nat) (hn : n < 2 ^ 64) (rest : List UInt8) : dec (enc n ++ rest) = (n, (enc n).length, 0) := by
  have hgo : decGo 0 0 (enc n ++ rest) = (n, (enc n).length, 0) := by
    unfold enc
    rw [List.append_assoc, decGo_encP _ _ (by omega), List.singleton_append]
    unfold decGo
    have e : (u8 (n % 128)).toNat = n % 128 := u8_toNat (by omega)
    rw [e, if_neg (by omega), if_pos (by omega), List.length_append]
    have e1 : n / 128 * 128 + n % 128 % 128 = n := by omega
    rw [e1]
    rfl
  have hhead : ∃ c r, enc n ++ rest = c :: r ∧ c.toNat ≠ 128 := by
    unfold enc
    by_cases h : n / 128 = 0
    · rw [h, encP_zero]
      exact ⟨_, _, rfl, by rw [u8_toNat (by omega)]; omega⟩
    · obtain ⟨d, r, e, h1, h2⟩ := encP_head _ h
      rw [e]
      exact ⟨_, _, rfl, by rw [u8_toNat (by omega)]; omega⟩
  obtain ⟨c, r, e, hc⟩ := hhead
  rw [e] at hgo ⊢
  show (if c.toNat = 128 then (0, 0, 2) else decGo 0 0 (c :: r)) = _
  rw [if_neg hc, hgo]

theorem encP_snoc {acc d : Nat} (hd : d < 128) (h : acc ≠ 0 ∨ d ≠ 0) : encP (acc * 128 + d) = encP acc ++ [u8 (128 + d)] := by
  rw [encP_pos (by omega)]
  have e1 : (acc * 128 + d) / 128 = acc := by omega
  have e2 : (acc * 128 + d) % 128 = d := by omega
  rw [e1, e2]
theorem decGo_back : ∀ (l : List UInt8) (acc k : Nat) (n u : Nat), decGo acc k l = (n, u, 0) → (acc ≠ 0 ∨ ∀ c r, l = c :: r → c.toNat ≠ 128) →
    k < u ∧ u - k ≤ l.length ∧ encP acc ++ l.take (u - k) = enc n ∧ n < 2 ^ 64
  | [], _, _, _, _, h, _ => by simp [decGo] at h
  | c :: r, acc, k, n, u, h, hne => by
    unfold decGo at h
    by_cases h1 : 2 ^ 57 ≤ acc
    · rw [if_pos h1] at h; simp at h
    · rw [if_neg h1] at h
      have hc := c.toNat_lt
      by_cases h2 : c.toNat < 128
      · rw [if_pos h2] at h
        simp only [Prod.mk.injEq, and_true] at h
        obtain ⟨rfl, rfl⟩ := h
        refine ⟨by omega, by simp, ?_, by omega⟩
        have e1 : (acc * 128 + c.toNat % 128) / 128 = acc := by omega
        have e2 : (acc * 128 + c.toNat % 128) % 128 = c.toNat := by omega
        unfold enc
        rw [e1, e2, u8_back, show k + 1 - k = 1 from by omega]
        rfl
      · rw [if_neg h2] at h
        have hd : acc ≠ 0 ∨ c.toNat % 128 ≠ 0 := by
          rcases hne with h3 | h3
          · exact .inl h3
          · right
            have := h3 c r rfl
            omega
        obtain ⟨h4, h5, h6, h7⟩ := decGo_back r _ _ _ _ h (.inl (by omega))
        refine ⟨by omega, by simp; omega, ?_, h7⟩
        rw [← h6, encP_snoc (by omega) hd, show u - k = (u - (k + 1)) + 1 from by omega, List.take_succ_cons, List.append_assoc, List.singleton_append]
        congr 2
        rw [show 128 + c.toNat % 128 = c.toNat from by omega, u8_back]
/-- WHAT IS READ IS WRITTEN SO. -/
theorem dec_back {l : List UInt8} {n u : Nat} (h : dec l = (n, u, 0)) : 0 < u ∧ u ≤ l.length ∧ l.take u = enc n ∧ n < 2 ^ 64 := by
  unfold dec at h
  cases l with
  | nil => simp at h
  | cons c r =>
    simp only at h
    by_cases hc : c.toNat = 128
    · rw [if_pos hc] at h; simp at h
    · rw [if_neg hc] at h
      obtain ⟨h1, h2, h3, h4⟩ := decGo_back _ 0 0 n u h (.inr fun c' r' e => by simp only [List.cons.injEq] at e; rw [← e.1]; exact hc)
      rw [encP_zero] at h3
      exact ⟨h1, by simpa using h2, by simpa using h3, h4⟩

/-- How many bytes a number has. -/
def sizeN (n : Nat) : Nat := max 1 ((blen n + 6) / 7)
theorem blen_128 {m : Nat} (h : m / 128 ≠ 0) : blen m = 7 + blen (m / 128) := by
  have := blen_high (hi := m / 128) (lo := m % 128) (k := 7) (by omega) h
  rwa [show 2 ^ 7 * (m / 128) + m % 128 = m from by omega] at this
theorem encP_length : ∀ m : Nat, (encP m).length = (blen m + 6) / 7 := by
  intro m
  induction m using Nat.strongRecOn with
  | ind m ih =>
    by_cases h : m = 0
    · subst h; rw [encP_zero, blen_zero]; rfl
    · rw [encP_pos h, List.length_append, ih (m / 128) (by omega)]
      by_cases h2 : m / 128 = 0
      · have h3 := blen_le (x := m) (k := 7) (by omega)
        have h4 := (blen_bounds h).1
        rw [h2, blen_zero]
        simp
        omega
      · rw [blen_128 h2]
        simp
        omega
theorem enc_length (n : Nat) : (enc n).length = sizeN n := by
  unfold enc sizeN
  rw [List.length_append, encP_length, List.length_singleton]
  by_cases h2 : n / 128 = 0
  · have h3 := blen_le (x := n) (k := 7) (by omega)
    rw [h2, blen_zero]
    omega
  · rw [blen_128 h2]
    omega
theorem size_mono {a b : Nat} (h : a ≤ b) : sizeN a ≤ sizeN b := by
  have := blen_mono h
  unfold sizeN
  omega
theorem size_le {n : Nat} (h : n < 2 ^ 64) : sizeN n ≤ 10 := by
  have := blen_le h
  unfold sizeN
  omega
theorem size_pos (n : Nat) : 1 ≤ sizeN n := by unfold sizeN; omega

/-- The number that bytes make. -/
def dval : Nat → List UInt8 → Nat
  | acc, [] => acc
  | acc, c :: r => dval (acc * 128 + c.toNat % 128) r
theorem dval_append : ∀ (l t : List UInt8) (acc : Nat), dval acc (l ++ t) = dval (dval acc l) t
  | [], _, _ => rfl
  | c :: l, t, acc => by rw [List.cons_append]; exact dval_append l t _
theorem dval_encP : ∀ m : Nat, dval 0 (encP m) = m := by
  intro m
  induction m using Nat.strongRecOn with
  | ind m ih =>
    by_cases h : m = 0
    · subst h; rw [encP_zero]; rfl
    · rw [encP_pos h, dval_append, ih (m / 128) (by omega)]
      simp only [dval]
      rw [u8_toNat (by omega)]
      omega
theorem dval_enc (n : Nat) : dval 0 (enc n) = n := by
  unfold enc
  rw [dval_append, dval_encP]
  simp only [dval]
  rw [u8_toNat (by omega)]
  omega
theorem dval_lt : ∀ (l t : List UInt8) (a b : Nat), a < b → l.length = t.length → dval a l < dval b t
  | [], [], _, _, h, _ => h
  | [], _ :: _, _, _, _, h => by simp at h
  | _ :: _, [], _, _, _, h => by simp at h
  | c :: l, d :: t, a, b, h, hl => by
    simp only [dval]
    exact dval_lt l t _ _ (by omega) (by simpa using hl)
/-- Where more follows is the same in two texts of one size. -/
def flags (l : List UInt8) : List Bool := l.map fun c => decide (c.toNat < 128)
theorem flags_encP : ∀ m : Nat, flags (encP m) = List.replicate (encP m).length false := by
  intro m
  induction m using Nat.strongRecOn with
  | ind m ih =>
    by_cases h : m = 0
    · subst h; rw [encP_zero]; rfl
    · rw [encP_pos h]
      unfold flags at ih ⊢
      rw [List.map_append, ih (m / 128) (by omega), List.length_append]
      simp only [List.map_cons, List.map_nil, List.length_singleton]
      rw [u8_toNat (by omega), ← List.replicate_append_replicate]
      congr 1
      simp
theorem flags_enc (n : Nat) : flags (enc n) = List.replicate (sizeN n - 1) false ++ [true] := by
  have hl := enc_length n
  unfold enc at hl ⊢
  rw [List.length_append, List.length_singleton] at hl
  have hf := flags_encP (n / 128)
  unfold flags at hf ⊢
  rw [List.map_append, hf]
  simp only [List.map_cons, List.map_nil]
  rw [u8_toNat (by omega), show (encP (n / 128)).length = sizeN n - 1 from by omega]
  congr 2
  simp
  omega
theorem less_val : ∀ (l t : List UInt8) (acc : Nat), flags l = flags t → ((Lib.compareBytes l t = -1) ↔ dval acc l < dval acc t)
  | [], [], acc, _ => by simp [Lib.compareBytes]
  | [], _ :: _, _, h => by simp [flags] at h
  | _ :: _, [], _, h => by simp [flags] at h
  | c :: l, d :: t, acc, h => by
    simp only [flags, List.map_cons, List.cons.injEq] at h
    obtain ⟨h1, h2⟩ := h
    have hlen : l.length = t.length := by have := congrArg List.length h2; simpa using this
    have hf : (c.toNat < 128) = (d.toNat < 128) := by simpa using h1
    have hc := c.toNat_lt
    have hd := d.toNat_lt
    simp only [dval]
    unfold Lib.compareBytes
    by_cases h3 : c < d
    · rw [if_pos h3]
      rw [UInt8.lt_iff_toNat_lt] at h3
      have : c.toNat % 128 < d.toNat % 128 := by
        by_cases h4 : c.toNat < 128
        · have : d.toNat < 128 := hf ▸ h4; omega
        · have : ¬ d.toNat < 128 := hf ▸ h4; omega
      exact ⟨fun _ => dval_lt l t _ _ (by omega) hlen, fun _ => rfl⟩
    · rw [if_neg h3]
      by_cases h5 : d < c
      · rw [if_pos h5]
        rw [UInt8.lt_iff_toNat_lt] at h5
        have : d.toNat % 128 < c.toNat % 128 := by
          by_cases h4 : c.toNat < 128
          · have : d.toNat < 128 := hf ▸ h4; omega
          · have : ¬ d.toNat < 128 := hf ▸ h4; omega
        have h6 := dval_lt t l (acc * 128 + d.toNat % 128) (acc * 128 + c.toNat % 128) (by omega) hlen.symm
        exact ⟨fun h => by omega, fun h => by omega⟩
      · rw [if_neg h5]
        have e : c = d := UInt8.le_antisymm (UInt8.not_lt.1 h5) (UInt8.not_lt.1 h3)
        subst e
        exact less_val l t _ h2
/-- OF TWO NUMBERS OF ONE SIZE THE LESS ONE's BYTES ARE LESS. -/
theorem enc_less {a b : Nat} (h : sizeN a = sizeN b) : (Lib.compareBytes (enc a) (enc b) = -1) ↔ a < b := by
  have := less_val (enc a) (enc b) 0 (by rw [flags_enc, flags_enc, h])
  rwa [dval_enc, dval_enc] at this
end Go.Proofs.YtmbiiemlepfoaaaGreatDoor

/-! A reader's state in memory; the walks of NewReader, fail, Err, Left, End. -/
namespace Go.Proofs.YtmbiiemlepfoaaaGreatDoor
open Go.RowKit

/-- Bytes that lie in a row of the call's own, somewhere in it. -/
structure OB (w : World) (q : Option Addr) (d : Nat) (l : List UInt8) : Prop where
  cap : l.length ≤ d
  nil : q = none → d = 0
  big : d ≤ maxLen
  row : 0 < l.length → ∃ b o cs, q = some ⟨b, o, none⟩ ∧ w.heap[b]? = some (.cells cs 5) ∧ ∀ i x, l[i]? = some x → cs[o + i]? = some (bv x)
theorem row_ltR {w : World} {b : Nat} {o : Obj} (h : w.heap[b]? = some o) : b < w.heap.size := by
  rcases Nat.lt_or_ge b w.heap.size with h1 | h1
  · exact h1
  · rw [Array.getElem?_eq_none h1] at h; cases h
theorem OB.isB {w : World} {q : Option Addr} {d : Nat} {l : List UInt8} (h : OB w q d l) : IsB w q d l :=
  ⟨h.cap, h.nil, h.big, fun hl => by
    obtain ⟨b, o, cs, hq, hb, hc⟩ := h.row hl
    exact ⟨b, o, hq, row_ltR hb, fun i x hx => by rw [cell_of_row w b (o + i) cs _ (0, 0) hb]; exact hc i x hx⟩⟩
theorem OB.of_own {w : World} {base : Nat} {q : Option Addr} {d : Nat} {l : List UInt8} (h : w.ownsRow base 5 1 (.slice q l.length d) l.length (l.map bv)) : OB w q d l := by
  rcases h.2 with ⟨hv, hn⟩ | ⟨g, cap, cur, hv, hg, hh, hnc, hcm, hcs, ht⟩
  · injection hv with h1 h2 h3
    subst h1; subst h3
    obtain rfl : l = [] := List.eq_nil_of_length_eq_zero hn
    exact ⟨Nat.le_refl _, fun _ => rfl, Nat.zero_le _, fun h => absurd h (by simp)⟩
  · injection hv with h1 h2 h3
    subst h1; subst h3
    refine ⟨hnc, fun h => by simp at h, hcm, fun _ => ⟨g, 0, cur, rfl, hh, fun i x hx => ?_⟩⟩
    have := h.cells (g := g) rfl i (bv x) (by simp [hx])
    rw [Addr.add_lit, cell_of_row w g (0 + i) cur _ (0, 0) hh] at this
    exact this
theorem OB.nil_ (w : World) : OB w none 0 [] := ⟨Nat.le_refl _, fun _ => rfl, Nat.zero_le _, fun h => absurd h (by simp)⟩
/-- A cut at the front, as the model writes it. -/
theorem OB.drop {w : World} {q : Option Addr} {d : Nat} {l : List UInt8} (h : OB w q d l) (k : Nat) (hk : k ≤ l.length) : OB w (if d = k then q else q.map (·.add k)) (d - k) (l.drop k) := by
  have hc := h.cap
  have hb := h.big
  refine ⟨by rw [List.length_drop]; omega, fun hn => ?_, by omega, fun hl => ?_⟩
  · split at hn
    · have := h.nil hn; omega
    · have : q = none := by cases q <;> simp_all
      have := h.nil this; omega
  · rw [List.length_drop] at hl
    obtain ⟨b, o, cs, rfl, hb2, hcs⟩ := h.row (by omega)
    rw [if_neg (by omega)]
    refine ⟨b, o + k, cs, by simp [Addr.add_lit], hb2, fun i x hx => ?_⟩
    rw [List.getElem?_drop] at hx
    rw [Nat.add_assoc]
    exact hcs _ x hx
theorem OB.grown {w w' : World} {q : Option Addr} {d : Nat} {l : List UInt8} (h : OB w q d l) {g : Nat} {cs : Array Value} (hg : w.heap[g]? = some (.cells cs 289)) (hw : w.grownBy w' (some g)) : OB w' q d l :=
  ⟨h.cap, h.nil, h.big, fun hl => by
    obtain ⟨b, o, cs', hq, hb, hc⟩ := h.row hl
    refine ⟨b, o, cs', hq, ?_, hc⟩
    rw [hw.block b (row_ltR hb) (fun e => by
      injection e with e
      subst e
      rw [hg] at hb
      injection hb with hb
      injection hb with _ ht
      exact absurd ht (by decide)), hb]⟩
theorem OB.below {w w' : World} {q : Option Addr} {d : Nat} {l : List UInt8} (h : OB w q d l) (hw : Below w.heap.size w w') : OB w' q d l :=
  ⟨h.cap, h.nil, h.big, fun hl => by
    obtain ⟨b, o, cs', hq, hb, hc⟩ := h.row hl
    exact ⟨b, o, cs', hq, (hw.block b (row_ltR hb)).trans hb, hc⟩⟩

/-- A READER: its block g; what is left of its bytes; its error's number. -/
def Rd (w : World) (g : Nat) (l : List UInt8) (e : Nat) : Prop :=
  ∃ q d, w.heap[g]? = some (.cells #[.slice q l.length d, .int .i64 (e : Int)] 289) ∧ OB w q d l
theorem Rd.lt {w : World} {g : Nat} {l : List UInt8} {e : Nat} (h : Rd w g l e) : g < w.heap.size := by
  obtain ⟨q, d, h, _⟩ := h; exact row_ltR h
theorem Rd.below {w w' : World} {g : Nat} {l : List UInt8} {e : Nat} (h : Rd w g l e) (hw : Below w.heap.size w w') : Rd w' g l e := by
  obtain ⟨q, d, h1, h2⟩ := h
  exact ⟨q, d, (hw.block g (row_ltR h1)).trans h1, h2.below hw⟩
/-- One reader is read, another stays. -/
theorem Rd.other {w w' : World} {g g' : Nat} {l l' : List UInt8} {e e' : Nat} (h : Rd w g l e) (h' : Rd w g' l' e') (hne : g ≠ g') (hw : w.grownBy w' (some g')) : Rd w' g l e := by
  obtain ⟨q, d, h1, h2⟩ := h
  obtain ⟨_, _, h3, _⟩ := h'
  exact ⟨q, d, (hw.block g (row_ltR h1) (by simpa using hne)).trans h1, h2.grown h3 hw⟩
/-- Bytes of the call's own stay, too. -/
theorem Rd.bytes {w w' : World} {g : Nat} {l l' : List UInt8} {e : Nat} {q : Option Addr} {d : Nat} (h : Rd w g l e) (hq : OB w q d l') (hw : w.grownBy w' (some g)) : OB w' q d l' := by
  obtain ⟨_, _, h3, _⟩ := h
  exact hq.grown h3 hw

/-- What a store into the reader's block leaves. -/
theorem Rd.set_e {w : World} {g : Nat} {l : List UInt8} {e : Nat} (h : Rd w g l e) (e' : Nat) : Rd (w.setCell ⟨g, 1, none⟩ (.int .i64 (e' : Int))) g l e' ∧ w.grownBy (w.setCell ⟨g, 1, none⟩ (.int .i64 (e' : Int))) (some g) := by
  obtain ⟨q, d, h1, h2⟩ := h
  have hg : w.grownBy (w.setCell ⟨g, 1, none⟩ (.int .i64 (e' : Int))) (some g) := ⟨rfl, rfl, rfl, by simp [World.setCell], fun k _ hk => Below.heap_setCell w _ _ k (fun e => hk (by rw [e]))⟩
  refine ⟨⟨q, d, ?_, h2.grown h1 hg⟩, hg⟩
  simp [World.setCell, Array.getElem?_modify, h1]
theorem Rd.set_b {w : World} {g : Nat} {l l' : List UInt8} {e : Nat} (h : Rd w g l e) {q : Option Addr} {d : Nat} (hq : OB w q d l') : Rd (w.setCell ⟨g, 0, none⟩ (.slice q l'.length d)) g l' e ∧ w.grownBy (w.setCell ⟨g, 0, none⟩ (.slice q l'.length d)) (some g) := by
  obtain ⟨q0, d0, h1, h2⟩ := h
  have hg : w.grownBy (w.setCell ⟨g, 0, none⟩ (.slice q l'.length d)) (some g) := ⟨rfl, rfl, rfl, by simp [World.setCell], fun k _ hk => Below.heap_setCell w _ _ k (fun e => hk (by rw [e]))⟩
  refine ⟨⟨q, d, ?_, hq.grown h1 hg⟩, hg⟩
  simp [World.setCell, Array.getElem?_modify, h1]
theorem grown_refl (w : World) (g : Option Nat) : w.grownBy w g := ⟨rfl, rfl, rfl, Nat.le_refl _, fun _ _ _ => rfl⟩
theorem grown_transR {a b c : World} {g : Option Nat} (h : a.grownBy b g) (k : b.grownBy c g) : a.grownBy c g :=
  ⟨k.os.trans h.os, k.tape.trans h.tape, k.output.trans h.output, Nat.le_trans h.size k.size, fun i hi hne => (k.block i (Nat.lt_of_lt_of_le hi h.size) hne).trans (h.block i hi hne)⟩
theorem grown_below {a b : World} {g : Option Nat} (h : Below a.heap.size a b) : a.grownBy b g := ⟨h.os, h.tape, h.output, h.size, fun i hi _ => h.block i hi⟩
theorem below_grown {B : Nat} {a b : World} {g : Nat} (h : a.grownBy b (some g)) (hg : B ≤ g) (hB : B ≤ a.heap.size) : Below B a b :=
  ⟨h.os, h.tape, h.output, h.size, fun k hk => h.block k (by omega) (fun e => by injection e; omega)⟩
end Go.Proofs.YtmbiiemlepfoaaaGreatDoor

/-! Trees as the heap has them; the walks of Size, Left, Right, own, node, Root. -/
namespace Go.Proofs.YtmbiiemlepfoaaaGreatDoor
open Go.RowKit
set_option linter.unusedVariables false

inductive T where
  | nil : T
  | node (l : T) (k v : List UInt8) (r : T) : T
def T.size : T → Nat
  | .nil => 0
  | .node l _ _ r => l.size + 1 + r.size
def T.list : T → List (List UInt8 × List UInt8)
  | .nil => []
  | .node l k v r => l.list ++ (k, v) :: r.list
theorem T.list_length : ∀ t : T, t.list.length = t.size
  | .nil => rfl
  | .node l k v r => by
    simp only [T.list, T.size, List.length_append, List.length_cons, T.list_length l, T.list_length r]
    omega

/-- A slice of bytes whose memory lies in D. -/
structure IsD (w : World) (D : Nat → Prop) (p : Option Addr) (c : Nat) (l : List UInt8) : Prop where
  b : IsB w p c l
  d : ∀ a, p = some a → 0 < l.length → D a.block
theorem IsB.lt {w : World} {p : Option Addr} {c : Nat} {l : List UInt8} (h : IsB w p c l) {a : Addr} (hp : p = some a) (hl : 0 < l.length) : a.block < w.heap.size := by
  obtain ⟨b, o, h1, h2, _⟩ := h.cells hl
  rw [hp] at h1
  cases h1
  exact h2
theorem IsD.keep {w w' : World} {D : Nat → Prop} {p : Option Addr} {c : Nat} {l : List UInt8} (h : IsD w D p c l) (hz : w.heap.size ≤ w'.heap.size) (hk : ∀ k, k < w.heap.size → D k → w'.heap[k]? = w.heap[k]?) : IsD w' D p c l := by
  refine ⟨⟨h.b.cap, h.b.nil, h.b.big, fun hl => ?_⟩, h.d⟩
  obtain ⟨b, o, hp, hb, hc⟩ := h.b.cells hl
  refine ⟨b, o, hp, Nat.lt_of_lt_of_le hb hz, fun i x hx => ?_⟩
  rw [← hc i x hx]
  unfold World.cell?
  rw [hk b hb (h.d _ hp hl)]
theorem IsD.mono {w : World} {D D' : Nat → Prop} {p : Option Addr} {c : Nat} {l : List UInt8} (h : IsD w D p c l) (hd : ∀ k, k < w.heap.size → D k → D' k) : IsD w D' p c l :=
  ⟨h.b, fun a hp hl => hd _ (h.b.lt hp hl) (h.d a hp hl)⟩
theorem below_heap {w w' : World} (hb : Below w.heap.size w w') (D : Nat → Prop) : ∀ k, k < w.heap.size → D k → w'.heap[k]? = w.heap[k]? := fun k hk _ => hb.block k hk
theorem IsD.below {w w' : World} {D : Nat → Prop} {p : Option Addr} {c : Nat} {l : List UInt8} (h : IsD w D p c l) (hb : Below w.heap.size w w') : IsD w' D p c l := h.keep hb.size (below_heap hb D)

abbrev treeRow (kp : Option Addr) (kc : Nat) (k : List UInt8) (vp : Option Addr) (vc : Nat) (v : List UInt8) (lp rp : Option Addr) (n : Nat) : Obj :=
  .cells #[.slice kp k.length kc, .slice vp v.length vc, .pointer lp, .pointer rp, .int .i64 (n : Int)] 143
def TreeAt (w : World) (D : Nat → Prop) : Option Addr → T → Prop
  | p, .nil => p = none
  | p, .node l k v r => ∃ b kp kc vp vc lp rp, p = some ⟨b, 0, none⟩ ∧ D b ∧ w.heap[b]? = some (treeRow kp kc k vp vc v lp rp (l.size + 1 + r.size)) ∧
      IsD w D kp kc k ∧ IsD w D vp vc v ∧ TreeAt w D lp l ∧ TreeAt w D rp r
theorem row_ltT {w : World} {b : Nat} {o : Obj} (h : w.heap[b]? = some o) : b < w.heap.size := (Array.getElem?_eq_some_iff.1 h).1
theorem TreeAt.keep {w w' : World} {D : Nat → Prop} (hz : w.heap.size ≤ w'.heap.size) (hk : ∀ k, k < w.heap.size → D k → w'.heap[k]? = w.heap[k]?) : ∀ {t : T} {p : Option Addr}, TreeAt w D p t → TreeAt w' D p t
  | .nil, _, h => h
  | .node l k v r, _, h => by
    obtain ⟨b, kp, kc, vp, vc, lp, rp, hp, hd, hr, h1, h2, h3, h4⟩ := h
    exact ⟨b, kp, kc, vp, vc, lp, rp, hp, hd, (hk b (row_ltT hr) hd).trans hr, h1.keep hz hk, h2.keep hz hk, TreeAt.keep hz hk h3, TreeAt.keep hz hk h4⟩
theorem TreeAt.mono {w : World} {D D' : Nat → Prop} (hd : ∀ k, k < w.heap.size → D k → D' k) : ∀ {t : T} {p : Option Addr}, TreeAt w D p t → TreeAt w D' p t
  | .nil, _, h => h
  | .node l k v r, _, h => by
    obtain ⟨b, kp, kc, vp, vc, lp, rp, hp, hb, hr, h1, h2, h3, h4⟩ := h
    exact ⟨b, kp, kc, vp, vc, lp, rp, hp, hd b (row_ltT hr) hb, hr, h1.mono hd, h2.mono hd, TreeAt.mono hd h3, TreeAt.mono hd h4⟩
theorem TreeAt.below {w w' : World} {D : Nat → Prop} {p : Option Addr} {t : T} (h : TreeAt w D p t) (hb : Below w.heap.size w w') : TreeAt w' D p t := h.keep hb.size (below_heap hb D)
theorem TreeAt.nil {w : World} {D : Nat → Prop} : TreeAt w D none .nil := rfl

theorem treeSize (w : World) {D : Nat → Prop} {p : Option Addr} {t : T} (h : TreeAt w D p t) :
    Calls Tryz.prog 64 #[.pointer p] w fun e w' => e = .returned (.int .i64 (t.size : Int)) ∧ w = w' := by
  cases t with
  | nil =>
    obtain rfl : p = none := h
    go_enter Tryz.func64, Tryz.ntmps64
    go_wp2
    go_ret
    exact ⟨rfl, rfl⟩
  | node l k v r =>
    obtain ⟨b, kp, kc, vp, vc, lp, rp, rfl, _, hr, _⟩ := h
    have c4 : w.cell? ⟨b, 4, none⟩ = some (.int .i64 ((l.size + 1 + r.size : Nat) : Int)) := cell_of_row w b 4 _ _ (0, 0) hr
    clear hr
    go_enter Tryz.func64, Tryz.ntmps64
    go_wp2
    go_ret
    exact ⟨rfl, rfl⟩
theorem treeLeft (w : World) {D : Nat → Prop} {p : Option Addr} {l r : T} {k v : List UInt8} (h : TreeAt w D p (.node l k v r)) :
    Calls Tryz.prog 221 #[.pointer p] w fun e w' => ∃ lp, e = .returned (.pointer lp) ∧ TreeAt w D lp l ∧ w = w' := by
  obtain ⟨b, kp, kc, vp, vc, lp, rp, rfl, _, hr, _, _, hl, _⟩ := h
  have c4 : w.cell? ⟨b, 2, none⟩ = some (.pointer lp) := cell_of_row w b 2 _ _ (0, 0) hr
  have HL := Lib.hid hl
  clear hr hl
  go_enter Tryz.func221, Tryz.ntmps221
  go_wp2
  go_ret
  exact ⟨_, rfl, HL.out, rfl⟩
theorem treeRight (w : World) {D : Nat → Prop} {p : Option Addr} {l r : T} {k v : List UInt8} (h : TreeAt w D p (.node l k v r)) :
    Calls Tryz.prog 222 #[.pointer p] w fun e w' => ∃ rp, e = .returned (.pointer rp) ∧ TreeAt w D rp r ∧ w = w' := by
  obtain ⟨b, kp, kc, vp, vc, lp, rp, rfl, _, hr, _, _, _, hl⟩ := h
  have c4 : w.cell? ⟨b, 3, none⟩ = some (.pointer rp) := cell_of_row w b 3 _ _ (0, 0) hr
  have HL := Lib.hid hl
  clear hr hl
  go_enter Tryz.func222, Tryz.ntmps222
  go_wp2
  go_ret
  exact ⟨_, rfl, HL.out, rfl⟩
end Go.Proofs.YtmbiiemlepfoaaaGreatDoor
