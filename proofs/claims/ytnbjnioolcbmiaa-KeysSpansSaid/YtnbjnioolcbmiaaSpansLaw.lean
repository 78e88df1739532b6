/- The walk of KeysSpans. -/
import Derived.Test.YtnbjnioolcbmiaaAwake
import Derived.Test.YtnbjnioolcbmiaaSmall
import Derived.Test.YtnbjnioolcbmiaaRefs
import Derived.Test.YtnbjnioolcbmiaaSpan
import Derived.Test.YtnbjnioolcbmiaaCompareLaw
import Derived.Test.YtnbjnioolcbmiaaBehindLaw
namespace Go.Proofs.Ytnbjnioolcbmiaa
open Go.RowKit

/-- The stretch lies in a block of the call's own. -/
structure SpanAt (w : World) (b : Nat) (v1 v2 : Value) (cl : Bool) : Prop where
  lt : b < w.heap.size
  c0 : w.cell? ⟨b, 0, none⟩ = some v1
  c1 : w.cell? ⟨b, 1, none⟩ = some v2
  c2 : w.cell? ⟨b, 2, none⟩ = some (.bool cl)
theorem SpanAt.below {w w' : World} {b : Nat} {v1 v2 : Value} {cl : Bool} (h : SpanAt w b v1 v2 cl) (hb : Below w.heap.size w w') : SpanAt w' b v1 v2 cl :=
  ⟨Nat.lt_of_lt_of_le h.lt hb.size, (hb.cell (p := ⟨b, 0, none⟩) h.lt).trans h.c0, (hb.cell (p := ⟨b, 1, none⟩) h.lt).trans h.c1, (hb.cell (p := ⟨b, 2, none⟩) h.lt).trans h.c2⟩

theorem small4 {p1 p2 p3 p4 : Option Addr} {n1 n2 n3 n4 c1 c2 c3 c4 : Nat} (h : smallB [(p1, n1, c1), (p2, n2, c2), (p3, n3, c3), (p4, n4, c4)] = true) : n1 ≤ 200 ∧ n2 ≤ 200 ∧ n3 ≤ 200 ∧ n4 ≤ 200 := by
  simpa [smallB] using h

/-- In and empty, as the law reckons them. -/
def inB (f t : List UInt8) (cl : Bool) (k : List UInt8) : Bool := !lessB k f && (!cl || lessB k t)
def voidB (f t : List UInt8) (cl : Bool) : Bool := cl && !lessB f t
theorem has_in (f t : List UInt8) (cl : Bool) (k : List UInt8) : hasB f t cl k = inB f t cl k := by
  unfold hasB inB lessB
  rcases cmp_range k f with h | h | h <;> rcases cmp_range k t with h' | h' | h' <;> simp [h, h']
theorem empty_void (f t : List UInt8) (cl : Bool) : emptyB f t cl = voidB f t cl := by
  unfold emptyB voidB lessB
  rw [cmp_swap f t]
  rcases cmp_range t f with h | h | h <;> simp [h]
/-- Not in a stretch that is empty. -/
theorem void_in (f t : List UInt8) (cl : Bool) (k : List UInt8) (h : voidB f t cl = true) : inB f t cl k = false := by
  unfold voidB lessB at h
  unfold inB lessB
  simp only [Bool.and_eq_true, Bool.not_eq_true', beq_eq_false_iff_ne] at h
  obtain ⟨rfl, h⟩ := h
  have h1 : Lib.compareBytes t f ≤ 0 := by rw [cmp_swap t f]; rcases cmp_range f t with e | e | e <;> omega
  rcases cmp_range k t with e | e | e
  · have h2 : Lib.compareBytes k f ≤ 0 := cmp_trans (by omega) h1
    rcases cmp_range k f with e2 | e2 | e2
    · simp [e2]
    · obtain rfl := cmp_zero e2
      rw [cmp_swap k t] at e
      exact absurd (by rw [cmp_swap]; omega) h
    · omega
  · simp [e]
  · simp [e]
theorem in_from (f t : List UInt8) (cl : Bool) (h : voidB f t cl = false) : inB f t cl f = true := by
  unfold voidB lessB at h
  unfold inB lessB
  rw [cmp_self]
  cases cl
  · rfl
  · simpa using h

theorem behindR_snoc (x : UInt8) : ∀ r : List UInt8, behindR (r ++ [x]) = match behindR r with | some b => some (x :: b) | none => if x = 255 then none else some [x + 1]
  | [] => by simp [behindR]
  | y :: r => by
    rw [List.cons_append]
    unfold behindR
    by_cases hy : y = 255
    · rw [if_pos hy, if_pos hy]; exact behindR_snoc x r
    · rw [if_neg hy, if_neg hy]; simp
theorem behind_cons (x : UInt8) (p : List UInt8) : behindB (x :: p) = match behindB p with | some b => some (x :: b) | none => if x = 255 then none else some [x + 1] := by
  unfold behindB
  rw [List.reverse_cons]
  exact behindR_snoc x _
theorem cmp_cons_lt {x y : UInt8} (h : x < y) (a b : List UInt8) : Lib.compareBytes (x :: a) (y :: b) = -1 := by simp [Lib.compareBytes, h]
theorem cmp_cons_gt {x y : UInt8} (h : y < x) (a b : List UInt8) : Lib.compareBytes (x :: a) (y :: b) = 1 := by
  have : ¬ x < y := UInt8.lt_asymm h
  simp [Lib.compareBytes, h, this]
theorem cmp_cons_eq (x : UInt8) (a b : List UInt8) : Lib.compareBytes (x :: a) (x :: b) = Lib.compareBytes a b := by simp [Lib.compareBytes]
theorem cmp_nil (a : List UInt8) : 0 ≤ Lib.compareBytes a [] := by cases a <;> simp [Lib.compareBytes]
theorem begins_cons (x y : UInt8) (k p : List UInt8) : begins (y :: k) (x :: p) = (x == y && begins k p) := rfl
theorem up_lt {x : UInt8} (h : x ≠ 255) : x < x + 1 := by
  have h1 : x.toNat ≠ 255 := fun e => h (UInt8.toNat_inj.1 e)
  have h2 := x.toNat_lt
  rw [UInt8.lt_iff_toNat_lt, UInt8.toNat_add]
  show x.toNat < (x.toNat + 1) % 256
  omega
theorem up_le {x y : UInt8} (h : x < y) : ¬ y < x + 1 := by
  have h2 := y.toNat_lt
  rw [UInt8.lt_iff_toNat_lt] at h
  rw [UInt8.lt_iff_toNat_lt, UInt8.toNat_add]
  show ¬ y.toNat < (x.toNat + 1) % 256
  omega

theorem of_has : ∀ p k : List UInt8, hasB p ((behindB p).getD []) (behindB p).isSome k = begins k p
  | [], k => by
    have := cmp_nil k
    cases k <;> simp [hasB, behind_nil, begins, this]
  | x :: p, [] => by simp [hasB, Lib.compareBytes, begins]
  | x :: p, y :: k => by
    have ih := of_has p k
    unfold hasB at ih ⊢
    rw [begins_cons, behind_cons]
    by_cases h1 : y < x
    · have hne : (x == y) = false := by rw [beq_eq_false_iff_ne]; intro e; subst e; exact UInt8.lt_irrefl _ h1
      rw [cmp_cons_lt h1, hne]
      rfl
    · by_cases h2 : x < y
      · have hne : (x == y) = false := by rw [beq_eq_false_iff_ne]; intro e; subst e; exact UInt8.lt_irrefl _ h2
        rw [cmp_cons_gt h2, hne]
        cases hb : behindB p with
        | some b => simp [cmp_cons_gt h2]
        | none =>
          by_cases hx : x = 255
          · exfalso
            subst hx
            have := y.toNat_lt
            rw [UInt8.lt_iff_toNat_lt] at h2
            have h3 : (255 : UInt8).toNat = 255 := rfl
            omega
          · have h4 := up_le h2
            have h5 : ¬ Lib.compareBytes (y :: k) [x + 1] < 0 := by
              by_cases h6 : x + 1 < y
              · rw [cmp_cons_gt h6]; omega
              · have : y = x + 1 := UInt8.le_antisymm (UInt8.not_lt.1 h6) (UInt8.not_lt.1 h4)
                subst this
                rw [cmp_cons_eq]
                have := cmp_nil k
                omega
            simp [hx, h5]
      · have e : x = y := UInt8.le_antisymm (UInt8.not_lt.1 h1) (UInt8.not_lt.1 h2)
        subst e
        rw [cmp_cons_eq, ← ih]
        cases hb : behindB p with
        | some b => simp [cmp_cons_eq]
        | none =>
          by_cases hx : x = 255
          · simp [hx]
          · simp [hx, cmp_cons_lt (up_lt hx)]
theorem of_empty (p : List UInt8) : emptyB p ((behindB p).getD []) (behindB p).isSome = false := by
  unfold emptyB
  cases hb : behindB p with
  | none => rfl
  | some b =>
    have h := behind_more (x := p) hb (by unfold begins; rw [List.isPrefixOf_iff_prefix]; exact List.prefix_rfl)
    rw [cmp_swap] at h
    simp; omega
end Go.Proofs.Ytnbjnioolcbmiaa
