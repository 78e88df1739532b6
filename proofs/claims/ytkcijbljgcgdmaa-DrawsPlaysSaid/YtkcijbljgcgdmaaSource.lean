/- A Source's state in memory: bytes of its own, with room behind them; a struct of two fields. -/
import Derived.Test.YtkcijbljgcgdmaaClone
import Derived.Deep.MidRow
namespace Go.Proofs.Ytkcijbljgcgdmaa
open Go.RowKit

theorem row_lt {w : World} {b : Nat} {o : Obj} (h : w.heap[b]? = some o) : b < w.heap.size := by
  rcases Nat.lt_or_ge b w.heap.size with h1 | h1
  · exact h1
  · rw [Array.getElem?_eq_none h1] at h; cases h
theorem cell_same {w w2 : World} {a : Addr} (h : w2.heap[a.block]? = w.heap[a.block]?) : w2.cell? a = w.cell? a := by
  unfold World.cell?
  rw [h]
theorem frozen_same {w w2 : World} {a : Addr} (h : w2.heap[a.block]? = w.heap[a.block]?) : w2.frozen? a = w.frozen? a := by
  unfold World.frozen?
  rw [h]

/-- Bytes in a block of the call's own (from B on), the cells of the capacity there and free. -/
structure OR (w : World) (B : Nat) (q : Option Addr) (d : Nat) (l : List UInt8) : Prop where
  cap : l.length ≤ d
  big : d ≤ maxLen
  nil : q = none → d = 0
  form : ∀ x, q = some x → x.spot = none
  row : ∀ x, q = some x → 0 < d → ∃ b o, x = ⟨b, o, none⟩ ∧ B ≤ b ∧ b < w.heap.size ∧ w.rangeAt b o (l.map bv) ∧ w.there b o d
theorem OR.isB {w : World} {B : Nat} {q : Option Addr} {d : Nat} {l : List UInt8} (h : OR w B q d l) : IsB w q d l :=
  ⟨h.cap, h.nil, h.big, fun hl => by
    have hd : 0 < d := Nat.lt_of_lt_of_le hl h.cap
    rcases q with _ | x
    · have := h.nil rfl; omega
    · obtain ⟨b, o, rfl, _, hb, hr, _⟩ := h.row x rfl hd
      exact ⟨b, o, rfl, hb, fun i y hy => hr i (bv y) (by simp [hy])⟩⟩
theorem OR.none_ (w : World) (B : Nat) : OR w B none 0 [] := ⟨Nat.le_refl _, Nat.zero_le _, fun _ => rfl, fun x hx => (by cases hx), fun x hx => (by cases hx)⟩
theorem OR.of_own {w : World} {B : Nat} {q : Option Addr} {d : Nat} {l : List UInt8} (h : w.ownsRow B 5 1 (.slice q l.length d) l.length (l.map bv)) : OR w B q d l := by
  rcases h.2 with ⟨hv, hn⟩ | ⟨g, cap, cur, hv, hg, hh, hnc, hcm, hcs, ht⟩
  · injection hv with h1 h2 h3
    subst h1; subst h3
    obtain rfl : l = [] := List.eq_nil_of_length_eq_zero hn
    exact OR.none_ w B
  · injection hv with h1 h2 h3
    subst h1; subst h3
    refine ⟨hnc, hcm, fun h => by simp at h, fun x hx => (by cases hx; rfl), fun x hx hd => ⟨g, 0, (Option.some.inj hx).symm, hg, row_lt hh, fun j v hv => ?_, fun j hj => ⟨?_, ?_⟩⟩⟩
    · rw [Nat.zero_add, h.cellAt j (by have := (List.getElem?_eq_some_iff.1 hv).1; simp at this; omega)]
      exact hv
    · rw [Nat.zero_add, cell_of_row w g j cur _ (0, 0) hh]
      rw [Array.getElem?_eq_getElem (by omega)]
      rfl
    · rw [Nat.zero_add]
      exact h.frozenAt j
/-- Blocks that are the same hold the same bytes. -/
theorem OR.same {w w2 : World} {B : Nat} {q : Option Addr} {d : Nat} {l : List UInt8} (h : OR w B q d l) (hs : w.heap.size ≤ w2.heap.size) (hk : ∀ x, q = some x → 0 < d → w2.heap[x.block]? = w.heap[x.block]?) : OR w2 B q d l :=
  ⟨h.cap, h.big, h.nil, h.form, fun x hx hd => by
    obtain ⟨b, o, rfl, hB, hb, hr, ht⟩ := h.row x hx hd
    have hh : w2.heap[b]? = w.heap[b]? := hk _ hx hd
    exact ⟨b, o, rfl, hB, Nat.lt_of_lt_of_le hb hs, fun j v hv => (cell_same (a := ⟨b, o + j, none⟩) hh).trans (hr j v hv), fun j hj => by
      rw [cell_same (a := ⟨b, o + j, none⟩) hh, frozen_same (a := ⟨b, o + j, none⟩) hh]
      exact ht j hj⟩⟩
theorem OR.below {w w2 : World} {B : Nat} {q : Option Addr} {d : Nat} {l : List UInt8} (h : OR w B q d l) (hb : Below w.heap.size w w2) : OR w2 B q d l :=
  h.same hb.size fun x hx hd => by
    obtain ⟨b, o, rfl, _, hlt, _⟩ := h.row x hx hd
    exact hb.block b hlt
/-- A cut at the front, as the model writes it. -/
theorem OR.drop {w : World} {B : Nat} {q : Option Addr} {d : Nat} {l : List UInt8} (h : OR w B q d l) (k : Nat) (hk : k ≤ l.length) : OR w B (if d = k then q else q.map (·.add k)) (d - k) (l.drop k) := by
  have hc := h.cap
  have hb := h.big
  refine ⟨by rw [List.length_drop]; omega, by omega, fun hn => ?_, fun x hx => ?_, fun x hx hd => ?_⟩
  · split at hn
    · have := h.nil hn; omega
    · have : q = none := by cases q <;> simp_all
      have := h.nil this; omega
  · split at hx
    · exact h.form x hx
    · rcases q with _ | y
      · simp at hx
      · have hy := h.form y rfl
        obtain ⟨b, o, s⟩ := y
        subst hy
        simp [Addr.add_lit] at hx
        subst hx
        rfl
  · rw [if_neg (by omega)] at hx
    rcases q with _ | y
    · simp at hx
    · obtain ⟨b, o, rfl, hB, hlt, hr, ht⟩ := h.row y rfl (by omega)
      simp [Addr.add_lit] at hx
      subst hx
      refine ⟨b, o + k, rfl, hB, hlt, fun j v hv => ?_, fun j hj => ?_⟩
      · rw [List.map_drop, List.getElem?_drop] at hv
        rw [Nat.add_assoc]
        exact hr _ v hv
      · rw [Nat.add_assoc]
        exact ht (k + j) (by omega)

/-- A SOURCE: its block g; what is left of its bytes; how many seeds were taken. All that it lies in is of S; its bytes lie apart from g. -/
def Src (w : World) (S : Nat → Prop) (g : Nat) (l : List UInt8) (t : Nat) : Prop :=
  ∃ q d, w.heap[g]? = some (.cells #[.slice q l.length d, .int .i64 (t : Int)] 46) ∧ OR w 0 q d l ∧ S g ∧ ∀ x, q = some x → 0 < d → x.block ≠ g ∧ S x.block
theorem Src.lt {w : World} {S : Nat → Prop} {g : Nat} {l : List UInt8} {t : Nat} (h : Src w S g l t) : g < w.heap.size := by
  obtain ⟨q, d, h, _⟩ := h; exact row_lt h
theorem Src.mono {w : World} {S S' : Nat → Prop} {g : Nat} {l : List UInt8} {t : Nat} (h : Src w S g l t) (hs : ∀ k, k < w.heap.size → S k → S' k) : Src w S' g l t := by
  obtain ⟨q, d, h1, h2, h3, h4⟩ := h
  refine ⟨q, d, h1, h2, hs _ (row_lt h1) h3, fun x hx hd => ⟨(h4 x hx hd).1, hs _ ?_ (h4 x hx hd).2⟩⟩
  obtain ⟨b, o, rfl, _, hlt, _⟩ := h2.row x hx hd
  exact hlt
/-- Nothing but blocks of T has changed, and new ones. -/
structure Kept (w w' : World) (T : Nat → Prop) : Prop where
  os : w'.os = w.os
  tape : w'.tape = w.tape
  output : w'.output = w.output
  size : w.heap.size ≤ w'.heap.size
  block : ∀ k, k < w.heap.size → ¬ T k → w'.heap[k]? = w.heap[k]?
theorem Kept.of_below {w w' : World} {T : Nat → Prop} (h : Below w.heap.size w w') : Kept w w' T := ⟨h.os, h.tape, h.output, h.size, fun k hk _ => h.block k hk⟩
theorem Kept.to_below {w w' : World} {T : Nat → Prop} {B : Nat} (h : Kept w w' T) (hT : ∀ k, T k → B ≤ k) (hB : B ≤ w.heap.size) : Below B w w' :=
  ⟨h.os, h.tape, h.output, h.size, fun k hk => h.block k (by omega) (fun ht => by have := hT k ht; omega)⟩
theorem Kept.mono {w w' : World} {T T' : Nat → Prop} (h : Kept w w' T) (ht : ∀ k, T k → T' k) : Kept w w' T' := ⟨h.os, h.tape, h.output, h.size, fun k hk hn => h.block k hk (fun hh => hn (ht k hh))⟩
theorem Kept.trans {w w1 w2 : World} {T : Nat → Prop} (h : Kept w w1 T) (h' : Kept w1 w2 T) : Kept w w2 T :=
  ⟨h'.os.trans h.os, h'.tape.trans h.tape, h'.output.trans h.output, Nat.le_trans h.size h'.size, fun k hk hn => (h'.block k (Nat.lt_of_lt_of_le hk h.size) hn).trans (h.block k hk hn)⟩
/-- What lies apart from what has changed stands. -/
theorem Src.kept {w w2 : World} {S T : Nat → Prop} {g : Nat} {l : List UInt8} {t : Nat} (h : Src w S g l t) (hk : Kept w w2 T) (hd : ∀ k, S k → ¬ T k) : Src w2 S g l t := by
  obtain ⟨q, d, h1, h2, h3, h4⟩ := h
  refine ⟨q, d, (hk.block g (row_lt h1) (hd g h3)).trans h1, h2.same hk.size fun x hx hd' => ?_, h3, h4⟩
  obtain ⟨b, o, rfl, _, hlt, _⟩ := h2.row x hx hd'
  exact hk.block b hlt (hd b (h4 _ hx hd').2)
theorem Src.below {w w2 : World} {S : Nat → Prop} {g : Nat} {l : List UInt8} {t : Nat} (h : Src w S g l t) (hb : Below w.heap.size w w2) : Src w2 S g l t :=
  h.kept (T := fun _ => False) (Kept.of_below hb) (fun _ _ hf => hf)
theorem Src.cells {w : World} {S : Nat → Prop} {g : Nat} {l : List UInt8} {t : Nat} (h : Src w S g l t) : ∃ q d, w.cell? ⟨g, 0, none⟩ = some (.slice q l.length d) ∧ w.cell? ⟨g, 1, none⟩ = some (.int .i64 (t : Int)) ∧
    w.frozen? ⟨g, 0, none⟩ = false ∧ w.frozen? ⟨g, 1, none⟩ = false ∧ OR w 0 q d l ∧ S g ∧ ∀ x, q = some x → 0 < d → x.block ≠ g ∧ S x.block := by
  obtain ⟨q, d, h1, h2, h3, h4⟩ := h
  exact ⟨q, d, cell_of_row w g 0 _ _ (0, 0) h1, cell_of_row w g 1 _ _ (0, 0) h1, frozen_of_row w g 0 _ _ h1, frozen_of_row w g 1 _ _ h1, h2, h3, h4⟩
end Go.Proofs.Ytkcijbljgcgdmaa
