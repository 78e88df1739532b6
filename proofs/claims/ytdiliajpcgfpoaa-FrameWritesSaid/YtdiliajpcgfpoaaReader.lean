/- A reader's state in memory; the walks of NewReader, fail, Err, Left, End. -/
import Derived.Test.YtdiliajpcgfpoaaClone
import Derived.Test.YtdiliajpcgfpoaaFrPure
namespace Go.Proofs.Ytdiliajpcgfpoaa
open Go.RowKit

/-- Bytes that lie in a row of the call's own, somewhere in it. -/
structure OB (w : World) (q : Option Addr) (d : Nat) (l : List UInt8) : Prop where
  cap : l.length ≤ d
  nil : q = none → d = 0
  big : d ≤ maxLen
  row : 0 < l.length → ∃ b o cs, q = some ⟨b, o, none⟩ ∧ w.heap[b]? = some (.cells cs 5) ∧ ∀ i x, l[i]? = some x → cs[o + i]? = some (bv x)
theorem row_lt {w : World} {b : Nat} {o : Obj} (h : w.heap[b]? = some o) : b < w.heap.size := by
  rcases Nat.lt_or_ge b w.heap.size with h1 | h1
  · exact h1
  · rw [Array.getElem?_eq_none h1] at h; cases h
theorem OB.isB {w : World} {q : Option Addr} {d : Nat} {l : List UInt8} (h : OB w q d l) : IsB w q d l :=
  ⟨h.cap, h.nil, h.big, fun hl => by
    obtain ⟨b, o, cs, hq, hb, hc⟩ := h.row hl
    exact ⟨b, o, hq, row_lt hb, fun i x hx => by rw [cell_of_row w b (o + i) cs _ (0, 0) hb]; exact hc i x hx⟩⟩
theorem OB.of_own {w : World} {base : Nat} {q : Option Addr} {d : Nat} {l : List UInt8} (h : w.ownsRow base 5 1 (.slice q l.length d) l.length (l.map bv)) : OB w q d l := by
  rcases h.2 with ⟨hv, hn⟩ | ⟨g, cap, cur, hv, hg, hh, hnc, hcm, hcs, ht⟩
  · injection hv with h1 h2 h3
    subst h1; subst h3
    obtain rfl : l = [] := List.eq_nil_of_length_eq_zero hn
    exact ⟨Nat.le_refl _, fun _ => rfl, Nat.zero_le _, fun h => absurd h (by simp)⟩
  · injection hv with h1 h2 h3
    subst h1; subst h3
    refine ⟨hnc, fun h => by simp at h, hcm, fun _ => ⟨g, 0, cur, rfl, hh, fun i x hx => ?_⟩⟩
    have := h.cells (g := g) rfl i (bv x) (by simp [hx])
    rw [Addr.add_lit, cell_of_row w g (0 + i) cur _ (0, 0) hh] at this
    exact this
theorem OB.nil_ (w : World) : OB w none 0 [] := ⟨Nat.le_refl _, fun _ => rfl, Nat.zero_le _, fun h => absurd h (by simp)⟩
/-- A cut at the front, as the model writes it. -/
theorem OB.drop {w : World} {q : Option Addr} {d : Nat} {l : List UInt8} (h : OB w q d l) (k : Nat) (hk : k ≤ l.length) : OB w (if d = k then q else q.map (·.add k)) (d - k) (l.drop k) := by
  have hc := h.cap
  have hb := h.big
  refine ⟨by rw [List.length_drop]; omega, fun hn => ?_, by omega, fun hl => ?_⟩
  · split at hn
    · have := h.nil hn; omega
    · have : q = none := by cases q <;> simp_all
      have := h.nil this; omega
  · rw [List.length_drop] at hl
    obtain ⟨b, o, cs, rfl, hb2, hcs⟩ := h.row (by omega)
    rw [if_neg (by omega)]
    refine ⟨b, o + k, cs, by simp [Addr.add_lit], hb2, fun i x hx => ?_⟩
    rw [List.getElem?_drop] at hx
    rw [Nat.add_assoc]
    exact hcs _ x hx
theorem OB.grown {w w' : World} {q : Option Addr} {d : Nat} {l : List UInt8} (h : OB w q d l) {g : Nat} {cs : Array Value} (hg : w.heap[g]? = some (.cells cs 52)) (hw : w.grownBy w' (some g)) : OB w' q d l :=
  ⟨h.cap, h.nil, h.big, fun hl => by
    obtain ⟨b, o, cs', hq, hb, hc⟩ := h.row hl
    refine ⟨b, o, cs', hq, ?_, hc⟩
    rw [hw.block b (row_lt hb) (fun e => by
      injection e with e
      subst e
      rw [hg] at hb
      injection hb with hb
      injection hb with _ ht
      exact absurd ht (by decide)), hb]⟩
theorem OB.below {w w' : World} {q : Option Addr} {d : Nat} {l : List UInt8} (h : OB w q d l) (hw : Below w.heap.size w w') : OB w' q d l :=
  ⟨h.cap, h.nil, h.big, fun hl => by
    obtain ⟨b, o, cs', hq, hb, hc⟩ := h.row hl
    exact ⟨b, o, cs', hq, (hw.block b (row_lt hb)).trans hb, hc⟩⟩

/-- A READER: its block g; what is left of its bytes; its error's number. -/
def Rd (w : World) (g : Nat) (l : List UInt8) (e : Nat) : Prop :=
  ∃ q d, w.heap[g]? = some (.cells #[.slice q l.length d, .int .i64 (e : Int)] 52) ∧ OB w q d l
theorem Rd.lt {w : World} {g : Nat} {l : List UInt8} {e : Nat} (h : Rd w g l e) : g < w.heap.size := by
  obtain ⟨q, d, h, _⟩ := h; exact row_lt h
theorem Rd.below {w w' : World} {g : Nat} {l : List UInt8} {e : Nat} (h : Rd w g l e) (hw : Below w.heap.size w w') : Rd w' g l e := by
  obtain ⟨q, d, h1, h2⟩ := h
  exact ⟨q, d, (hw.block g (row_lt h1)).trans h1, h2.below hw⟩
/-- One reader is read, another stays. -/
theorem Rd.other {w w' : World} {g g' : Nat} {l l' : List UInt8} {e e' : Nat} (h : Rd w g l e) (h' : Rd w g' l' e') (hne : g ≠ g') (hw : w.grownBy w' (some g')) : Rd w' g l e := by
  obtain ⟨q, d, h1, h2⟩ := h
  obtain ⟨_, _, h3, _⟩ := h'
  exact ⟨q, d, (hw.block g (row_lt h1) (by simpa using hne)).trans h1, h2.grown h3 hw⟩
/-- Bytes of the call's own stay, too. -/
theorem Rd.bytes {w w' : World} {g : Nat} {l l' : List UInt8} {e : Nat} {q : Option Addr} {d : Nat} (h : Rd w g l e) (hq : OB w q d l') (hw : w.grownBy w' (some g)) : OB w' q d l' := by
  obtain ⟨_, _, h3, _⟩ := h
  exact hq.grown h3 hw

/-- What a store into the reader's block leaves. -/
theorem Rd.set_e {w : World} {g : Nat} {l : List UInt8} {e : Nat} (h : Rd w g l e) (e' : Nat) : Rd (w.setCell ⟨g, 1, none⟩ (.int .i64 (e' : Int))) g l e' ∧ w.grownBy (w.setCell ⟨g, 1, none⟩ (.int .i64 (e' : Int))) (some g) := by
  obtain ⟨q, d, h1, h2⟩ := h
  have hg : w.grownBy (w.setCell ⟨g, 1, none⟩ (.int .i64 (e' : Int))) (some g) := ⟨rfl, rfl, rfl, by simp [World.setCell], fun k _ hk => Below.heap_setCell w _ _ k (fun e => hk (by rw [e]))⟩
  refine ⟨⟨q, d, ?_, h2.grown h1 hg⟩, hg⟩
  simp [World.setCell, Array.getElem?_modify, h1]
theorem Rd.set_b {w : World} {g : Nat} {l l' : List UInt8} {e : Nat} (h : Rd w g l e) {q : Option Addr} {d : Nat} (hq : OB w q d l') : Rd (w.setCell ⟨g, 0, none⟩ (.slice q l'.length d)) g l' e ∧ w.grownBy (w.setCell ⟨g, 0, none⟩ (.slice q l'.length d)) (some g) := by
  obtain ⟨q0, d0, h1, h2⟩ := h
  have hg : w.grownBy (w.setCell ⟨g, 0, none⟩ (.slice q l'.length d)) (some g) := ⟨rfl, rfl, rfl, by simp [World.setCell], fun k _ hk => Below.heap_setCell w _ _ k (fun e => hk (by rw [e]))⟩
  refine ⟨⟨q, d, ?_, hq.grown h1 hg⟩, hg⟩
  simp [World.setCell, Array.getElem?_modify, h1]
theorem grown_refl (w : World) (g : Option Nat) : w.grownBy w g := ⟨rfl, rfl, rfl, Nat.le_refl _, fun _ _ _ => rfl⟩
theorem grown_trans {a b c : World} {g : Option Nat} (h : a.grownBy b g) (k : b.grownBy c g) : a.grownBy c g :=
  ⟨k.os.trans h.os, k.tape.trans h.tape, k.output.trans h.output, Nat.le_trans h.size k.size, fun i hi hne => (k.block i (Nat.lt_of_lt_of_le hi h.size) hne).trans (h.block i hi hne)⟩
theorem grown_below {a b : World} {g : Option Nat} (h : Below a.heap.size a b) : a.grownBy b g := ⟨h.os, h.tape, h.output, h.size, fun i hi _ => h.block i hi⟩
theorem below_grown {B : Nat} {a b : World} {g : Nat} (h : a.grownBy b (some g)) (hg : B ≤ g) (hB : B ≤ a.heap.size) : Below B a b :=
  ⟨h.os, h.tape, h.output, h.size, fun k hk => h.block k (by omega) (fun e => by injection e; omega)⟩
end Go.Proofs.Ytdiliajpcgfpoaa
