/- The walks of the reference's times, length, Bound, Held. -/
import Derived.Test.YtegmcfnaiclmeaaProg
import Derived.Test.YtegmcfnaiclmeaaBlen
import Derived.WalkKit
import Derived.Below
import Derived.Lib.Hide
import Derived.Maps.AppendAt
import Derived.Deep.AppendLies
import Derived.Deep.QuietTactic
import Derived.BigQuiet
import Derived.WalkLawsBesides
import Derived.WalkSpells
import Derived.Outline
namespace Go.Proofs.Ytegmcfnaiclmeaa
open Go.RowKit

theorem infoInt : (Try.prog.info? 3).map (fun i => (i.zero, i.size, i.bytes)) = some (some (.int .i64 0), 1, 8) := by kernel_rfl
def iv (x : Nat) : Value := .int .i64 (x : Int)

/-- A slice of ints that came in: its cells. -/
structure IsN (w : World) (p : Option Addr) (c : Nat) (D : List Nat) : Prop where
  cap : D.length ≤ c
  cells : 0 < D.length → ∃ b o, p = some ⟨b, o, none⟩ ∧ b < w.heap.size ∧ ∀ i x, D[i]? = some x → w.cell? ⟨b, o + i, none⟩ = some (iv x)
theorem IsN.below {w w' : World} {p : Option Addr} {c : Nat} {D : List Nat} (h : IsN w p c D) (hb : Below w.heap.size w w') : IsN w' p c D :=
  ⟨h.cap, fun hl => by
    obtain ⟨b, o, hp, hlt, hc⟩ := h.cells hl
    exact ⟨b, o, hp, Nat.lt_of_lt_of_le hlt hb.size, fun i x hx => (hb.cell (p := ⟨b, o + i, none⟩) hlt).trans (hc i x hx)⟩⟩
theorem IsN.own {w : World} {base : Nat} {e : TypeId} {p : Option Addr} {c : Nat} {D : List Nat} (h : w.ownsRow base e 1 (.slice p D.length c) D.length (D.map iv)) : IsN w p c D := by
  rcases h.2 with ⟨hv, hn⟩ | ⟨g, cap, cur, hv, hg, hh, hnc, hcm, hcs, ht⟩
  · obtain rfl : D = [] := List.eq_nil_of_length_eq_zero hn
    exact ⟨Nat.zero_le _, fun h => absurd h (by simp)⟩
  · injection hv with h1 h2 h3
    subst h1; subst h3
    refine ⟨hnc, fun _ => ⟨g, 0, rfl, ?_, fun i x hx => ?_⟩⟩
    · rcases Nat.lt_or_ge g w.heap.size with h | h
      · exact h
      · rw [Array.getElem?_eq_none h] at hh; cases hh
    · have := h.cells (g := g) rfl i (iv x) (by simp [hx])
      simpa [Addr.add_lit] using this
theorem own_slice {w : World} {base : Nat} {e : TypeId} {s n : Nat} {v : Value} {xs : List Value} (h : w.ownsRow base e s v n xs) : ∃ p c, v = .slice p n c := by
  rcases h.2 with ⟨rfl, rfl⟩ | ⟨g, cap, cur, rfl, _⟩
  · exact ⟨_, _, rfl⟩
  · exact ⟨_, _, rfl⟩

/-- How long the digits grow. -/
def grow (n i c : Nat) : Prop := i ≤ n ∨ (i = n + 1 ∧ c ≤ 32) ∨ (i = n + 2 ∧ c = 0)
structure TimesR (w w' : World) (v : Value) (D : List Nat) (n : Nat) (R : List Nat) : Prop where
  own : w'.ownsRow w.heap.size 3 1 v R.length (R.map iv)
  digits : ∀ d ∈ R, d < 65536
  val : val R = val D * n
  len : R.length ≤ D.length + 2
  below : Below w.heap.size w w'

structure TimesI (D : List Nat) (n : Nat) (R : List Nat) (c : Nat) : Prop where
  digits : ∀ d ∈ R, d < 65536
  val : val R + 65536 ^ R.length * (c + val (D.drop R.length) * n) = val D * n
  len : grow D.length R.length c
  carry : c ≤ 2097152

theorem times_step {D : List Nat} {n c : Nat} {R : List Nat} (h : TimesI D n R c) (hi : R.length < D.length) (hD : ∀ d ∈ D, d < 65536) (hn : n ≤ 1048577) :
    TimesI D n (R ++ [(c + D[R.length] * n) % 65536]) ((c + D[R.length] * n) / 65536) := by
  have hd := hD D[R.length] (List.getElem_mem hi)
  have hm : D[R.length] * n ≤ 65535 * 1048577 := Nat.mul_le_mul (by omega) hn
  have hc := h.carry
  have hdr : D.drop R.length = D[R.length] :: D.drop (R.length + 1) := List.drop_eq_getElem_cons hi
  refine ⟨?_, ?_, ?_, by omega⟩
  · intro d hx
    rcases List.mem_append.1 hx with hx | hx
    · exact h.digits d hx
    · rw [List.mem_singleton.1 hx]; exact Nat.mod_lt _ (by omega)
  · have hv := h.val
    rw [hdr, Go.Proofs.Ytegmcfnaiclmeaa.val] at hv
    rw [val_append, List.length_append, List.length_singleton, Nat.pow_succ, ← hv, Nat.add_mul, Nat.mul_assoc (65536 ^ R.length) 65536, Nat.add_assoc]
    simp only [Go.Proofs.Ytegmcfnaiclmeaa.val, Nat.mul_zero, Nat.add_zero]
    rw [← Nat.mul_add]
    congr 2
    generalize Go.Proofs.Ytegmcfnaiclmeaa.val (List.drop (R.length + 1) D) = V
    generalize D[R.length] * n = a at *
    rw [Nat.mul_assoc]
    generalize V * n = b
    omega
  · unfold grow
    rw [List.length_append, List.length_singleton]
    omega
theorem times_tail {D : List Nat} {n c : Nat} {R : List Nat} (h : TimesI D n R c) (hi : ¬ R.length < D.length) (hc0 : 0 < c) :
    TimesI D n (R ++ [c % 65536]) (c / 65536) := by
  have hc := h.carry
  have hdr : D.drop R.length = [] := List.drop_eq_nil_of_le (by omega)
  have hdr2 : D.drop (R.length + 1) = [] := List.drop_eq_nil_of_le (by omega)
  refine ⟨?_, ?_, ?_, by omega⟩
  · intro d hx
    rcases List.mem_append.1 hx with hx | hx
    · exact h.digits d hx
    · rw [List.mem_singleton.1 hx]; exact Nat.mod_lt _ (by omega)
  · have hv := h.val
    rw [hdr] at hv
    rw [val_append, List.length_append, List.length_singleton, hdr2, Nat.pow_succ, ← hv, Nat.mul_assoc (65536 ^ R.length) 65536, Nat.add_assoc]
    simp only [Go.Proofs.Ytegmcfnaiclmeaa.val, Nat.mul_zero, Nat.add_zero, Nat.zero_mul]
    rw [← Nat.mul_add]
    congr 2
    omega
  · have hl := h.len
    unfold grow at hl ⊢
    rw [List.length_append, List.length_singleton]
    omega
theorem times_end {D : List Nat} {n c : Nat} {R : List Nat} (h : TimesI D n R c) (hi : ¬ R.length < D.length) (hc0 : ¬ 0 < c) : val R = val D * n := by
  have hv := h.val
  obtain rfl : c = 0 := by omega
  rw [List.drop_eq_nil_of_le (by omega)] at hv
  simpa [Go.Proofs.Ytegmcfnaiclmeaa.val] using hv
theorem times_start (D : List Nat) (n : Nat) : TimesI D n [] 0 := ⟨fun d h => absurd h (by simp), by simp [Go.Proofs.Ytegmcfnaiclmeaa.val], .inl (Nat.zero_le _), Nat.zero_le _⟩
end Go.Proofs.Ytegmcfnaiclmeaa
