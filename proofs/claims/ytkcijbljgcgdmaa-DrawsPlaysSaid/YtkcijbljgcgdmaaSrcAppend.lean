/- append of bytes onto a source's bytes. -/
import Derived.Test.YtkcijbljgcgdmaaSrcWalk
import Derived.Test.YtkcijbljgcgdmaaAppend
import Derived.ArgAppend
import Derived.Deep.Upon
namespace Go.Proofs.Ytkcijbljgcgdmaa
open Go.RowKit

theorem size_sets (b : Nat) : ∀ (vs : List Value) (o : Nat) (w : World), (w.setCells b o vs).heap.size = w.heap.size
  | [], _, _ => rfl
  | v :: r, o, w => by rw [World.setCells, size_sets b r]; simp
theorem tape_sets (b : Nat) : ∀ (vs : List Value) (o : Nat) (w : World), (w.setCells b o vs).tape = w.tape
  | [], _, _ => rfl
  | v :: r, o, w => by rw [World.setCells, tape_sets b r]; rfl
theorem OR.weak {w : World} {B : Nat} {q : Option Addr} {d : Nat} {l : List UInt8} (h : OR w B q d l) : OR w 0 q d l :=
  ⟨h.cap, h.big, h.nil, h.form, fun x hx hd => by
    obtain ⟨b, o, h1, _, h3⟩ := h.row x hx hd
    exact ⟨b, o, h1, Nat.zero_le _, h3⟩⟩
/-- The block that a slice's bytes lie in, if they lie in any. -/
def Lies (q : Option Addr) (d : Nat) (k : Nat) : Prop := ∃ x, q = some x ∧ 0 < d ∧ x.block = k
theorem lies_of_own {w : World} {B : Nat} {q : Option Addr} {d n : Nat} {l : List UInt8} (h : w.ownsRow B 5 1 (.slice q n d) n (l.map bv)) : ∀ k, Lies q d k → B ≤ k := fun k ⟨x, hx, _, hk⟩ => by
  subst hx; subst hk
  exact (h.lt _ rfl).1

theorem wp_append_or (w : World) {ops : Array Oper} {rest : List Oper} {o : Oper} {a : Act} {Q : Exit → Act → World → Prop} (hgd : o.guard = none) (s x : Operand)
    (ho : o.op = .call { callee := .builtin .append, args := #[s, x], argTypes := #[22, 22] })
    {q : Option Addr} {d : Nat} {l : List UInt8} (hO : OR w 0 q d l) (n : Nat) (hn : n = l.length) (hs : a.eval s = .slice q n d)
    {p : Option Addr} {c : Nat} {b : List UInt8} (hB : IsB w p c b) (m : Nat) (hm : m = b.length) (hx : a.eval x = .slice p m c)
    (hbytes : l.length + b.length ≤ 140737488355328)
    (h : ∀ q' d' w', OR w' 0 q' d' (l ++ b) → Kept w w' (Lies q d) → (∀ k, Lies q' d' k → Lies q d k ∨ w.heap.size ≤ k) → wpList Try.prog ops Q rest (a.put o.dst (.slice q' (n + m) d')) w') : wpList Try.prog ops Q (o :: rest) a w := by
  obtain ⟨i0, hi, hz0, hz1, hz2⟩ := info_parts info5
  subst hm; subst hn
  rcases q with _ | y
  · have hd := hO.nil rfl
    have hl : l = [] := List.eq_nil_of_length_eq_zero (by have := hO.cap; omega)
    subst hl; subst hd
    refine wp_append_bytes w hgd s x ho w.heap.size (.slice none 0 0) 0 [] hs (World.ownsRow_nil w _ _ _) (Nat.le_refl _) hB b.length rfl hx (by omega) fun v' w' hown hbel => ?_
    rw [List.nil_append] at hown
    obtain ⟨q', d', rfl⟩ := own_slice hown
    rw [Nat.zero_add] at hown ⊢
    have := h q' d' w' (by rw [List.nil_append]; exact (OR.of_own hown).weak) (Kept.of_below hbel) (fun k hk => .inr (lies_of_own hown k hk))
    simpa using this
  · rcases p with _ | ad
    · have hc := hB.nil rfl
      have hb0 : b = [] := List.eq_nil_of_length_eq_zero (by have := hB.cap; omega)
      subst hb0; subst hc
      have hcap := hO.cap
      refine wpList_plain hgd fun K hK => ?_
      have hrun : ∀ ty, (Builtin.append_ #[22, 22] ty #[.slice (some y) l.length d, .slice none 0 0]).run Try.prog w = .ok (.slice (some y) l.length d) w := fun ty => by
        simp [Builtin.append_, run_underlying Try.underlying22, sizeOf, typeInfo, hi, Builtin.lenOf, Builtin.firstCells, hcap, storeCells]
      unfold Oper.wp
      simp [execOp, ho, resolve, invoke, builtin, hs, hx, hrun, Result.andThen]
      exact hK _ _ (h (some y) d w (by simpa using hO) (Kept.of_below (Below.refl _ _)) (fun k hk => .inl hk))
    · obtain ⟨yb, yo, ys⟩ := y
      have hy := hO.form _ rfl
      subst hy
      refine wpList_append_arg w hgd s x 22 ho 5 i0 (.int .u8 0) 1 1 Try.underlying22 hi hz0 hz1 hz2 rfl (by decide) yb yo l.length d (l.map bv) hs (by simp) ?_ ad b.length c (b.map bv) hx (by simp) ?_ ?_ ?_ (by unfold maxLen; omega) (by omega) ?_ ?_
      · intro j u hj
        have hjl : j < l.length := by have := (List.getElem?_eq_some_iff.1 hj).1; simpa using this
        obtain ⟨b1, o1, e, _, _, hr, _⟩ := hO.row _ rfl (by have := hO.cap; omega)
        injection e with e1 e2
        subst e1; subst e2
        exact hr j u hj
      · intro j u hj
        rw [List.getElem?_map, Option.map_eq_some_iff] at hj
        obtain ⟨z, hz, rfl⟩ := hj
        obtain ⟨b2, o', hp, _, hc⟩ := hB.cells (by have := (List.getElem?_eq_some_iff.1 hz).1; omega)
        obtain rfl := Option.some.inj hp
        rw [Addr.add_lit]
        exact hc j z hz
      · intro u hu; obtain ⟨z, _, rfl⟩ := List.mem_map.1 hu; rfl
      · intro hroom j hj
        rw [List.length_map] at hj
        obtain ⟨b1, o1, e, _, _, _, ht⟩ := hO.row _ rfl (by omega)
        injection e with e1 e2
        subst e1; subst e2
        rw [Nat.mul_one, Nat.add_assoc]
        exact ht (l.length + j) (by omega)
      · intro hroom
        rw [Nat.mul_one]
        have hkb : Kept w (w.setCells yb (yo + l.length) (b.map bv)) (Lies (some ⟨yb, yo, none⟩) d) := by
          refine ⟨World.os_setCells .., ?_, World.output_setCells .., ?_, fun k hk hn => ?_⟩
          · exact tape_sets _ _ _ _
          · exact Nat.le_of_eq (size_sets _ _ _ _).symm
          · by_cases hd : 0 < d
            · exact World.heap_setCells_other w _ _ _ hk (fun e => hn ⟨_, rfl, hd, e.symm⟩)
            · have : b = [] := List.eq_nil_of_length_eq_zero (by omega)
              subst this
              rfl
        refine h (some ⟨yb, yo, none⟩) d _ ⟨by simpa using hroom, hO.big, fun hh => by simp at hh, fun x hx => (by cases hx; rfl), fun x hx hd => ?_⟩ hkb (fun k hk => .inl hk)
        cases hx
        obtain ⟨b1, o1, e, _, hlt, hr, ht⟩ := hO.row _ rfl hd
        injection e with e1 e2
        subst e1; subst e2
        refine ⟨yb, yo, rfl, Nat.zero_le _, Nat.lt_of_lt_of_le hlt hkb.size, ?_, World.there_setCells ht _ _ _⟩
        have r1 := World.rangeAt_setCells_apart hr yb (yo + l.length) (b.map bv) (.inr (.inl (by simp)))
        have r2 := World.rangeAt_setCells_same w yb (yo + l.length) (b.map bv) (fun j hj => by
          rw [List.length_map] at hj
          rw [Nat.add_assoc]
          exact ht _ (by omega))
        intro j v hv
        rw [List.map_append] at hv
        by_cases hj : j < l.length
        · rw [List.getElem?_append_left (by simpa using hj)] at hv
          exact r1 j v hv
        · rw [List.getElem?_append_right (by simp; omega), List.length_map] at hv
          have := r2 (j - l.length) v hv
          rwa [show yo + l.length + (j - l.length) = yo + j from by omega] at this
      · intro hfull v' w' hown hg
        obtain ⟨q', d', rfl⟩ := own_slice hown
        rw [← List.map_append] at hown
        have hlen : l.length + b.length = (l ++ b).length := by simp
        rw [hlen] at hown ⊢
        have hbel := (Below.refl _ w).grown hg (Nat.le_refl _) (fun _ h => by cases h)
        have := h q' d' w' (OR.of_own hown).weak (Kept.of_below hbel) (fun k hk => .inr (lies_of_own hown k hk))
        rwa [hlen] at this
end Go.Proofs.Ytkcijbljgcgdmaa
