/- append of bytes onto a row of the call's own, whatever slice the source is. -/
import Derived.Test.YtdiliajpcgfpoaaClone
import Derived.Laws.AppendOwnNone
namespace Go.Proofs.Ytdiliajpcgfpoaa
open Go.RowKit

theorem wp_append_bytes (w : World) {ops : Array Oper} {rest : List Oper} {o : Oper} {a : Act} {Q : Exit → Act → World → Prop} (hgd : o.guard = none) (s x : Operand)
    (ho : o.op = .call { callee := .builtin .append, args := #[s, x], argTypes := #[23, 23] })
    (base : Nat) (v : Value) (n : Nat) (xs : List Value) (hs : a.eval s = v) (hown : w.ownsRow base 5 1 v n xs) (hbase : base ≤ w.heap.size)
    {p : Option Addr} {c : Nat} {l : List UInt8} (hB : IsB w p c l) (m : Nat) (hm : m = l.length) (hx : a.eval x = .slice p m c)
    (hbytes : n + l.length ≤ 140737488355328)
    (h : ∀ v' w', w'.ownsRow base 5 1 v' (n + m) (xs ++ l.map bv) → Below base w w' → wpList Try.prog ops Q rest (a.put o.dst v') w') : wpList Try.prog ops Q (o :: rest) a w := by
  obtain ⟨i0, hi, hz0, hz1, hz2⟩ := info_parts info5
  subst hm
  rcases p with _ | ad
  · have hc := hB.nil rfl
    have hl : l = [] := List.eq_nil_of_length_eq_zero (by have := hB.cap; omega)
    subst hl; subst hc
    exact wpList_append_own_none hgd s x 23 ho base 5 i0 1 Try.underlying23 hi v n xs hs hown hx (h v w (by simpa using hown) (Below.refl _ _))
  · refine wpList_append_own w hgd s x 23 ho base 5 i0 (.int .u8 0) 1 1 Try.underlying23 hi hz0 hz1 hz2 rfl (by decide) v n xs hs hown ad l.length c (l.map bv) hx (by simp) ?_ ?_ (by unfold maxLen; omega) (by omega) hbase ?_
    · intro j u hj
      rw [List.getElem?_map, Option.map_eq_some_iff] at hj
      obtain ⟨y, hy, rfl⟩ := hj
      obtain ⟨b, o', hp, _, hc⟩ := hB.cells (by have := (List.getElem?_eq_some_iff.1 hy).1; omega)
      obtain rfl := Option.some.inj hp
      rw [Addr.add_lit]
      exact hc j y hy
    · intro u hu; obtain ⟨y, _, rfl⟩ := List.mem_map.1 hu; rfl
    · intro v' w' ho' hg _
      exact h v' w' ho' ((Below.refl _ w).grown hg hbase (fun k hk => (hown.lt k hk).1))
end Go.Proofs.Ytdiliajpcgfpoaa
