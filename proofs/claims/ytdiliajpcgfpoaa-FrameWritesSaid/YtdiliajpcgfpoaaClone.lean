/- The walks of slices.Clone of bytes, keys.Next, the laws' small. -/
import Derived.Test.YtdiliajpcgfpoaaBase
namespace Go.Proofs.Ytdiliajpcgfpoaa
open Go.RowKit

theorem info5 : (Try.prog.info? 5).map (fun i => (i.zero, i.size, i.bytes)) = some (some (.int .u8 0), 1, 1) := by kernel_rfl

/-- A row of the call's own reads as bytes. -/
theorem IsB.own {w : World} {base : Nat} {e : TypeId} {p : Option Addr} {c : Nat} {l : List UInt8} (h : w.ownsRow base e 1 (.slice p l.length c) l.length (l.map bv)) : IsB w p c l := by
  rcases h.2 with ⟨hv, hn⟩ | ⟨g, cap, cur, hv, hg, hh, hnc, hcm, hcs, ht⟩
  · injection hv with h1 h2 h3
    subst h1; subst h3
    obtain rfl : l = [] := List.eq_nil_of_length_eq_zero hn
    exact IsB.none_ w
  · injection hv with h1 h2 h3
    subst h1; subst h3
    refine ⟨hnc, fun h => by simp at h, hcm, fun _ => ⟨g, 0, rfl, ?_, fun i x hx => ?_⟩⟩
    · rcases Nat.lt_or_ge g w.heap.size with h | h
      · exact h
      · rw [Array.getElem?_eq_none h] at hh; cases hh
    · have := h.cells (g := g) rfl i (bv x) (by simp [hx])
      simpa [Addr.add_lit] using this

/-- What slices.Clone hands back: a row of the call's own, nil just where it came in so. -/
structure Cloned (w w' : World) (p : Option Addr) (v : Value) (l : List UInt8) : Prop where
  own : w'.ownsRow w.heap.size 5 1 v l.length (l.map bv)
  below : Below w.heap.size w w'

theorem own_slice {w : World} {base : Nat} {e : TypeId} {s n : Nat} {v : Value} {xs : List Value} (h : w.ownsRow base e s v n xs) : ∃ p c, v = .slice p n c := by
  rcases h.2 with ⟨rfl, rfl⟩ | ⟨g, cap, cur, rfl, _⟩
  · exact ⟨_, _, rfl⟩
  · exact ⟨_, _, rfl⟩

theorem cell?_alloc_some' {w : World} {a : Addr} {v : Value} (o : Obj) (h : w.cell? a = some v) : (w.alloc o).cell? a = some v := by
  rw [World.cell?_alloc_lt w o a (World.block_lt_of_cell? w a h)]; exact h

set_option maxHeartbeats 1000000 in
set_option maxRecDepth 100000 in
theorem clone (w : World) {p : Option Addr} {c : Nat} {l : List UInt8} (h : IsB w p c l) (hl : l.length ≤ 140737488355328) :
    Calls Try.prog 24 #[.slice p l.length c] w fun e w' => ∃ v, e = .returned v ∧ Cloned w w' p v l := by
  have q22 : ∀ (w : World) (a : Option Addr) (n c n' c' : Nat), (binOp .eql 23 (.slice a n c) (.slice none n' c')).run Try.prog w = .ok (.bool a.isNone) w := fun w a n c n' c' => Lib.run_eql_slice_nil w _ _ a n c n' c' Try.underlying23
  have H := Lib.hid h
  rcases p with _ | ad
  · obtain rfl : l = [] := List.eq_nil_of_length_eq_zero (by have := h.cap; have := h.nil rfl; omega)
    clear h
    go_enter Try.func24, Try.ntmps24
    go_wp2
    go_ret
    exact ⟨_, rfl, World.ownsRow_nil _ _ _ _, Below.refl _ _⟩
  · clear h
    obtain ⟨i0, hi, hz0, hz1, hz2⟩ := info_parts info5
    go_enter Try.func24, Try.ntmps24
    go_wp2_with (at_builtin; refine wpList_append_own _ rfl _ _ 23 rfl w.heap.size 5 i0 (.int .u8 0) 1 1 Try.underlying23 hi hz0 hz1 hz2 rfl (by decide) _ _ _ rfl (World.ownsRow_made w #[] 0 (Nat.le_refl _) (Nat.zero_le _) rfl) ad l.length c (l.map bv) rfl ?qc1 ?qc2 ?qc3 ?qc4 ?qc5 ?qc6 ?_)
    case qc1 => simp
    case qc2 =>
      intro j u hj
      rw [List.getElem?_map, Option.map_eq_some_iff] at hj
      obtain ⟨x, hx, rfl⟩ := hj
      obtain ⟨b, o, hp, _, hc⟩ := H.out.cells (by have := (List.getElem?_eq_some_iff.1 hx).1; omega)
      obtain rfl := Option.some.inj hp
      refine cell?_alloc_some' _ ?_
      rw [Addr.add_lit]
      exact hc j x hx
    case qc3 => intro u hu; obtain ⟨x, _, rfl⟩ := List.mem_map.1 hu; rfl
    case qc4 => unfold maxLen; omega
    case qc5 => omega
    case qc6 => simp
    intro v' w1 hown hgrow hnil
    go_wp2
    go_ret
    exact ⟨v', rfl, by simpa using hown, ((Below.refl _ w).alloc (Nat.le_refl _) _).grown hgrow (by simp) (by intro k hk; simp [Value.ownBlock] at hk; omega)⟩
end Go.Proofs.Ytdiliajpcgfpoaa
