/- The walks of trie.New, trie.Put. The walk of pair.Check. A Source's state in memory: bytes of its own, with room behind them; a struct of two fields. The walks of Left, Taken, New. append of bytes onto a source's bytes. The walk of Feed. -/
import Derived.Test.YtmbiiemlepfoaaaGreatDoorBa13
import Derived.Test.YtmbiiemlepfoaaaGreatDoorBa03
import Derived.BigQuiet
import Derived.Test.YtmbiiemlepfoaaaGreatDoorBa01
import Derived.Deep.MidRow
import Derived.Test.YtmbiiemlepfoaaaGreatDoorBa02
import Derived.ArgAppend
import Derived.Deep.Upon

/-! The walks of trie.New, trie.Put. -/
namespace Go.Proofs.YtmbiiemlepfoaaaGreatDoor
open Go.RowKit
set_option linter.unusedVariables false

set_option maxHeartbeats 4000000 in
set_option maxRecDepth 100000 in
theorem trieNew (w : World) (sv : List Value) (hs : sv.length = 16) (ho : ∀ v ∈ sv, v.oneCell' = true) : Calls Tryz.prog 165 #[.agg sv.toArray] w fun e w' => e = .returned (.agg (sv ++ [Value.nilIface]).toArray) ∧ Below w.heap.size w w' := by
  have hz : sv.toArray.size = 16 := by simpa using hs
  have r0 : (w.alloc (.cells sv.toArray 105)).heap[w.heap.size]? = some (.cells sv.toArray 105) := heap_alloc_new _ _
  have R0 := Lib.hid (range_row r0)
  have hf := fold17 hs .nilIface
  have hl : (sv ++ [Value.nilIface]).length = 17 := by simp [hs]
  have h1 : (sv ++ [Value.nilIface]).toArray.all (·.oneCell') = true := all_oneCell_toArray (fun v hv => by
    rcases List.mem_append.1 hv with h | h
    · exact ho v h
    · simp at h; subst h; rfl)
  go_enter Tryz.func165, Tryz.ntmps165
  go_wp2_with first
    | (refine wpList_load105 rfl _ rfl _ 0 rfl sv (World.rangeAt_alloc R0.out _) hs ?_)
    | (refine wpList_store_row rfl 110 _ _ rfl (w.heap.size + 1) rfl (sv ++ [Value.nilIface]).toArray rfl 110 _ (heap_alloc2_new _ _ _) (by rw [info_110]; simp [hs]) (by simp [hs]) h1 ?_)
  refine bodyPost_ret (results_row1 rfl _ _ (w.heap.size + 1) 110 (sv ++ [Value.nilIface]) (0, 0) rfl (setRow_heap _ _ _ _ 110 (0, 0) (heap_alloc2_new _ _ _)) row_110 (by rw [info_110, hl])) rfl ⟨rfl, ?_⟩
  exact below_setRow (((Below.refl _ w).alloc (Nat.le_refl _) _).alloc (by simp) _) (by omega) _

/-- A trie's cells. -/
structure IsTrie (w : World) (D : Nat → Prop) (s : List UInt8) (n : Option N) (cv : List Value) : Prop where
  len : s.length = 16
  root : ∃ x, cv = s.map bv ++ [x] ∧ NodeAt w D n x
theorem NodeAt.keep_row {w : World} {D : Nat → Prop} {n : N} {v : Value} {g : Nat} {cs cs' : Array Value} {t : TypeId} {fr : Nat × Nat} (h : N.At w D n v) (hr : w.heap[g]? = some (.cells cs t fr)) (hg : ¬ D g) : N.At (w.setRow g cs') D n v :=
  N.At.keep (by rw [setRow_size]; exact Nat.le_refl _) (fun k _ hd => setRow_other (fun e => hg (by rw [← e]; exact hd))) h
theorem NodeAt.one {w : World} {D : Nat → Prop} {n : Option N} {x : Value} (h : NodeAt w D n x) : x.oneCell' = true := by
  cases n with
  | none => have h : x = .nilIface := h; subst h; rfl
  | some n => obtain ⟨b, rfl, _⟩ := N.At.form (show N.At w D n x from h); rfl
theorem bv_one (s : List UInt8) : ∀ v ∈ s.map bv, v.oneCell' = true := fun v hv => by
  obtain ⟨x, _, rfl⟩ := List.mem_map.1 hv; rfl
theorem trieNew' (w : World) (D : Nat → Prop) (s : List UInt8) (hs : s.length = 16) : Calls Tryz.prog 165 #[.agg (s.map bv).toArray] w fun e w' => ∃ cv, e = .returned (.agg cv.toArray) ∧ IsTrie w' D s none cv ∧ Below w.heap.size w w' :=
  (trieNew w (s.map bv) (by simpa using hs) (bv_one s)).mono fun e w' ⟨he, hb⟩ => ⟨_, he, ⟨hs, _, rfl, rfl⟩, hb⟩

set_option maxHeartbeats 4000000 in
set_option maxRecDepth 100000 in
theorem triePut (w : World) (D : Nat → Prop) (hD : ∀ j, w.heap.size ≤ j → D j) {mb : Option Nat} (ho : Off D mb) (hm2 : mb ≠ some 2) {vi c : Nat} (hm : Met w mb vi c) {kp vp : Option Addr} {kc vc : Nat} {k v : List UInt8} (hi : InP w mb kp vp kc vc k v) {n : Option N} {s : List UInt8} {cv : List Value} (ht : IsTrie w D s n cv) (hf : fitO n)
    (hvi : vi < 999980000000) (hci : c < 999980000000) (h2 : 2 < w.heap.size) (hT : TabAt 2 Lib.deBruijn32tab w) (hS : StartAt w) (hm0 : mb ≠ some 0) :
    Calls Tryz.prog 92 #[.agg cv.toArray, pairV kp kc k vp vc v, .pointer (mptr mb)] w fun e w' => ∃ cv', e = .returned (.tuple #[.agg cv'.toArray, .bool (intoO (hashM s k) k v n 0).2]) ∧ IsTrie w' D s (some (intoO (hashM s k) k v n 0).1) cv' ∧
      Met w' mb (vi + (intoSO (hashM s k) k n 0).1) (c + (intoSO (hashM s k) k n 0).2) ∧ w.grownBy w' mb := by
  obtain ⟨x, rfl, hx⟩ := ht.root
  have hs := ht.len
  have hh := hashM_lt s k
  obtain ⟨W3, hW3⟩ : ∃ W, W = ((w.alloc (.cells (s.map bv ++ [x]).toArray 110)).alloc (.cells #[.slice kp k.length kc, .slice vp v.length vc] 61)).alloc (.cells #[.int .u8 0, .int .u8 0, .int .u8 0, .int .u8 0, .int .u8 0, .int .u8 0, .int .u8 0, .int .u8 0, .int .u8 0, .int .u8 0, .int .u8 0, .int .u8 0, .int .u8 0, .int .u8 0, .int .u8 0, .int .u8 0, .nilIface] 110) := ⟨_, rfl⟩
  have hB : Below w.heap.size w W3 := by rw [hW3]; exact (((Below.refl _ w).alloc (Nat.le_refl _) _).alloc (by simp) _).alloc (by simp; omega) _
  have r0 : W3.heap[w.heap.size]? = some (.cells (s.map bv ++ [x]).toArray 110) := by rw [hW3, Below.heap_alloc _ _ _ (by simp; omega)]; exact heap_alloc2_old _ _ _
  have r1 : W3.heap[w.heap.size + 1]? = some (.cells #[.slice kp k.length kc, .slice vp v.length vc] 61) := by rw [hW3, Below.heap_alloc _ _ _ (by simp)]; exact heap_alloc2_new _ _ _
  have r2 : W3.heap[w.heap.size + 1 + 1]? = some (.cells #[.int .u8 0, .int .u8 0, .int .u8 0, .int .u8 0, .int .u8 0, .int .u8 0, .int .u8 0, .int .u8 0, .int .u8 0, .int .u8 0, .int .u8 0, .int .u8 0, .int .u8 0, .int .u8 0, .int .u8 0, .int .u8 0, .nilIface] 110) := by
    have := heap_alloc_new ((w.alloc (.cells (s.map bv ++ [x]).toArray 110)).alloc (.cells #[.slice kp k.length kc, .slice vp v.length vc] 61)) (.cells #[.int .u8 0, .int .u8 0, .int .u8 0, .int .u8 0, .int .u8 0, .int .u8 0, .int .u8 0, .int .u8 0, .int .u8 0, .int .u8 0, .int .u8 0, .int .u8 0, .int .u8 0, .int .u8 0, .int .u8 0, .int .u8 0, .nilIface] 110)
    rw [hW3]
    simpa using this
  have hml := hm.lt
  have n0 : mb ≠ some w.heap.size := fun e => by have := hml _ e; omega
  have n1 : mb ≠ some (w.heap.size + 1) := fun e => by have := hml _ e; omega
  have n2 : mb ≠ some (w.heap.size + 1 + 1) := fun e => by have := hml _ e; omega
  have hgB := grown_of_below hB mb
  have up : ∀ w', W3.grownBy w' mb → w.grownBy w' mb := fun w' hg => grown_trans hgB hg
  have HC := Lib.hid (show ∀ w', W3.grownBy w' mb → ((w'.rangeAt w.heap.size 0 (s.map bv) ∧ w'.cell? ⟨w.heap.size, 16, none⟩ = some x) ∧ w'.cell? ⟨w.heap.size + 1, 0, none⟩ = some (.slice kp k.length kc) ∧ w'.cell? ⟨w.heap.size + 1, 1, none⟩ = some (.slice vp v.length vc)) from fun w' hg => by
    have h0 := range_row (grown_row hg r0 n0)
    have h1 := grown_row hg r1 n1
    refine ⟨⟨fun j y hy => h0 j y (by rw [List.getElem?_append_left (List.getElem?_eq_some_iff.1 hy).1]; exact hy), ?_⟩, cell_of_row w' _ 0 _ _ (0, 0) h1, cell_of_row w' _ 1 _ _ (0, 0) h1⟩
    have := h0 16 x (by rw [List.getElem?_append_right (by simp [hs])]; simp [hs])
    simpa using this)
  have CHa := Lib.hid (show ∀ w', W3.grownBy w' mb → Calls Tryz.prog 166 #[.agg (s.map bv).toArray, .slice kp k.length kc] w' _ from fun w' hg => sipHash w' s k hs (hS.keep ((up w' hg).block 0 (by omega) (fun e => hm0 e.symm))) (Nat.lt_of_lt_of_le (by omega : 0 < w.heap.size) (up w' hg).size) (hi.grown (up w' hg)).ik.b (by have := hi.kl; omega))
  have hs3 : W3.heap.size = w.heap.size + 3 := by rw [hW3]; simp
  have ho' : Off (fun j => D j ∧ j ≠ w.heap.size + 1 + 1) mb := fun b hb h => ho b hb h.1
  have hx' : NodeAt w (fun j => D j ∧ j ≠ w.heap.size + 1 + 1) n x := hx.mono fun j hj hd => ⟨hd, by omega⟩
  have CG := Lib.hid (show ∀ w', W3.grownBy w' mb → Met w' mb vi c → Calls Tryz.prog 55 #[x, .int .u64 (hashM s k : Int), pairV kp kc k vp vc v, .pointer (mptr mb)] w' _ from fun w' hg hmm => graftPut w' (fun j => D j ∧ j ≠ w.heap.size + 1 + 1) (fun j hj => ⟨hD j (Nat.le_trans (up w' hg).size hj), by have := hg.size; omega⟩) ho' hm2 hmm (hi.grown (up w' hg)) (hx'.grown ho' (up w' hg)) hf hh hvi hci (Nat.lt_of_lt_of_le h2 (up w' hg).size) (tab_grown hT h2 hm2 (up w' hg)))
  have HM := Lib.hid (hm.below hB)
  have hu105 := und_105
  have hi105 : (Tryz.prog.info? 105).map (·.size) = some (s.map bv).length := by rw [info_105]; simp [hs]
  go_enter Tryz.func92, Tryz.ntmps92
  go_wp2_with fail
  rw [← hW3]
  clear hW3
  have hg0 := grown_dr W3 mb
  go_region_held3 (fun w' => (w'.rangeAt w.heap.size 0 (s.map bv) ∧ w'.cell? ⟨w.heap.size, 16, none⟩ = some x) ∧ w'.cell? ⟨w.heap.size + 1, 0, none⟩ = some (.slice kp k.length kc) ∧ w'.cell? ⟨w.heap.size + 1, 1, none⟩ = some (.slice vp v.length vc))
    (first | exact HC.out _ (by assumption) | fail)
    (first | (go_at_call 166; ((with_reducible refine (CHa.out _ hg0).mono ?_)); rintro e w5 ⟨rfl, hb5⟩; have HB5 := Lib.hid hb5; have hg5 := grown_step hg0 (grown_of_below hb5 mb); clear hb5) | (go_at_call 55; ((with_reducible refine (CG.out _ hg5 (HM.out.dr.below HB5.out)).mono ?_)); rintro e w6 ⟨t6, a6, rfl, hn6, hm6, hg6⟩; have HN6 := Lib.hid hn6; have HM6 := Lib.hid hm6; have hg6' := grown_step hg5 hg6; clear hn6 hm6) | fail)
  have hf17 := fold17 (sv := s.map bv) (by simpa using hs) .nilIface
  have R6 := Lib.hid (HC.out _ hg6').1.1
  have R2 := Lib.hid (grown_row hg6' r2 n2)
  have hl1 : (s.map bv ++ [ifp t6 a6]).length = 17 := by simp [hs]
  have h1 : (s.map bv ++ [ifp t6 a6]).toArray.all (·.oneCell') = true := all_oneCell_toArray (fun v hv => by
    rcases List.mem_append.1 hv with h | h
    · exact bv_one s v h
    · simp at h; subst h; rfl)
  go_wp2_with first
    | (refine wpList_load105 rfl _ rfl _ 0 rfl (s.map bv) R6.out (by simpa using hs) ?_)
    | (refine wpList_store_row rfl 110 _ _ rfl (w.heap.size + 1 + 1) rfl (s.map bv ++ [ifp t6 a6]).toArray rfl 110 _ R2.out (by rw [info_110]; simp [hs]) (by simp [hs]) h1 ?_)
  refine bodyPost_ret (results_row2 rfl _ _ (w.heap.size + 1 + 1) 110 (s.map bv ++ [ifp t6 a6]) (0, 0) rfl (setRow_heap _ _ _ _ 110 (0, 0) R2.out) row_110 (by rw [info_110, hl1])) rfl ⟨_, rfl, ⟨hs, _, rfl, ?_⟩, ?_, ?_⟩
  · exact (NodeAt.keep_row HN6.out R2.out (fun h => h.2 rfl)).mono fun j _ h => h.1
  · exact fun b hb => (setRow_other (fun e => n2 (by rw [hb, e]))).trans (HM6.out b hb)
  · have h := up _ hg6'
    exact ⟨h.os, h.tape, h.output, by rw [setRow_size]; exact h.size, fun j hj hne => (setRow_other (by omega)).trans (h.block j hj hne)⟩
end Go.Proofs.YtmbiiemlepfoaaaGreatDoor

/-! The walk of pair.Check. -/
namespace Go.Proofs.YtmbiiemlepfoaaaGreatDoor
open Go.RowKit
set_option linter.unusedVariables false

def checkE (k v : List UInt8) : Nat := if 65536 < k.length ∨ 65536 < v.length then 4 else 0
set_option maxHeartbeats 1000000 in
set_option maxRecDepth 100000 in
theorem pairCheck (w : World) (kp vp : Option Addr) (kc vc : Nat) (k v : List UInt8) :
    Calls Tryz.prog 164 #[pairV kp kc k vp vc v] w fun e w' => e = .returned (.int .i64 (checkE k v : Int)) ∧ Below w.heap.size w w' := by
  have hb := (Below.refl _ w).alloc (Nat.le_refl _) (.cells #[.slice kp k.length kc, .slice vp v.length vc] 61)
  by_cases h1 : 65536 < k.length
  · have e : checkE k v = 4 := by unfold checkE; rw [if_pos (.inl h1)]
    have g1 : (65536 : Int) < (k.length : Int) := by omega
    rw [e]
    clear e
    go_enter Tryz.func164, Tryz.ntmps164
    go_wp2
    go_ret
    exact ⟨rfl, hb⟩
  · have g1 : ¬ (65536 : Int) < (k.length : Int) := by omega
    by_cases h2 : 65536 < v.length
    · have e : checkE k v = 4 := by unfold checkE; rw [if_pos (.inr h2)]
      have g2 : (65536 : Int) < (v.length : Int) := by omega
      rw [e]
      clear e
      go_enter Tryz.func164, Tryz.ntmps164
      go_wp2
      go_ret
      exact ⟨rfl, hb⟩
    · have e : checkE k v = 0 := by unfold checkE; rw [if_neg (by omega)]
      have g2 : ¬ (65536 : Int) < (v.length : Int) := by omega
      rw [e]
      clear e
      go_enter Tryz.func164, Tryz.ntmps164
      go_wp2
      go_ret
      exact ⟨rfl, hb⟩
end Go.Proofs.YtmbiiemlepfoaaaGreatDoor

/-! A Source's state in memory: bytes of its own, with room behind them; a struct of two fields. -/
namespace Go.Proofs.YtmbiiemlepfoaaaGreatDoor
open Go.RowKit

theorem row_lt {w : World} {b : Nat} {o : Obj} (h : w.heap[b]? = some o) : b < w.heap.size := by
  rcases Nat.lt_or_ge b w.heap.size with h1 | h1
  · exact h1
  · rw [Array.getElem?_eq_none h1] at h; cases h
theorem cell_same {w w2 : World} {a : Addr} (h : w2.heap[a.block]? = w.heap[a.block]?) : w2.cell? a = w.cell? a := by
  unfold World.cell?
  rw [h]
theorem frozen_same {w w2 : World} {a : Addr} (h : w2.heap[a.block]? = w.heap[a.block]?) : w2.frozen? a = w.frozen? a := by
  unfold World.frozen?
  rw [h]

/-- Bytes in a block of the call's own (from B on), the cells of the capacity there and free. -/
structure OR (w : World) (B : Nat) (q : Option Addr) (d : Nat) (l : List UInt8) : Prop where
  cap : l.length ≤ d
  big : d ≤ maxLen
  nil : q = none → d = 0
  form : ∀ x, q = some x → x.spot = none
  row : ∀ x, q = some x → 0 < d → ∃ b o, x = ⟨b, o, none⟩ ∧ B ≤ b ∧ b < w.heap.size ∧ w.rangeAt b o (l.map bv) ∧ w.there b o d
theorem OR.isB {w : World} {B : Nat} {q : Option Addr} {d : Nat} {l : List UInt8} (h : OR w B q d l) : IsB w q d l :=
  ⟨h.cap, h.nil, h.big, fun hl => by
    have hd : 0 < d := Nat.lt_of_lt_of_le hl h.cap
    rcases q with _ | x
    · have := h.nil rfl; omega
    · obtain ⟨b, o, rfl, _, hb, hr, _⟩ := h.row x rfl hd
      exact ⟨b, o, rfl, hb, fun i y hy => hr i (bv y) (by simp [hy])⟩⟩
theorem OR.none_ (w : World) (B : Nat) : OR w B none 0 [] := ⟨Nat.le_refl _, Nat.zero_le _, fun _ => rfl, fun x hx => (by cases hx), fun x hx => (by cases hx)⟩
theorem OR.of_own {w : World} {B : Nat} {q : Option Addr} {d : Nat} {l : List UInt8} (h : w.ownsRow B 5 1 (.slice q l.length d) l.length (l.map bv)) : OR w B q d l := by
  rcases h.2 with ⟨hv, hn⟩ | ⟨g, cap, cur, hv, hg, hh, hnc, hcm, hcs, ht⟩
  · injection hv with h1 h2 h3
    subst h1; subst h3
    obtain rfl : l = [] := List.eq_nil_of_length_eq_zero hn
    exact OR.none_ w B
  · injection hv with h1 h2 h3
    subst h1; subst h3
    refine ⟨hnc, hcm, fun h => by simp at h, fun x hx => (by cases hx; rfl), fun x hx hd => ⟨g, 0, (Option.some.inj hx).symm, hg, row_lt hh, fun j v hv => ?_, fun j hj => ⟨?_, ?_⟩⟩⟩
    · rw [Nat.zero_add, h.cellAt j (by have := (List.getElem?_eq_some_iff.1 hv).1; simp at this; omega)]
      exact hv
    · rw [Nat.zero_add, cell_of_row w g j cur _ (0, 0) hh]
      rw [Array.getElem?_eq_getElem (by omega)]
      rfl
    · rw [Nat.zero_add]
      exact h.frozenAt j
/-- Blocks that are the same hold the same bytes. -/
theorem OR.same {w w2 : World} {B : Nat} {q : Option Addr} {d : Nat} {l : List UInt8} (h : OR w B q d l) (hs : w.heap.size ≤ w2.heap.size) (hk : ∀ x, q = some x → 0 < d → w2.heap[x.block]? = w.heap[x.block]?) : OR w2 B q d l :=
  ⟨h.cap, h.big, h.nil, h.form, fun x hx hd => by
    obtain ⟨b, o, rfl, hB, hb, hr, ht⟩ := h.row x hx hd
    have hh : w2.heap[b]? = w.heap[b]? := hk _ hx hd
    exact ⟨b, o, rfl, hB, Nat.lt_of_lt_of_le hb hs, fun j v hv => (cell_same (a := ⟨b, o + j, none⟩) hh).trans (hr j v hv), fun j hj => by
      rw [cell_same (a := ⟨b, o + j, none⟩) hh, frozen_same (a := ⟨b, o + j, none⟩) hh]
      exact ht j hj⟩⟩
theorem OR.below {w w2 : World} {B : Nat} {q : Option Addr} {d : Nat} {l : List UInt8} (h : OR w B q d l) (hb : Below w.heap.size w w2) : OR w2 B q d l :=
  h.same hb.size fun x hx hd => by
    obtain ⟨b, o, rfl, _, hlt, _⟩ := h.row x hx hd
    exact hb.block b hlt
/-- A cut at the front, as the model writes it. -/
theorem OR.drop {w : World} {B : Nat} {q : Option Addr} {d : Nat} {l : List UInt8} (h : OR w B q d l) (k : Nat) (hk : k ≤ l.length) : OR w B (if d = k then q else q.map (·.add k)) (d - k) (l.drop k) := by
  have hc := h.cap
  have hb := h.big
  refine ⟨by rw [List.length_drop]; omega, by omega, fun hn => ?_, fun x hx => ?_, fun x hx hd => ?_⟩
  · split at hn
    · have := h.nil hn; omega
    · have : q = none := by cases q <;> simp_all
      have := h.nil this; omega
  · split at hx
    · exact h.form x hx
    · rcases q with _ | y
      · simp at hx
      · have hy := h.form y rfl
        obtain ⟨b, o, s⟩ := y
        subst hy
        simp [Addr.add_lit] at hx
        subst hx
        rfl
  · rw [if_neg (by omega)] at hx
    rcases q with _ | y
    · simp at hx
    · obtain ⟨b, o, rfl, hB, hlt, hr, ht⟩ := h.row y rfl (by omega)
      simp [Addr.add_lit] at hx
      subst hx
      refine ⟨b, o + k, rfl, hB, hlt, fun j v hv => ?_, fun j hj => ?_⟩
      · rw [List.map_drop, List.getElem?_drop] at hv
        rw [Nat.add_assoc]
        exact hr _ v hv
      · rw [Nat.add_assoc]
        exact ht (k + j) (by omega)

/-- A SOURCE: its block g; what is left of its bytes; how many seeds were taken. All that it lies in is of S; its bytes lie apart from g. -/
def Src (w : World) (S : Nat → Prop) (g : Nat) (l : List UInt8) (t : Nat) : Prop :=
  ∃ q d, w.heap[g]? = some (.cells #[.slice q l.length d, .int .i64 (t : Int)] 189) ∧ OR w 0 q d l ∧ S g ∧ ∀ x, q = some x → 0 < d → x.block ≠ g ∧ S x.block
theorem Src.lt {w : World} {S : Nat → Prop} {g : Nat} {l : List UInt8} {t : Nat} (h : Src w S g l t) : g < w.heap.size := by
  obtain ⟨q, d, h, _⟩ := h; exact row_lt h
theorem Src.mono {w : World} {S S' : Nat → Prop} {g : Nat} {l : List UInt8} {t : Nat} (h : Src w S g l t) (hs : ∀ k, k < w.heap.size → S k → S' k) : Src w S' g l t := by
  obtain ⟨q, d, h1, h2, h3, h4⟩ := h
  refine ⟨q, d, h1, h2, hs _ (row_lt h1) h3, fun x hx hd => ⟨(h4 x hx hd).1, hs _ ?_ (h4 x hx hd).2⟩⟩
  obtain ⟨b, o, rfl, _, hlt, _⟩ := h2.row x hx hd
  exact hlt
/-- Nothing but blocks of T has changed, and new ones. -/
structure Kept (w w' : World) (T : Nat → Prop) : Prop where
  os : w'.os = w.os
  tape : w'.tape = w.tape
  output : w'.output = w.output
  size : w.heap.size ≤ w'.heap.size
  block : ∀ k, k < w.heap.size → ¬ T k → w'.heap[k]? = w.heap[k]?
theorem Kept.of_below {w w' : World} {T : Nat → Prop} (h : Below w.heap.size w w') : Kept w w' T := ⟨h.os, h.tape, h.output, h.size, fun k hk _ => h.block k hk⟩
theorem Kept.to_below {w w' : World} {T : Nat → Prop} {B : Nat} (h : Kept w w' T) (hT : ∀ k, T k → B ≤ k) (hB : B ≤ w.heap.size) : Below B w w' :=
  ⟨h.os, h.tape, h.output, h.size, fun k hk => h.block k (by omega) (fun ht => by have := hT k ht; omega)⟩
theorem Kept.mono {w w' : World} {T T' : Nat → Prop} (h : Kept w w' T) (ht : ∀ k, T k → T' k) : Kept w w' T' := ⟨h.os, h.tape, h.output, h.size, fun k hk hn => h.block k hk (fun hh => hn (ht k hh))⟩
theorem Kept.trans {w w1 w2 : World} {T : Nat → Prop} (h : Kept w w1 T) (h' : Kept w1 w2 T) : Kept w w2 T :=
  ⟨h'.os.trans h.os, h'.tape.trans h.tape, h'.output.trans h.output, Nat.le_trans h.size h'.size, fun k hk hn => (h'.block k (Nat.lt_of_lt_of_le hk h.size) hn).trans (h.block k hk hn)⟩
/-- What lies apart from what has changed stands. -/
theorem Src.kept {w w2 : World} {S T : Nat → Prop} {g : Nat} {l : List UInt8} {t : Nat} (h : Src w S g l t) (hk : Kept w w2 T) (hd : ∀ k, S k → ¬ T k) : Src w2 S g l t := by
  obtain ⟨q, d, h1, h2, h3, h4⟩ := h
  refine ⟨q, d, (hk.block g (row_lt h1) (hd g h3)).trans h1, h2.same hk.size fun x hx hd' => ?_, h3, h4⟩
  obtain ⟨b, o, rfl, _, hlt, _⟩ := h2.row x hx hd'
  exact hk.block b hlt (hd b (h4 _ hx hd').2)
theorem Src.below {w w2 : World} {S : Nat → Prop} {g : Nat} {l : List UInt8} {t : Nat} (h : Src w S g l t) (hb : Below w.heap.size w w2) : Src w2 S g l t :=
  h.kept (T := fun _ => False) (Kept.of_below hb) (fun _ _ hf => hf)
theorem Src.cells {w : World} {S : Nat → Prop} {g : Nat} {l : List UInt8} {t : Nat} (h : Src w S g l t) : ∃ q d, w.cell? ⟨g, 0, none⟩ = some (.slice q l.length d) ∧ w.cell? ⟨g, 1, none⟩ = some (.int .i64 (t : Int)) ∧
    w.frozen? ⟨g, 0, none⟩ = false ∧ w.frozen? ⟨g, 1, none⟩ = false ∧ OR w 0 q d l ∧ S g ∧ ∀ x, q = some x → 0 < d → x.block ≠ g ∧ S x.block := by
  obtain ⟨q, d, h1, h2, h3, h4⟩ := h
  exact ⟨q, d, cell_of_row w g 0 _ _ (0, 0) h1, cell_of_row w g 1 _ _ (0, 0) h1, frozen_of_row w g 0 _ _ h1, frozen_of_row w g 1 _ _ h1, h2, h3, h4⟩
end Go.Proofs.YtmbiiemlepfoaaaGreatDoor

/-! The walks of Left, Taken, New. -/
namespace Go.Proofs.YtmbiiemlepfoaaaGreatDoor
open Go.RowKit

set_option maxRecDepth 100000 in
theorem srcLeft (w : World) {S : Nat → Prop} {g : Nat} {l : List UInt8} {t : Nat} (h : Src w S g l t) : Calls Tryz.prog 40 #[.pointer (some ⟨g, 0, none⟩)] w fun en w' => en = .returned (.int .i64 (l.length : Int)) ∧ w = w' := by
  obtain ⟨q, d, c0, c1, f0, f1, _⟩ := h.cells
  clear h
  go_enter Tryz.func40, Tryz.ntmps40
  go_wp2
  go_ret
  exact ⟨rfl, rfl⟩
theorem IsB.front {w : World} {p : Option Addr} {c : Nat} {l : List UInt8} (h : IsB w p c l) (m : Nat) (hm : m ≤ l.length) : IsB w p c (l.take m) :=
  ⟨by rw [List.length_take]; have := h.cap; omega, h.nil, h.big, fun hl => by
    rw [List.length_take] at hl
    obtain ⟨b, o, hp, hb, hc⟩ := h.cells (by omega)
    refine ⟨b, o, hp, hb, fun i x hx => hc i x ?_⟩
    rw [List.getElem?_take] at hx
    split at hx
    · exact hx
    · cases hx⟩

/-- What New hands back. -/
structure NewS (w w' : World) (g : Nat) (l : List UInt8) : Prop where
  src : Src w' (fun k => w.heap.size ≤ k) g l 0
  below : Below w.heap.size w w'
theorem new_tail {w w1 : World} {q : Option Addr} {d : Nat} {l : List UInt8} (hown : w1.ownsRow w.heap.size 5 1 (.slice q l.length d) l.length (l.map bv)) (hbel : Below w.heap.size w w1) :
    NewS w (w1.alloc (.cells #[.slice q l.length d, .int .i64 0] 189)) w1.heap.size l := by
  have hs := hbel.size
  have ho := (OR.of_own hown)
  refine ⟨⟨q, d, heap_alloc_new w1 _, ⟨ho.cap, ho.big, ho.nil, ho.form, ?_⟩, hs, fun x hx hd => ?_⟩, hbel.alloc hs _⟩
  · intro x hx hd
    obtain ⟨b, o, h1, h2, h3, h4⟩ := (ho.below ((Below.refl _ w1).alloc (Nat.le_refl _) _)).row x hx hd
    exact ⟨b, o, h1, Nat.zero_le _, h3, h4⟩
  · obtain ⟨b, o, rfl, h2, h3, h4⟩ := ho.row x hx hd
    exact ⟨Nat.ne_of_lt h3, h2⟩

set_option maxHeartbeats 1000000 in
set_option maxRecDepth 100000 in
theorem srcNew (w : World) {p : Option Addr} {c : Nat} {l : List UInt8} (h : IsB w p c l) :
    Calls Tryz.prog 30 #[.slice p l.length c] w fun e w' => ∃ g, e = .returned (.pointer (some ⟨g, 0, none⟩)) ∧ NewS w w' g (l.take 16777216) := by
  have hcap := h.cap
  by_cases hl : l.length ≤ 16777216
  · have gl : (l.length : Int) ≤ 16777216 := by omega
    rw [List.take_of_length_le hl]
    have HC := Lib.hid (clone w h (by omega))
    have n1 : (l.length : Int) ≤ (c : Int) := by omega
    clear h
    go_enter Tryz.func30, Tryz.ntmps30
    go_wp2_with fail
    refine HC.out.mono ?_
    rintro e w1 ⟨v, rfl, hown, hbel⟩
    obtain ⟨q, d, rfl⟩ := own_slice hown
    have HT := Lib.hid (new_tail hown hbel)
    clear hown hbel
    go_wp2
    go_ret
    exact ⟨_, rfl, HT.out⟩
  · have gl : ¬ (l.length : Int) ≤ 16777216 := by omega
    have hlen : (l.take 16777216).length = 16777216 := by rw [List.length_take]; omega
    have hc := clone w (h.front 16777216 (by omega)) (by rw [hlen]; omega)
    have HT : Hid (∀ (w1 : World) (q : Option Addr) (d : Nat), w1.ownsRow w.heap.size 5 1 (.slice q 16777216 d) (l.take 16777216).length ((l.take 16777216).map bv) → Below w.heap.size w w1 →
        NewS w (w1.alloc (.cells #[.slice q 16777216 d, .int .i64 0] 189)) w1.heap.size (l.take 16777216)) := fun w1 q d ho hb => by
      have := new_tail (q := q) (d := d) (l := l.take 16777216) (by rw [hlen] at ho ⊢; exact ho) hb
      rw [hlen] at this
      exact this
    generalize hX : l.take 16777216 = X at *
    rw [hlen] at hc
    have HC := Lib.hid hc
    have HL := Lib.hid hlen
    have n1 : (16777216 : Int) ≤ (c : Int) := by omega
    clear h hc hlen hX
    go_enter Tryz.func30, Tryz.ntmps30
    go_wp2_with fail
    refine HC.out.mono ?_
    rintro e w1 ⟨v, rfl, hown, hbel⟩
    have ho := hown
    rw [HL.out] at ho
    obtain ⟨q, d, rfl⟩ := own_slice ho
    have HT1 := Lib.hid (HT.out w1 q d hown hbel)
    clear hown hbel ho HT
    go_wp2
    go_ret
    exact ⟨_, rfl, HT1.out⟩
end Go.Proofs.YtmbiiemlepfoaaaGreatDoor

/-! append of bytes onto a source's bytes. -/
namespace Go.Proofs.YtmbiiemlepfoaaaGreatDoor
open Go.RowKit

theorem size_sets (b : Nat) : ∀ (vs : List Value) (o : Nat) (w : World), (w.setCells b o vs).heap.size = w.heap.size
  | [], _, _ => rfl
  | v :: r, o, w => by rw [World.setCells, size_sets b r]; simp
theorem tape_sets (b : Nat) : ∀ (vs : List Value) (o : Nat) (w : World), (w.setCells b o vs).tape = w.tape
  | [], _, _ => rfl
  | v :: r, o, w => by rw [World.setCells, tape_sets b r]; rfl
theorem OR.weak {w : World} {B : Nat} {q : Option Addr} {d : Nat} {l : List UInt8} (h : OR w B q d l) : OR w 0 q d l :=
  ⟨h.cap, h.big, h.nil, h.form, fun x hx hd => by
    obtain ⟨b, o, h1, _, h3⟩ := h.row x hx hd
    exact ⟨b, o, h1, Nat.zero_le _, h3⟩⟩
/-- The block that a slice's bytes lie in, if they lie in any. -/
def Lies (q : Option Addr) (d : Nat) (k : Nat) : Prop := ∃ x, q = some x ∧ 0 < d ∧ x.block = k
theorem lies_of_own {w : World} {B : Nat} {q : Option Addr} {d n : Nat} {l : List UInt8} (h : w.ownsRow B 5 1 (.slice q n d) n (l.map bv)) : ∀ k, Lies q d k → B ≤ k := fun k ⟨x, hx, _, hk⟩ => by
  subst hx; subst hk
  exact (h.lt _ rfl).1

set_option maxRecDepth 100000 in
theorem wp_append_or (w : World) {ops : Array Oper} {rest : List Oper} {o : Oper} {a : Act} {Q : Exit → Act → World → Prop} (hgd : o.guard = none) (s x : Operand)
    (ho : o.op = .call { callee := .builtin .append, args := #[s, x], argTypes := #[22, 22] })
    {q : Option Addr} {d : Nat} {l : List UInt8} (hO : OR w 0 q d l) (n : Nat) (hn : n = l.length) (hs : a.eval s = .slice q n d)
    {p : Option Addr} {c : Nat} {b : List UInt8} (hB : IsB w p c b) (m : Nat) (hm : m = b.length) (hx : a.eval x = .slice p m c)
    (hbytes : l.length + b.length ≤ 140737488355328)
    (h : ∀ q' d' w', OR w' 0 q' d' (l ++ b) → Kept w w' (Lies q d) → (∀ k, Lies q' d' k → Lies q d k ∨ w.heap.size ≤ k) → wpList Tryz.prog ops Q rest (a.put o.dst (.slice q' (n + m) d')) w') : wpList Tryz.prog ops Q (o :: rest) a w := by
  obtain ⟨i0, hi, hz0, hz1, hz2⟩ := info_parts info5
  subst hm; subst hn
  rcases q with _ | y
  · have hd := hO.nil rfl
    have hl : l = [] := List.eq_nil_of_length_eq_zero (by have := hO.cap; omega)
    subst hl; subst hd
    refine wp_append_bytes w hgd s x ho w.heap.size (.slice none 0 0) 0 [] hs (World.ownsRow_nil w _ _ _) (Nat.le_refl _) hB b.length rfl hx (by omega) fun v' w' hown hbel => ?_
    rw [List.nil_append] at hown
    obtain ⟨q', d', rfl⟩ := own_slice hown
    rw [Nat.zero_add] at hown ⊢
    have := h q' d' w' (by rw [List.nil_append]; exact (OR.of_own hown).weak) (Kept.of_below hbel) (fun k hk => .inr (lies_of_own hown k hk))
    simpa using this
  · rcases p with _ | ad
    · have hc := hB.nil rfl
      have hb0 : b = [] := List.eq_nil_of_length_eq_zero (by have := hB.cap; omega)
      subst hb0; subst hc
      have hcap := hO.cap
      refine wpList_plain hgd fun K hK => ?_
      have hrun : ∀ ty, (Builtin.append_ #[22, 22] ty #[.slice (some y) l.length d, .slice none 0 0]).run Tryz.prog w = .ok (.slice (some y) l.length d) w := fun ty => by
        simp [Builtin.append_, run_underlying Tryz.underlying22, sizeOf, typeInfo, hi, Builtin.lenOf, Builtin.firstCells, hcap, storeCells]
      unfold Oper.wp
      simp [execOp, ho, resolve, invoke, builtin, hs, hx, hrun, Result.andThen]
      exact hK _ _ (h (some y) d w (by simpa using hO) (Kept.of_below (Below.refl _ _)) (fun k hk => .inl hk))
    · obtain ⟨yb, yo, ys⟩ := y
      have hy := hO.form _ rfl
      subst hy
      refine wpList_append_arg w hgd s x 22 ho 5 i0 (.int .u8 0) 1 1 Tryz.underlying22 hi hz0 hz1 hz2 rfl (by decide) yb yo l.length d (l.map bv) hs (by simp) ?_ ad b.length c (b.map bv) hx (by simp) ?_ ?_ ?_ (by unfold maxLen; omega) (by omega) ?_ ?_
      · intro j u hj
        have hjl : j < l.length := by have := (List.getElem?_eq_some_iff.1 hj).1; simpa using this
        obtain ⟨b1, o1, e, _, _, hr, _⟩ := hO.row _ rfl (by have := hO.cap; omega)
        injection e with e1 e2
        subst e1; subst e2
        exact hr j u hj
      · intro j u hj
        rw [List.getElem?_map, Option.map_eq_some_iff] at hj
        obtain ⟨z, hz, rfl⟩ := hj
        obtain ⟨b2, o', hp, _, hc⟩ := hB.cells (by have := (List.getElem?_eq_some_iff.1 hz).1; omega)
        obtain rfl := Option.some.inj hp
        rw [Addr.add_lit]
        exact hc j z hz
      · intro u hu; obtain ⟨z, _, rfl⟩ := List.mem_map.1 hu; rfl
      · intro hroom j hj
        rw [List.length_map] at hj
        obtain ⟨b1, o1, e, _, _, _, ht⟩ := hO.row _ rfl (by omega)
        injection e with e1 e2
        subst e1; subst e2
        rw [Nat.mul_one, Nat.add_assoc]
        exact ht (l.length + j) (by omega)
      · intro hroom
        rw [Nat.mul_one]
        have hkb : Kept w (w.setCells yb (yo + l.length) (b.map bv)) (Lies (some ⟨yb, yo, none⟩) d) := by
          refine ⟨World.os_setCells .., ?_, World.output_setCells .., ?_, fun k hk hn => ?_⟩
          · exact tape_sets _ _ _ _
          · exact Nat.le_of_eq (size_sets _ _ _ _).symm
          · by_cases hd : 0 < d
            · exact World.heap_setCells_other w _ _ _ hk (fun e => hn ⟨_, rfl, hd, e.symm⟩)
            · have : b = [] := List.eq_nil_of_length_eq_zero (by omega)
              subst this
              rfl
        refine h (some ⟨yb, yo, none⟩) d _ ⟨by simpa using hroom, hO.big, fun hh => by simp at hh, fun x hx => (by cases hx; rfl), fun x hx hd => ?_⟩ hkb (fun k hk => .inl hk)
        cases hx
        obtain ⟨b1, o1, e, _, hlt, hr, ht⟩ := hO.row _ rfl hd
        injection e with e1 e2
        subst e1; subst e2
        refine ⟨yb, yo, rfl, Nat.zero_le _, Nat.lt_of_lt_of_le hlt hkb.size, ?_, World.there_setCells ht _ _ _⟩
        have r1 := World.rangeAt_setCells_apart hr yb (yo + l.length) (b.map bv) (.inr (.inl (by simp)))
        have r2 := World.rangeAt_setCells_same w yb (yo + l.length) (b.map bv) (fun j hj => by
          rw [List.length_map] at hj
          rw [Nat.add_assoc]
          exact ht _ (by omega))
        intro j v hv
        rw [List.map_append] at hv
        by_cases hj : j < l.length
        · rw [List.getElem?_append_left (by simpa using hj)] at hv
          exact r1 j v hv
        · rw [List.getElem?_append_right (by simp; omega), List.length_map] at hv
          have := r2 (j - l.length) v hv
          rwa [show yo + l.length + (j - l.length) = yo + j from by omega] at this
      · intro hfull v' w' hown hg
        obtain ⟨q', d', rfl⟩ := own_slice hown
        rw [← List.map_append] at hown
        have hlen : l.length + b.length = (l ++ b).length := by simp
        rw [hlen] at hown ⊢
        have hbel := (Below.refl _ w).grown hg (Nat.le_refl _) (fun _ h => by cases h)
        have := h q' d' w' (OR.of_own hown).weak (Kept.of_below hbel) (fun k hk => .inr (lies_of_own hown k hk))
        rwa [hlen] at this
end Go.Proofs.YtmbiiemlepfoaaaGreatDoor

/-! The walk of Feed. -/
namespace Go.Proofs.YtmbiiemlepfoaaaGreatDoor
open Go.RowKit

/-- What Feed leaves. -/
structure FedS (w w' : World) (S : Nat → Prop) (g : Nat) (l : List UInt8) (t : Nat) : Prop where
  src : Src w' (fun k => S k ∨ w.heap.size ≤ k) g l t
  kept : Kept w w' S
theorem set_b_kept {w : World} {S : Nat → Prop} {g : Nat} (v : Value) (hS : S g) : Kept w (w.setCell ⟨g, 0, none⟩ v) S :=
  ⟨rfl, rfl, rfl, by simp [World.setCell], fun k _ hk => Below.heap_setCell w _ _ k (fun e => hk (by rw [e]; exact hS))⟩

set_option maxHeartbeats 1000000 in
set_option maxRecDepth 100000 in
theorem srcFeed (w : World) {S : Nat → Prop} {g : Nat} {l : List UInt8} {t : Nat} (h : Src w S g l t) {p : Option Addr} {c : Nat} {b : List UInt8} (hB : IsB w p c b) (hfit : l.length + b.length ≤ 16777216) :
    Calls Tryz.prog 202 #[.pointer (some ⟨g, 0, none⟩), .slice p b.length c] w fun e w' => e = .returned (.int .i64 0) ∧ FedS w w' S g (l ++ b) t := by
  obtain ⟨q, d, hrow, hor, hS, hne⟩ := h
  have c0 : w.cell? ⟨g, 0, none⟩ = some (.slice q l.length d) := cell_of_row w g 0 _ _ (0, 0) hrow
  have f0 : w.frozen? ⟨g, 0, none⟩ = false := frozen_of_row w g 0 _ _ hrow
  have g0 : ¬ 16777216 - (l.length : Int) < (b.length : Int) := by omega
  have HOR := Lib.hid hor
  have HB := Lib.hid hB
  have HROW := Lib.hid hrow
  have HS : Hid (S g) := hS
  have HNE := Lib.hid hne
  clear hor hB hrow hS hne
  go_enter Tryz.func202, Tryz.ntmps202
  go_wp2_with (at_builtin; refine wp_append_or _ rfl _ _ rfl HOR.out _ rfl rfl HB.out _ rfl rfl ?rb ?_)
  case rb => omega
  intro q' d' w1 hor1 hk1 hl1
  have hnl : ¬ Lies q d g := fun ⟨x, hx, hd, e⟩ => (HNE.out x hx hd).1 e
  have hg1 : w1.heap[g]? = w.heap[g]? := hk1.block g (row_lt HROW.out) hnl
  have hrow1 := hg1.trans HROW.out
  have k0 : w1.cell? ⟨g, 0, none⟩ = some (.slice q l.length d) := cell_of_row w1 g 0 _ _ (0, 0) hrow1
  have z0 : w1.frozen? ⟨g, 0, none⟩ = false := frozen_of_row w1 g 0 _ _ hrow1
  have hlen : l.length + b.length = (l ++ b).length := by simp
  have hng : ∀ x, q' = some x → 0 < d' → x.block ≠ g ∧ (S x.block ∨ w.heap.size ≤ x.block) := fun x hx hd => by
    rcases hl1 x.block ⟨x, hx, hd, rfl⟩ with ⟨y, hy, hd2, e⟩ | h2
    · rw [← e]
      exact ⟨(HNE.out y hy hd2).1, .inl (HNE.out y hy hd2).2⟩
    · exact ⟨by have := row_lt HROW.out; omega, .inr h2⟩
  have hfin : FedS w (w1.setCell ⟨g, 0, none⟩ (.slice q' (l.length + b.length) d')) S g (l ++ b) t := by
    have hk2 := set_b_kept (w := w1) (S := S) (g := g) (.slice q' (l.length + b.length) d') HS.out
    refine ⟨⟨q', d', ?_, hor1.same hk2.size fun x hx hd => ?_, .inl HS.out, hng⟩, Kept.trans (hk1.mono fun k ⟨x, hx, hd, e⟩ => by rw [← e]; exact (HNE.out x hx hd).2) hk2⟩
    · rw [hlen]
      simp [World.setCell, Array.getElem?_modify, hrow1]
    · exact Below.heap_setCell w1 _ _ _ (fun e => (hng x hx hd).1 e)
  have HF := Lib.hid hfin
  clear hor1 hk1 hl1 hnl hg1 hrow1 hlen hng hfin c0 f0
  go_wp2
  go_ret
  exact ⟨rfl, HF.out⟩

set_option maxHeartbeats 1000000 in
set_option maxRecDepth 100000 in
theorem srcFeedBig (w : World) {S : Nat → Prop} {g : Nat} {l : List UInt8} {t : Nat} (h : Src w S g l t) {p : Option Addr} {c : Nat} {b : List UInt8} (hl : l.length ≤ 16777216) (hfit : 16777216 < l.length + b.length) :
    Calls Tryz.prog 202 #[.pointer (some ⟨g, 0, none⟩), .slice p b.length c] w fun e w' => e = .returned (.int .i64 4) ∧ w = w' := by
  obtain ⟨q, d, hrow, hor, hS, hne⟩ := h
  have c0 : w.cell? ⟨g, 0, none⟩ = some (.slice q l.length d) := cell_of_row w g 0 _ _ (0, 0) hrow
  have g0 : 16777216 - (l.length : Int) < (b.length : Int) := by omega
  clear hor hrow hS hne
  go_enter Tryz.func202, Tryz.ntmps202
  go_wp2
  go_ret
  exact ⟨rfl, rfl⟩
end Go.Proofs.YtmbiiemlepfoaaaGreatDoor
