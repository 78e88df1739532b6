/- The walk of the reference's Entries. The reference's nodes in memory. The reference's Lay: of no entries. The walks of List$1, List: a tree's pairs. -/
import Derived.Test.YtmbiiemlepfoaaaGreatDoorFl15
import Derived.Test.YtmbiiemlepfoaaaGreatDoorFl34
import Derived.Deep.RegionHeld3
import Derived.Test.YtmbiiemlepfoaaaGreatDoorFl16
import Derived.Test.YtmbiiemlepfoaaaGreatDoorFl19
import Derived.Test.YtmbiiemlepfoaaaGreatDoorFl02
import Derived.Test.YtmbiiemlepfoaaaGreatDoorFl06
import Derived.Test.YtmbiiemlepfoaaaGreatDoorFl31
import Derived.OwnWalk

namespace Go.Proofs.YtmbiiemlepfoaaaGreatDoor
open Go.RowKit
set_option linter.unusedVariables false
def entV (H : List UInt8 → Nat) (x : PairT) : List Value := [.int .u64 (H x.1 : Int), .string (str x.1), .string (str x.2)]
def cellsE (H : List UInt8 → Nat) (L : List PairT) : List Value := L.flatMap (entV H)
theorem info238 : (Tryz.prog.info? 238).map (fun i => (i.zero, i.size, i.bytes)) = some (some (.agg #[.int .u64 0, .string ⟨#[]⟩, .string ⟨#[]⟩]), 3, 40) := by kernel_rfl
theorem st140 : SlTy 140 238 3 40 := slTy Tryz.underlying140 info238 rfl (by decide)
theorem ent_one (h : Nat) (a b : List UInt8) : ∀ u ∈ [Value.int .u64 (h : Int), .string (str a), .string (str b)], u.oneCell' = true := by simp [Value.oneCell']
theorem cellsE_append (H : List UInt8 → Nat) (A B : List PairT) : cellsE H (A ++ B) = cellsE H A ++ cellsE H B := by unfold cellsE; rw [List.flatMap_append]
structure IsEs (w : World) (D : Nat → Prop) (H : List UInt8 → Nat) (p : Option Addr) (c : Nat) (L : List PairT) : Prop where
  cap : L.length ≤ c
  nil : p = none → c = 0
  big : c ≤ maxLen
  cells : 0 < L.length → ∃ b o, p = some ⟨b, o, none⟩ ∧ b < w.heap.size ∧ D b ∧ ∀ i x, L[i]? = some x → w.cell? ⟨b, o + i * 3, none⟩ = some (.int .u64 (H x.1 : Int)) ∧ w.cell? ⟨b, o + i * 3 + 1, none⟩ = some (.string (str x.1)) ∧ w.cell? ⟨b, o + i * 3 + 2, none⟩ = some (.string (str x.2))
theorem IsEs.none_ (w : World) (D : Nat → Prop) (H : List UInt8 → Nat) : IsEs w D H none 0 [] := ⟨Nat.le_refl _, fun _ => rfl, Nat.zero_le _, fun h => absurd h (by simp)⟩
theorem IsEs.keep {w w' : World} {D : Nat → Prop} {H : List UInt8 → Nat} {p : Option Addr} {c : Nat} {L : List PairT} (h : IsEs w D H p c L) (hz : w.heap.size ≤ w'.heap.size) (hk : ∀ k, k < w.heap.size → D k → w'.heap[k]? = w.heap[k]?) : IsEs w' D H p c L :=
  ⟨h.cap, h.nil, h.big, fun hl => by
    obtain ⟨b, o, hp, hb, hd, hc⟩ := h.cells hl
    refine ⟨b, o, hp, Nat.lt_of_lt_of_le hb hz, hd, fun i x hx => ?_⟩
    obtain ⟨h1, h2, h3⟩ := hc i x hx
    exact ⟨(cell_keep hk (a := ⟨b, o + i * 3, none⟩) hb hd).trans h1, (cell_keep hk (a := ⟨b, o + i * 3 + 1, none⟩) hb hd).trans h2, (cell_keep hk (a := ⟨b, o + i * 3 + 2, none⟩) hb hd).trans h3⟩⟩
theorem IsEs.below {w w' : World} {D : Nat → Prop} {H : List UInt8 → Nat} {p : Option Addr} {c : Nat} {L : List PairT} (h : IsEs w D H p c L) (hb : Below w.heap.size w w') : IsEs w' D H p c L := h.keep hb.size (below_heap hb D)
theorem cellsE_at {H : List UInt8 → Nat} : ∀ {L : List PairT} {i : Nat} {x : PairT}, L[i]? = some x → (cellsE H L)[i * 3]? = some (.int .u64 (H x.1 : Int)) ∧ (cellsE H L)[i * 3 + 1]? = some (.string (str x.1)) ∧ (cellsE H L)[i * 3 + 2]? = some (.string (str x.2))
  | [], i, x, h => by simp at h
  | y :: L, 0, x, h => by
    simp at h
    subst h
    exact ⟨rfl, rfl, rfl⟩
  | y :: L, i + 1, x, h => by
    simp at h
    have := cellsE_at (H := H) h
    show (Value.int .u64 (H y.1 : Int) :: Value.string (str y.1) :: Value.string (str y.2) :: cellsE H L)[(i + 1) * 3]? = _ ∧ (Value.int .u64 (H y.1 : Int) :: Value.string (str y.1) :: Value.string (str y.2) :: cellsE H L)[(i + 1) * 3 + 1]? = _ ∧ (Value.int .u64 (H y.1 : Int) :: Value.string (str y.1) :: Value.string (str y.2) :: cellsE H L)[(i + 1) * 3 + 2]? = _
    rw [show (i + 1) * 3 = i * 3 + 3 from by omega]
    simpa using this
theorem IsEs.own {w : World} {base : Nat} {D : Nat → Prop} {H : List UInt8 → Nat} (hD : ∀ j, base ≤ j → D j) {e : TypeId} {p : Option Addr} {c : Nat} {L : List PairT} (h : w.ownsRow base e 3 (.slice p L.length c) L.length (cellsE H L)) : IsEs w D H p c L := by
  rcases h.2 with ⟨hv, hn⟩ | ⟨g, cap, cur, hv, hg, hh, hnc, hcm, hcs, ht⟩
  · injection hv with h1 h2 h3
    subst h1; subst h3
    obtain rfl : L = [] := List.eq_nil_of_length_eq_zero hn
    exact IsEs.none_ w D H
  · injection hv with h1 h2 h3
    subst h1; subst h3
    refine ⟨hnc, fun h => by simp at h, by unfold maxLen at hcm ⊢; omega, fun _ => ⟨g, 0, rfl, row_ltT hh, hD g hg, fun i x hx => ?_⟩⟩
    obtain ⟨h1, h2, h3⟩ := cellsE_at (H := H) hx
    have a := h.cells (g := g) rfl _ _ h1
    have b := h.cells (g := g) rfl _ _ h2
    have c := h.cells (g := g) rfl _ _ h3
    simp only [Addr.add_lit, Nat.zero_add] at a b c ⊢
    exact ⟨a, b, c⟩
def EsR (D : Nat → Prop) (H : List UInt8 → Nat) (L : List PairT) (w : World) (e : Ending) (w' : World) : Prop := ∃ q c, e = .returned (.slice q L.length c) ∧ IsEs w' D H q c L ∧ Below w.heap.size w w'
theorem es_end {w w' : World} {D : Nat → Prop} {H : List UInt8 → Nat} (hD : ∀ j, w.heap.size ≤ j → D j) {q : Option Addr} {c : Nat} {A L : List PairT} (h : w'.ownsRow w.heap.size 238 3 (.slice q A.length c) A.length (cellsE H A)) (hb : Below w.heap.size w w') (e : A = L) : EsR D H L w (.returned (.slice q A.length c)) w' := by
  subst e
  exact ⟨q, c, rfl, IsEs.own hD h, hb⟩
set_option maxHeartbeats 4000000 in
set_option maxRecDepth 100000 in
theorem refEntries (w : World) {D D0 D1 : Nat → Prop} (hD : ∀ j, w.heap.size ≤ j → D j) {pt : Option Addr} {ct : Nat} {tb : List Nat} (ht : IsVs w D0 pt ct (tb.map uv)) {p : Option Addr} {c : Nat} {L : List PairT} (h : IsRs w D1 p c L) (hn : L.length ≤ 1048576) (hs : ∀ x ∈ L, x.1.length ≤ 1000000) :
    Calls Tryz.prog 59 #[.slice pt tb.length ct, .slice p L.length c] w (EsR D (tabM tb) L w) := by
  have H := Lib.hid h
  have HT := Lib.hid ht
  have HD := Lib.hid hD
  have HS := Lib.hid hs
  obtain ⟨N, hN⟩ : ∃ N, L.length = N := ⟨_, rfl⟩
  rw [hN] at hn ⊢
  have HN := Lib.hid hN
  clear h hN ht hD hs
  go_enter Tryz.func59, Tryz.ntmps59
  go_wp2
  go_loopw [5, 10] (fun v5 v10 wr => ∃ (i : Nat) (A : List PairT) (q : Option Addr) (d : Nat), v5 = .slice q A.length d ∧ v10 = .int .i64 (i : Int) ∧ i ≤ N ∧ A.length ≤ i ∧ wr.ownsRow w.heap.size 238 3 (.slice q A.length d) A.length (cellsE (tabM tb) A) ∧ Below w.heap.size w wr ∧ Hid (L.take i = A)) (fun _ v10 _ => N - (intOf v10).toNat)
  case atStart => exact ⟨0, [], none, 0, rfl, rfl, by omega, Nat.le_refl _, World.ownsRow_nil _ _ _ _, Below.refl _ _, rfl⟩
  case round =>
    obtain ⟨i, A, q, d, rfl, rfl, hi, hAi, how, hb, HI⟩ := hrel
    by_cases hlt : i < N
    · obtain ⟨⟨a, v⟩, hx⟩ : ∃ x, L[i]? = some x := ⟨_, List.getElem?_eq_getElem (by rw [HN.out]; exact hlt)⟩
      have hal := HS.out _ (List.mem_of_getElem? hx)
      have hw := H.out.below hb
      obtain ⟨b, o, rfl, hbl, _, c0, c1⟩ := hw.at_ hx
      have htk : L.take (i + 1) = A ++ [(a, v)] := by rw [← HI.out, List.take_add_one, hx]; rfl
      have HTK := Lib.hid htk
      have g1 : (i : Int) < (N : Int) := by omega
      have HB := Lib.hid hb
      have HOW := Lib.hid how
      have hz := hb.size
      obtain ⟨W1, hW1⟩ : ∃ x, x = wr.alloc (.cells #[.string (str a), .string (str v)] 100) := ⟨_, rfl⟩
      have hz1 : W1.heap.size = wr.heap.size + 1 := by rw [hW1]; simp
      have r1 : W1.heap[wr.heap.size]? = some (.cells #[.string (str a), .string (str v)] 100) := by rw [hW1]; exact heap_alloc_new _ _
      have HOW1 : Hid (W1.ownsRow w.heap.size 238 3 (.slice q A.length d) A.length (cellsE (tabM tb) A)) := by rw [hW1]; exact HOW.out.alloc _
      have HB1 : Hid (Below w.heap.size w W1) := by rw [hW1]; exact HB.out.alloc hz _
      have e0 : W1.cell? ⟨wr.heap.size, 0, none⟩ = some (.string (str a)) := cell_of_row W1 _ 0 _ _ (0, 0) r1
      have e1 : W1.cell? ⟨wr.heap.size, 1, none⟩ = some (.string (str v)) := cell_of_row W1 _ 1 _ _ (0, 0) r1
      have CH := Lib.hid (show ∀ w', Below W1.heap.size W1 w' → Calls Tryz.prog 14 #[.slice pt tb.length ct, .string (str a)] w' _ from fun w' hb' => ref19Hash w' (HT.out.below (HB1.out.trans (hb'.mono (by have := HB1.out.size; omega)))) hal)
      obtain ⟨hsh, hhs⟩ : ∃ x, tabM tb a = x := ⟨_, rfl⟩
      rw [hhs] at CH
      have HHS := Lib.hid hhs
      have hkeep := Lib.hid (show ∀ w', Below W1.heap.size W1 w' → w'.cell? ⟨wr.heap.size, 0, none⟩ = some (.string (str a)) ∧ w'.cell? ⟨wr.heap.size, 1, none⟩ = some (.string (str v)) from fun w' hb' => ⟨(hb'.cell (p := ⟨wr.heap.size, 0, none⟩) (by rw [hz1]; simp)).trans e0, (hb'.cell (p := ⟨wr.heap.size, 1, none⟩) (by rw [hz1]; simp)).trans e1⟩)
      have HZ1 := Lib.hid hz1
      have HR1 := Lib.hid r1
      clear hw hb how hx htk hal hhs HI hz1 r1
      go_wp2_with fail
      rw [← hW1]
      clear hW1
      go_region_held3 (fun w' => w'.cell? ⟨wr.heap.size, 0, none⟩ = some (.string (str a)) ∧ w'.cell? ⟨wr.heap.size, 1, none⟩ = some (.string (str v)))
        (first | go_keep | fail)
        (first | (go_at_call 14; ((with_reducible refine (CH.out _ (by repeat (first | exact Below.refl _ _ | refine Below.drew ?_ | refine below_drewNA ?_ _ | refine below_allocA ?_ (Nat.le_refl _) _))).mono ?_)); rintro e w2 ⟨rfl, n2, rfl⟩) | (refine step_appAt st140 [.int .u64 (hsh : Int), .string (str a), .string (str v)] (by rfl) _ _ (by rfl) (by rfl) _ (by rfl) (heap_alloc_new _ _) HOW1 HB1 (by repeat (first | exact Below.refl _ _ | refine Below.drew ?_ | refine below_drewNA ?_ _ | refine below_allocA ?_ (Nat.le_refl _) _)) (Nat.le_refl _) rfl (ent_one hsh a v) (by omega) (by decide) ?_; intro q9 c9 w7 HO7 HB7 HK7; have rq7 := (HK7.out wr.heap.size (by rw [HZ1.out]; omega) (fun r e => by have := (HOW.out.lt r e).2; omega)).trans HR1.out; have f0 : w7.cell? ⟨wr.heap.size, 0, none⟩ = some (.string (str a)) := cell_of_row w7 _ 0 _ _ (0, 0) rq7; have f1 : w7.cell? ⟨wr.heap.size, 1, none⟩ = some (.string (str v)) := cell_of_row w7 _ 1 _ _ (0, 0) rq7; clear rq7) | fail)
      go_wp2
      go_roundw
      case rel =>
        have hLl : (A ++ [(a, v)]).length = A.length + 1 := by simp
        refine ⟨i + 1, A ++ [(a, v)], q9, c9, by rw [hLl], rfl, by omega, by omega, ?_, HB7.out, HTK.out⟩
        have := HO7.out
        rw [hLl, cellsE_append, show cellsE (tabM tb) [(a, v)] = [Value.int .u64 (hsh : Int), Value.string (str a), Value.string (str v)] from by rw [← HHS.out]; rfl]
        exact this
      case measure => simp [intOf]; omega
    · have hiN : i = N := by omega
      subst hiN
      have g1 : ¬ (i : Int) < (i : Int) := by omega
      have hr : A = L := by rw [← HI.out, List.take_of_length_le (by rw [HN.out]; omega)]
      have HF := Lib.hid (es_end HD.out how hb hr)
      clear hr
      clear hb how
      go_wp2
      go_ret
      exact HF.out
end Go.Proofs.YtmbiiemlepfoaaaGreatDoor
namespace Go.Proofs.YtmbiiemlepfoaaaGreatDoor
open Go.RowKit
set_option linter.unusedVariables false
structure IsKs (w : World) (D : Nat → Prop) (p : Option Addr) (c n : Nat) (cs : List Value) : Prop where
  cap : n ≤ c
  nil : p = none → c = 0
  big : c ≤ maxLen
  len : cs.length = n * 5
  cells : 0 < n → ∃ b o, p = some ⟨b, o, none⟩ ∧ b < w.heap.size ∧ D b ∧ ∀ i x, cs[i]? = some x → w.cell? ⟨b, o + i, none⟩ = some x
theorem IsKs.none_ (w : World) (D : Nat → Prop) : IsKs w D none 0 0 [] := ⟨Nat.le_refl _, fun _ => rfl, Nat.zero_le _, rfl, fun h => absurd h (by simp)⟩
theorem IsKs.keep {w w' : World} {D : Nat → Prop} {p : Option Addr} {c n : Nat} {cs : List Value} (h : IsKs w D p c n cs) (hz : w.heap.size ≤ w'.heap.size) (hk : ∀ k, k < w.heap.size → D k → w'.heap[k]? = w.heap[k]?) : IsKs w' D p c n cs :=
  ⟨h.cap, h.nil, h.big, h.len, fun hl => by
    obtain ⟨b, o, hp, hb, hd, hc⟩ := h.cells hl
    exact ⟨b, o, hp, Nat.lt_of_lt_of_le hb hz, hd, fun i x hx => (cell_keep hk (a := ⟨b, o + i, none⟩) hb hd).trans (hc i x hx)⟩⟩
theorem IsKs.mono {w : World} {D D' : Nat → Prop} {p : Option Addr} {c n : Nat} {cs : List Value} (h : IsKs w D p c n cs) (hd : ∀ k, k < w.heap.size → D k → D' k) : IsKs w D' p c n cs :=
  ⟨h.cap, h.nil, h.big, h.len, fun hl => by
    obtain ⟨b, o, hp, hb, hdb, hc⟩ := h.cells hl
    exact ⟨b, o, hp, hb, hd b hb hdb, hc⟩⟩
theorem IsKs.own {w : World} {base : Nat} {D : Nat → Prop} (hD : ∀ j, base ≤ j → D j) {e : TypeId} {p : Option Addr} {c n : Nat} {cs : List Value} (h : w.ownsRow base e 5 (.slice p n c) n cs) : IsKs w D p c n cs := by
  have hl := h.1
  rcases h.2 with ⟨hv, hn⟩ | ⟨g, cap, cur, hv, hg, hh, hnc, hcm, hcs, ht⟩
  · injection hv with h1 h2 h3
    subst h1; subst h3; subst hn
    obtain rfl : cs = [] := List.eq_nil_of_length_eq_zero (by simpa using hl)
    exact IsKs.none_ w D
  · injection hv with h1 h2 h3
    subst h1; subst h3
    refine ⟨hnc, fun h => by simp at h, hcm, hl, fun _ => ⟨g, 0, rfl, row_ltT hh, hD g hg, fun i x hx => ?_⟩⟩
    have a := h.cells (g := g) rfl _ _ hx
    simp only [Addr.add_lit, Nat.zero_add] at a ⊢
    exact a
mutual
def RN.At (w : World) (D : Nat → Prop) : RN → List Value → Prop
  | .mk kind hash pairs set kids, vs => ∃ pp pc sp sc kp kc cs, vs = [.int .i64 (kind : Int), .int .u64 (hash : Int), .slice pp pairs.length pc, .slice sp set.length sc, .slice kp kids.length kc] ∧
      IsRs w D pp pc pairs ∧ IsVs w D sp sc (set.map ivR) ∧ IsKs w D kp kc kids.length cs ∧ RN.Ats w D kids cs
def RN.Ats (w : World) (D : Nat → Prop) : List RN → List Value → Prop
  | [], cs => cs = []
  | r :: rs, cs => ∃ a b, cs = a ++ b ∧ RN.At w D r a ∧ RN.Ats w D rs b
end
mutual
theorem RN.At.keep {w w' : World} {D : Nat → Prop} (hz : w.heap.size ≤ w'.heap.size) (hk : ∀ k, k < w.heap.size → D k → w'.heap[k]? = w.heap[k]?) : ∀ {r : RN} {vs : List Value}, RN.At w D r vs → RN.At w' D r vs
  | .mk _ _ _ _ _, _, h => by
    unfold RN.At at h ⊢
    obtain ⟨pp, pc, sp, sc, kp, kc, cs, h1, h2, h3, h4, h5⟩ := h
    exact ⟨pp, pc, sp, sc, kp, kc, cs, h1, h2.keep hz hk, h3.keep hz hk, h4.keep hz hk, RN.Ats.keep hz hk h5⟩
theorem RN.Ats.keep {w w' : World} {D : Nat → Prop} (hz : w.heap.size ≤ w'.heap.size) (hk : ∀ k, k < w.heap.size → D k → w'.heap[k]? = w.heap[k]?) : ∀ {rs : List RN} {cs : List Value}, RN.Ats w D rs cs → RN.Ats w' D rs cs
  | [], _, h => by unfold RN.Ats at h ⊢; exact h
  | r :: rs, _, h => by
    unfold RN.Ats at h ⊢
    obtain ⟨a, b, h1, h2, h3⟩ := h
    exact ⟨a, b, h1, RN.At.keep hz hk h2, RN.Ats.keep hz hk h3⟩
end
mutual
theorem RN.At.mono {w : World} {D D' : Nat → Prop} (hd : ∀ k, k < w.heap.size → D k → D' k) : ∀ {r : RN} {vs : List Value}, RN.At w D r vs → RN.At w D' r vs
  | .mk _ _ _ _ _, _, h => by
    unfold RN.At at h ⊢
    obtain ⟨pp, pc, sp, sc, kp, kc, cs, h1, h2, h3, h4, h5⟩ := h
    exact ⟨pp, pc, sp, sc, kp, kc, cs, h1, h2.mono hd, h3.mono hd, h4.mono hd, RN.Ats.mono hd h5⟩
theorem RN.Ats.mono {w : World} {D D' : Nat → Prop} (hd : ∀ k, k < w.heap.size → D k → D' k) : ∀ {rs : List RN} {cs : List Value}, RN.Ats w D rs cs → RN.Ats w D' rs cs
  | [], _, h => by unfold RN.Ats at h ⊢; exact h
  | r :: rs, _, h => by
    unfold RN.Ats at h ⊢
    obtain ⟨a, b, h1, h2, h3⟩ := h
    exact ⟨a, b, h1, RN.At.mono hd h2, RN.Ats.mono hd h3⟩
end
theorem RN.At.below {w w' : World} {D : Nat → Prop} {r : RN} {vs : List Value} (h : RN.At w D r vs) (hb : Below w.heap.size w w') : RN.At w' D r vs := RN.At.keep hb.size (below_heap hb D) h
theorem RN.Ats.below {w w' : World} {D : Nat → Prop} {r : List RN} {vs : List Value} (h : RN.Ats w D r vs) (hb : Below w.heap.size w w') : RN.Ats w' D r vs := RN.Ats.keep hb.size (below_heap hb D) h
theorem RN.At.length {w : World} {D : Nat → Prop} : ∀ {r : RN} {vs : List Value}, RN.At w D r vs → vs.length = 5
  | .mk _ _ _ _ _, _, h => by
    unfold RN.At at h
    obtain ⟨pp, pc, sp, sc, kp, kc, cs, rfl, _⟩ := h
    rfl
theorem RN.Ats.snoc {w : World} {D : Nat → Prop} {r : RN} {vs : List Value} (hr : RN.At w D r vs) : ∀ {rs : List RN} {cs : List Value}, RN.Ats w D rs cs → RN.Ats w D (rs ++ [r]) (cs ++ vs)
  | [], _, h => by
    unfold RN.Ats at h
    subst h
    show RN.Ats w D [r] ([] ++ vs)
    unfold RN.Ats
    exact ⟨vs, [], by simp, hr, by unfold RN.Ats; rfl⟩
  | r' :: rs, _, h => by
    unfold RN.Ats at h
    obtain ⟨a, b, rfl, h2, h3⟩ := h
    show RN.Ats w D (r' :: (rs ++ [r])) (a ++ b ++ vs)
    unfold RN.Ats
    exact ⟨a, b ++ vs, by rw [List.append_assoc], h2, RN.Ats.snoc hr h3⟩
theorem RN.Ats.at_ {w : World} {D : Nat → Prop} : ∀ {rs : List RN} {cs : List Value} {i : Nat} {r : RN}, RN.Ats w D rs cs → rs[i]? = some r → ∃ vs, RN.At w D r vs ∧ ∀ j x, vs[j]? = some x → cs[i * 5 + j]? = some x
  | [], _, _, _, _, h => by simp at h
  | r :: rs, _, 0, r', h, hr => by
    unfold RN.Ats at h
    obtain ⟨a, b, rfl, h2, h3⟩ := h
    simp at hr
    subst hr
    exact ⟨a, h2, fun j x hx => by
      have := (List.getElem?_eq_some_iff.1 hx).1
      rw [Nat.zero_mul, Nat.zero_add, List.getElem?_append_left this]; exact hx⟩
  | r :: rs, _, i + 1, r', h, hr => by
    unfold RN.Ats at h
    obtain ⟨a, b, rfl, h2, h3⟩ := h
    simp at hr
    obtain ⟨vs, h4, h5⟩ := RN.Ats.at_ h3 hr
    exact ⟨vs, h4, fun j x hx => by
      have hl := h2.length
      rw [List.getElem?_append_right (by omega), hl, show (i + 1) * 5 + j - 5 = i * 5 + j from by omega]
      exact h5 j x hx⟩
end Go.Proofs.YtmbiiemlepfoaaaGreatDoor
namespace Go.Proofs.YtmbiiemlepfoaaaGreatDoor
open Go.RowKit
set_option linter.unusedVariables false
theorem index239 {h L : Nat} (hL : L < 13) (w : World) : (Instr.index 239 (.agg (wayA h 13).toArray) (.int .i64 (L : Int))).run Tryz.prog w = .ok (ivR (chunkM h L)) w := by
  have hu : Tryz.prog.underlying 239 = some (.array 13 3) := by kernel_rfl
  have hi : (Tryz.prog.info? 3).map (·.size) = some 1 := by kernel_rfl
  have ha := way_at (h := h) (i := 13) hL
  rw [if_pos hL] at ha
  have h1 : (0 : Int) ≤ (L : Int) ∧ (L : Int) < 13 := by omega
  obtain ⟨i3, hi3, hsz⟩ := Option.map_eq_some_iff.1 hi
  simp [Instr.index, run_underlying hu, asIntOf, h1, go_sem, sizeOf, typeInfo, hi3, hsz]
  rw [if_pos hL, ha]
  rfl
def LayR (D : Nat → Prop) (r : RN) (w : World) (e : Ending) (w' : World) : Prop := ∃ vs, e = .returned (.agg vs.toArray) ∧ RN.At w' D r vs ∧ Below w.heap.size w w'
theorem rn_nil (w : World) (D : Nat → Prop) : RN.At w D (.mk 0 0 [] [] []) [.int .i64 0, .int .u64 0, .slice none 0 0, .slice none 0 0, .slice none 0 0] := by
  unfold RN.At
  exact ⟨none, 0, none, 0, none, 0, [], rfl, IsRs.none_ _ _, IsVs.none_ _ _, IsKs.none_ _ _, by unfold RN.Ats; rfl⟩
abbrev rn0 : Obj := .cells #[.int .i64 0, .int .u64 0, .slice none 0 0, .slice none 0 0, .slice none 0 0] 138
set_option maxRecDepth 100000 in
theorem layNil (w : World) (D : Nat → Prop) {p : Option Addr} {c : Nat} (L : Int) : Calls Tryz.prog 58 #[.slice p 0 c, .int .i64 L] w (LayR D (.mk 0 0 [] [] []) w) := by
  go_enter Tryz.func58, Tryz.ntmps58
  go_wp2
  refine bodyPost_ret (v := .agg #[.int .i64 0, .int .u64 0, .slice none 0 0, .slice none 0 0, .slice none 0 0]) ?_ rfl ?_
  · rw [results_cell1 rfl]
    simp [go_sem, asAddr, Result.andThen]
  · exact ⟨_, rfl, rn_nil _ _, (Below.refl _ w).alloc (Nat.le_refl _) _⟩
theorem wpList_appFits {W w0 : World} {t e size bytes base g n cap : Nat} (st : SlTy t e size bytes) {xs : List Value} (cs : List Value) {o : Oper} {a : Act} {Q : Exit → Act → World → Prop} {ops : Array Oper} {rest : List Oper} (hgd : o.guard = none) (s x : Operand)
    (ho : o.op = .call { callee := .builtin .append, args := #[s, x], argTypes := #[t, t] }) (hs : a.eval s = .slice (some ⟨g, 0, none⟩) n cap) (b0 : Nat) (hx : a.eval x = .slice (some ⟨b0, 0, none⟩) 1 1) (hnew : W.heap[b0]? = some (.cells cs.toArray e))
    (hown : Hid (w0.ownsRow base e size (.slice (some ⟨g, 0, none⟩) n cap) n xs)) (hbw : Below w0.heap.size w0 W) (hl : cs.length = size) (h1 : ∀ u ∈ cs, u.oneCell' = true) (hn : n + 1 ≤ cap)
    (h : ∀ w', Hid (w'.ownsRow base e size (.slice (some ⟨g, 0, none⟩) (n + 1) cap) (n + 1) (xs ++ cs)) → Hid (w0.grownBy w' (some g)) → wpList Tryz.prog ops Q rest (a.put o.dst (.slice (some ⟨g, 0, none⟩) (n + 1) cap)) w') : wpList Tryz.prog ops Q (o :: rest) a W := by
  obtain ⟨i, z, t1, t2, t3, t4, t5, t6, t7⟩ := st
  have hg : w0.grownBy W (some g) := ⟨hbw.os, hbw.tape, hbw.output, hbw.size, fun k hk _ => hbw.block k hk⟩
  exact wpList_append_fits W hgd s x t ho base e i size t1 t2 t4 g n cap xs hs (own_belowA hown.out hbw) ⟨b0, 0, none⟩ 1 1 cs hx (by omega) (World.news_of_block (cs := cs.toArray) (t := e) (fr := (0, 0)) hnew) h1 hn fun w' r1 r2 => h w' r1 (grown_trans hg r2)
def PsV (w : World) (D : Nat → Prop) : List PairT → List Value → Prop
  | [], vs => vs = []
  | x :: L, vs => ∃ kp kc vp vc vs', vs = .slice kp x.1.length kc :: .slice vp x.2.length vc :: vs' ∧ IsD w D kp kc x.1 ∧ IsD w D vp vc x.2 ∧ PsV w D L vs'
theorem PsV.keep {w w' : World} {D : Nat → Prop} (hz : w.heap.size ≤ w'.heap.size) (hk : ∀ k, k < w.heap.size → D k → w'.heap[k]? = w.heap[k]?) : ∀ {L : List PairT} {vs : List Value}, PsV w D L vs → PsV w' D L vs
  | [], _, h => h
  | x :: L, _, ⟨kp, kc, vp, vc, vs', h1, h2, h3, h4⟩ => ⟨kp, kc, vp, vc, vs', h1, h2.keep hz hk, h3.keep hz hk, PsV.keep hz hk h4⟩
theorem PsV.snoc {w : World} {D : Nat → Prop} {x : PairT} {kp vp : Option Addr} {kc vc : Nat} (hk : IsD w D kp kc x.1) (hv : IsD w D vp vc x.2) : ∀ {L : List PairT} {vs : List Value}, PsV w D L vs → PsV w D (L ++ [x]) (vs ++ [.slice kp x.1.length kc, .slice vp x.2.length vc])
  | [], _, h => by
    obtain rfl : _ = [] := h
    exact ⟨kp, kc, vp, vc, [], rfl, hk, hv, rfl⟩
  | y :: L, _, ⟨kp', kc', vp', vc', vs', h1, h2, h3, h4⟩ => ⟨kp', kc', vp', vc', _, by rw [h1]; rfl, h2, h3, PsV.snoc hk hv h4⟩
theorem PsV.get {w : World} {D : Nat → Prop} : ∀ {L : List PairT} {vs : List Value} {i : Nat} {x : PairT}, PsV w D L vs → L[i]? = some x → ∃ kp kc vp vc, vs[i * 2]? = some (.slice kp x.1.length kc) ∧ vs[i * 2 + 1]? = some (.slice vp x.2.length vc) ∧ IsD w D kp kc x.1 ∧ IsD w D vp vc x.2
  | [], _, _, _, _, h => by simp at h
  | y :: L, vs, 0, x, ⟨kp, kc, vp, vc, rest, h1, h2, h3, h4⟩, h => by
    simp at h
    subst h; subst h1
    exact ⟨kp, kc, vp, vc, rfl, rfl, h2, h3⟩
  | y :: L, vs, i + 1, x, ⟨kp, kc, vp, vc, rest, h1, h2, h3, h4⟩, h => by
    simp at h
    obtain ⟨kp', kc', vp', vc', g1, g2, g3, g4⟩ := h4.get h
    subst h1
    refine ⟨kp', kc', vp', vc', ?_, ?_, g3, g4⟩
    · rw [show (i + 1) * 2 = i * 2 + 1 + 1 from by omega, List.getElem?_cons_succ, List.getElem?_cons_succ]; exact g1
    · rw [show (i + 1) * 2 + 1 = i * 2 + 1 + 1 + 1 from by omega, List.getElem?_cons_succ, List.getElem?_cons_succ]; exact g2
theorem PsV.isPs {w : World} {D D' : Nat → Prop} {base : Nat} (hd : ∀ j, base ≤ j → D j) (hd' : ∀ j, D' j → D j) {q : Option Addr} {c : Nat} {L : List PairT} {vs : List Value} (ho : w.ownsRow base 61 2 (.slice q L.length c) L.length vs) (hp : PsV w D' L vs) : IsPs w D q c L := by
  rcases ho.2 with ⟨hv, hn⟩ | ⟨g, cap, cur, hv, hg, hh, hnc, hcm, hcs, ht⟩
  · injection hv with h1 h2 h3
    subst h1; subst h3
    obtain rfl : L = [] := List.eq_nil_of_length_eq_zero hn
    exact IsPs.none_ w D
  · injection hv with h1 h2 h3
    subst h1; subst h3
    refine ⟨hnc, fun h => by simp at h, hcm, fun hl => ⟨g, 0, rfl, row_ltT hh, hd g hg, fun i x hx => ?_⟩⟩
    obtain ⟨kp, kc, vp, vc, g1, g2, g3, g4⟩ := hp.get hx
    refine ⟨kp, kc, vp, vc, ?_, ?_, g3.mono fun j _ h => hd' j h, g4.mono fun j _ h => hd' j h⟩
    · have := ho.cells (g := g) rfl (i * 2) _ g1; simpa [Addr.add_lit] using this
    · have := ho.cells (g := g) rfl (i * 2 + 1) _ g2; simpa [Addr.add_lit, Nat.add_assoc] using this
theorem info61' : (Tryz.prog.info? 61).map (fun i => (i.zero, i.size, i.bytes)) = some (some (.agg #[.slice none 0 0, .slice none 0 0]), 2, 48) := info61
theorem st63 : SlTy 63 61 2 48 := slTy Tryz.underlying63 info61' rfl (by decide)
theorem two_slices (p q : Option Addr) (a b c d : Nat) : ∀ u ∈ [Value.slice p a b, Value.slice q c d], u.oneCell' = true := by simp [Value.oneCell']
structure LstAt (B r g N : Nat) (L : List PairT) (w : World) : Prop where
  box : w.heap[g]? = some (.cells #[.slice (some ⟨r, 0, none⟩) L.length N] 63)
  vs : ∃ vs, w.ownsRow r 61 2 (.slice (some ⟨r, 0, none⟩) L.length N) L.length vs ∧ PsV w (fun j => B ≤ j) L vs
  size : B ≤ w.heap.size
structure Chg (r g : Nat) (W W' : World) : Prop where
  os : W'.os = W.os
  tape : W'.tape = W.tape
  output : W'.output = W.output
  size : W.heap.size ≤ W'.heap.size
  same : ∀ j, j < W.heap.size → j ≠ r → j ≠ g → W'.heap[j]? = W.heap[j]?
theorem Chg.refl (r g : Nat) (w : World) : Chg r g w w := ⟨rfl, rfl, rfl, Nat.le_refl _, fun _ _ _ _ => rfl⟩
theorem Chg.trans {r g : Nat} {A B C : World} (h : Chg r g A B) (k : Chg r g B C) : Chg r g A C :=
  ⟨k.os.trans h.os, k.tape.trans h.tape, k.output.trans h.output, Nat.le_trans h.size k.size, fun j hj h1 h2 => (k.same j (Nat.lt_of_lt_of_le hj h.size) h1 h2).trans (h.same j hj h1 h2)⟩
theorem Chg.below {r g : Nat} {A B : World} (h : Below A.heap.size A B) : Chg r g A B := ⟨h.os, h.tape, h.output, h.size, fun j hj _ _ => h.block j hj⟩
theorem app_row {w w2 w7 : World} {r j : Nat} {o : Obj} (hB : Below w.heap.size w w2) (hG : w2.grownBy w7 (some r)) (hr : w.heap[j]? = some o) (hne : j ≠ r) : w7.heap[j]? = some o := by
  have hj := row_ltT hr
  rw [hG.block j (Nat.lt_of_lt_of_le hj hB.size) (fun e => hne (Option.some.inj e)), hB.block j hj, hr]
theorem own_setA {w : World} {base e s n g : Nat} {v x : Value} {xs : List Value} (h : w.ownsRow base e s v n xs) (hne : v.ownBlock ≠ some g) : (w.setCell ⟨g, 0, none⟩ x).ownsRow base e s v n xs := by
  refine h.kept (row := some g) ⟨rfl, rfl, rfl, by rw [set_sizeA]; exact Nat.le_refl _, fun k hk hn => set_otherA (fun e => hn (by rw [e]))⟩ (.inr ?_)
  exact hne
theorem set_rowA {w : World} {g : Nat} {cs : Array Value} {t : TypeId} {fr : Nat × Nat} {i : Nat} {x : Value} (h : w.heap[g]? = some (.cells cs t fr)) : (w.setCell ⟨g, i, none⟩ x).heap[g]? = some (.cells (cs.setIfInBounds i x) t fr) := by
  simp [World.setCell, Array.getElem?_modify, h]
theorem lst_end {w w2 w7 : World} {B r g N : Nat} {pre : List PairT} {k v : List UInt8} {kp vp : Option Addr} {kc vc : Nat} {vs : List Value} (hL : w.heap[g]? = some (.cells #[.slice (some ⟨r, 0, none⟩) pre.length N] 63) ∧ (∃ vs', vs' = vs ∧ w.ownsRow r 61 2 (.slice (some ⟨r, 0, none⟩) pre.length N) pre.length vs ∧ PsV w (fun j => B ≤ j) pre vs) ∧ B ≤ w.heap.size) (hrg : r ≠ g) (hrB : r < B) (hgB : g < B)
    (hk : IsD w2 (fun j => w.heap.size ≤ j) kp kc k) (hv : IsD w2 (fun j => w.heap.size ≤ j) vp vc v) (hB2 : Below w.heap.size w w2) (ho : w7.ownsRow r 61 2 (.slice (some ⟨r, 0, none⟩) (pre.length + 1) N) (pre.length + 1) (vs ++ [.slice kp k.length kc, .slice vp v.length vc])) (hG7 : w2.grownBy w7 (some r)) (hrg7 : w7.heap[g]? = some (.cells #[.slice (some ⟨r, 0, none⟩) pre.length N] 63)) :
    LstAt B r g N (pre ++ [(k, v)]) (w7.setCell ⟨g, 0, none⟩ (.slice (some ⟨r, 0, none⟩) (pre.length + 1) N)) ∧ Chg r g w (w7.setCell ⟨g, 0, none⟩ (.slice (some ⟨r, 0, none⟩) (pre.length + 1) N)) := by
  obtain ⟨hbox, ⟨_, _, how, hps⟩, hsz⟩ := hL
  have hl : (pre ++ [(k, v)]).length = pre.length + 1 := by simp
  have s1 := hB2.size
  have s2 := hG7.size
  have hc : Chg r g w (w7.setCell ⟨g, 0, none⟩ (.slice (some ⟨r, 0, none⟩) (pre.length + 1) N)) := ⟨hG7.os.trans hB2.os, hG7.tape.trans hB2.tape, hG7.output.trans hB2.output, by rw [set_sizeA]; omega, fun j hj h1 h2 => by
    rw [set_otherA (a := ⟨g, 0, none⟩) h2, hG7.block j (by omega) (fun e => h1 (Option.some.inj e)), hB2.block j hj]⟩
  have hk7 : ∀ j, j < w2.heap.size → B ≤ j → (w7.setCell ⟨g, 0, none⟩ (.slice (some ⟨r, 0, none⟩) (pre.length + 1) N)).heap[j]? = w2.heap[j]? := fun j hj hb => by
    rw [set_otherA (a := ⟨g, 0, none⟩) (by dsimp only; omega), hG7.block j hj (fun e => by have := Option.some.inj e; omega)]
  refine ⟨⟨?_, ⟨_, ?_, PsV.snoc (x := (k, v)) ((hk.mono fun j _ h => Nat.le_trans hsz h).keep (by rw [set_sizeA]; omega) fun j hj h => hk7 j hj h) ((hv.mono fun j _ h => Nat.le_trans hsz h).keep (by rw [set_sizeA]; omega) fun j hj h => hk7 j hj h) (hps.keep hc.size fun j hj h => hc.same j hj (by omega) (by omega))⟩, by rw [set_sizeA]; omega⟩, hc⟩
  · rw [set_rowA hrg7, hl]; rfl
  · rw [hl]
    exact own_setA ho (by simp [Value.ownBlock, hrg])
def OwnPR (w : World) (k v : List UInt8) (e : Ending) (w' : World) : Prop := ∃ kp kc vp vc, e = .returned (pairV kp kc k vp vc v) ∧ IsD w' (fun j => w.heap.size ≤ j) kp kc k ∧ IsD w' (fun j => w.heap.size ≤ j) vp vc v ∧ Below w.heap.size w w'
set_option maxHeartbeats 4000000 in
set_option maxRecDepth 100000 in
theorem listOne (w : World) {B r g N : Nat} {pre : List PairT} (hL : LstAt B r g N pre w) (hrg : r ≠ g) (hrB : r < B) (hgB : g < B) (hN : pre.length + 1 ≤ N) {D0 : Nat → Prop} {q : Option Addr} {l rr : T} {k v : List UInt8} (ht : TreeAt w D0 q (.node l k v rr)) (hD0 : ∀ j, D0 j → j ≠ r ∧ j ≠ g) (hkl : k.length ≤ 140737488355328) (hvl : v.length ≤ 140737488355328) :
    Calls Tryz.prog 66 #[.pointer q, .pointer (some ⟨g, 0, none⟩)] w fun e w' => e = .returned (.bool true) ∧ LstAt B r g N (pre ++ [(k, v)]) w' ∧ Chg r g w w' := by
  obtain ⟨hbox, ⟨vs, how, hps⟩, hsz⟩ := hL
  obtain ⟨tb, kp, kc, vp, vc, lp, rp, rfl, hdt, trow, hk, hv, _, _⟩ := ht
  have htl := row_ltT trow
  obtain ⟨hn1, hn2⟩ := hD0 tb hdt
  have c0 : w.cell? ⟨g, 0, none⟩ = some (.slice (some ⟨r, 0, none⟩) pre.length N) := cell_of_row w g 0 _ _ (0, 0) hbox
  have c1 : w.cell? ⟨tb, 0, none⟩ = some (.slice kp k.length kc) := cell_of_row w tb 0 _ _ (0, 0) trow
  have c2 : w.cell? ⟨tb, 1, none⟩ = some (.slice vp v.length vc) := cell_of_row w tb 1 _ _ (0, 0) trow
  have HC := Lib.hid (show ∀ w', Below w.heap.size w w' → w'.cell? ⟨g, 0, none⟩ = some (.slice (some ⟨r, 0, none⟩) pre.length N) ∧ w'.cell? ⟨tb, 0, none⟩ = some (.slice kp k.length kc) ∧ w'.cell? ⟨tb, 1, none⟩ = some (.slice vp v.length vc) from fun w' hb => ⟨(hb.cell (p := ⟨g, 0, none⟩) (row_ltT hbox)).trans c0, (hb.cell (p := ⟨tb, 0, none⟩) htl).trans c1, (hb.cell (p := ⟨tb, 1, none⟩) htl).trans c2⟩)
  have CO := Lib.hid (show ∀ w', Below w.heap.size w w' → Calls Tryz.prog 63 #[pairV kp kc k vp vc v] w' (OwnPR w k v) from fun w' hb => (treeOwn w' (fun j => w'.heap.size ≤ j) (fun _ h => h) (hk.b.below hb) (hv.b.below hb) hkl hvl).mono fun e w'' ⟨kp', kc', vp', vc', h1, h2, h3, h4⟩ => ⟨kp', kc', vp', vc', h1, h2.mono fun j _ h => Nat.le_trans hb.size h, h3.mono fun j _ h => Nat.le_trans hb.size h, hb.trans (h4.mono hb.size)⟩)
  have HOW := Lib.hid how
  have HPS := Lib.hid hps
  have HBOX := Lib.hid hbox
  have HTR := Lib.hid trow
  clear hk hv trow how hps hbox
  go_enter Tryz.func66, Tryz.ntmps66
  go_wp2_with fail
  have hHeld := HC.out w.drew (Below.refl _ w).drew
  refine wp_region_heldL (S := fun w' : World => w'.cell? ⟨g, 0, none⟩ = some (.slice (some ⟨r, 0, none⟩) pre.length N) ∧ w'.cell? ⟨tb, 0, none⟩ = some (.slice kp k.length kc) ∧ w'.cell? ⟨tb, 1, none⟩ = some (.slice vp v.length vc)) (by kernel_rfl) ?_
  (refine wpAnyL_take (i := 0) (oi := ⟨some 4, _, _, _, _, _⟩) (v := .slice (some ⟨r, 0, none⟩) pre.length N) rfl (by kernel_rfl) (by kernel_rfl) (by kernel_rfl) (fun _ _ _ h => h) (Or.inl ⟨by rfl, by intro w' hSw; obtain ⟨z0, z1, z2⟩ := hSw; go_simp⟩) hHeld ?_; try simp only [Act.put, List.setIfInBounds_toArray, List.set_cons_zero, List.set_cons_succ])
  (refine wpAnyL_take (i := 1) (oi := ⟨some 5, _, _, _, _, _⟩) (v := .pointer (some ⟨tb, 0, none⟩)) rfl (by kernel_rfl) (by kernel_rfl) (by kernel_rfl) (fun _ _ _ h => h) (Or.inl ⟨by rfl, by intro w' hSw; obtain ⟨z0, z1, z2⟩ := hSw; go_simp⟩) hHeld ?_; try simp only [Act.put, List.setIfInBounds_toArray, List.set_cons_zero, List.set_cons_succ])
  (refine wpAnyL_take (i := 2) (oi := ⟨some 6, _, _, _, _, _⟩) (v := .pointer (some ⟨tb, 0, none⟩)) rfl (by kernel_rfl) (by kernel_rfl) (by kernel_rfl) (fun _ _ _ h => h) (Or.inl ⟨by rfl, by intro w' hSw; obtain ⟨z0, z1, z2⟩ := hSw; go_simp⟩) hHeld ?_; try simp only [Act.put, List.setIfInBounds_toArray, List.set_cons_zero, List.set_cons_succ])
  (refine wpAnyL_take (i := 3) (oi := ⟨some 7, _, _, _, _, _⟩) (v := .pointer (some ⟨tb, 0, none⟩)) rfl (by kernel_rfl) (by kernel_rfl) (by kernel_rfl) (fun _ _ _ h => h) (Or.inl ⟨by rfl, by intro w' hSw; obtain ⟨z0, z1, z2⟩ := hSw; go_simp⟩) hHeld ?_; try simp only [Act.put, List.setIfInBounds_toArray, List.set_cons_zero, List.set_cons_succ])
  (refine wpAnyL_take (i := 4) (oi := ⟨some 8, _, _, _, _, _⟩) (v := pairV kp kc k vp vc v) rfl (by kernel_rfl) (by kernel_rfl) (by kernel_rfl) (fun _ _ _ h => h) (Or.inl ⟨by rfl, by intro w' hSw; obtain ⟨z0, z1, z2⟩ := hSw; go_simp⟩) hHeld ?_; try simp only [Act.put, List.setIfInBounds_toArray, List.set_cons_zero, List.set_cons_succ])
  (refine wpAnyL_one (i := 5) (o := ⟨some 9, _, _, _, _, _⟩) rfl (by kernel_rfl) (fun K' hK => ?_); rw [if_pos (by rfl)])
  go_simp
  (go_at_call 63; ((with_reducible refine (CO.out _ (Below.refl _ w).drew).mono ?_)); rintro e w2 ⟨kp', kc', vp', vc', rfl, hk2, hv2, hb2⟩; have HK2 := Lib.hid hk2; have HV2 := Lib.hid hv2; have HB2 := Lib.hid hb2; clear hk2 hv2 hb2)
  go_wp2_with fail
  (have hHeld := HC.out _ HB2.out; refine hK.out _ _ (.inl hHeld) ?_; clear hK K'; try simp only [Act.put, List.setIfInBounds_toArray, List.set_cons_zero, List.set_cons_succ])
  (refine wpAnyL_one (i := 6) (o := ⟨some 10, _, _, _, _, _⟩) rfl (by kernel_rfl) (fun K' hK => ?_); rw [if_pos (by rfl)])
  go_simp
  (have hHeld := HC.out _ (show Below w.heap.size w (w2.alloc (.cells #[.slice kp' k.length kc', .slice vp' v.length vc'] 61)) from HB2.out.alloc HB2.out.size _); refine hK.out _ _ (.inl hHeld) ?_; clear hK K'; try simp only [Act.put, List.setIfInBounds_toArray, List.set_cons_zero, List.set_cons_succ])
  (refine wpAnyL_one (i := 7) (o := ⟨some 11, _, _, _, _, _⟩) rfl (by kernel_rfl) (fun K' hK => ?_); rw [if_pos (by rfl)])
  refine oper_of_list (ops := #[]) rfl ?_
  refine wpList_appFits st63 [.slice kp' k.length kc', .slice vp' v.length vc'] rfl _ _ rfl rfl _ rfl (heap_alloc_new _ _) (Lib.hid (own_belowA HOW.out HB2.out)) (by repeat (first | exact Below.refl _ _ | refine Below.drew ?_ | refine below_drewNA ?_ _ | refine below_allocA ?_ (Nat.le_refl _) _)) rfl (two_slices _ _ _ _ _ _) hN ?_
  intro w7 HO7 HG7
  show K' _ _
  have rg := app_row HB2.out HG7.out HBOX.out (Ne.symm hrg)
  have rt := app_row HB2.out HG7.out HTR.out hn1
  have f0 : w7.cell? ⟨g, 0, none⟩ = some (.slice (some ⟨r, 0, none⟩) pre.length N) := cell_of_row w7 _ 0 _ _ (0, 0) rg
  have f3 : w7.frozen? ⟨g, 0, none⟩ = false := frozen_of_row w7 _ 0 _ _ rg
  (have hHeld := (show _ ∧ _ ∧ _ from ⟨f0, cell_of_row w7 _ 0 _ _ (0, 0) rt, cell_of_row w7 _ 1 _ _ (0, 0) rt⟩); refine hK.out _ _ (.inl hHeld) ?_; clear hK K'; try simp only [Act.put, List.setIfInBounds_toArray, List.set_cons_zero, List.set_cons_succ])
  (refine wpAnyL_one (i := 8) (o := ⟨none, _, _, _, _, _⟩) rfl (by kernel_rfl) (fun K' hK => ?_); rw [if_pos (by rfl)])
  go_simp
  (refine hK.out _ _ (.inr (by kernel_rfl)) ?_; clear hK K'; refine wpAnyL_done (by kernel_rfl) ?_ _)
  have HRG := Lib.hid rg
  clear rg rt f0 f3
  go_wp2
  go_ret
  exact ⟨rfl, lst_end ⟨HBOX.out, ⟨vs, rfl, HOW.out, HPS.out⟩, hsz⟩ hrg hrB hgB HK2.out HV2.out HB2.out HO7.out HG7.out HRG.out⟩
def ListR (L : List PairT) (w : World) (e : Ending) (w' : World) : Prop := ∃ r B vs, e = .returned (.slice (some ⟨r, 0, none⟩) L.length L.length) ∧ w'.ownsRow r 61 2 (.slice (some ⟨r, 0, none⟩) L.length L.length) L.length vs ∧ PsV w' (fun j => B ≤ j) L vs ∧ w.heap.size ≤ r ∧ r < B ∧ B ≤ w'.heap.size ∧ Below w.heap.size w w'
theorem ListR.isPs {L : List PairT} {w w' : World} {D : Nat → Prop} (hD : ∀ j, w.heap.size ≤ j → D j) {r B : Nat} {vs : List Value} (ho : w'.ownsRow r 61 2 (.slice (some ⟨r, 0, none⟩) L.length L.length) L.length vs) (hp : PsV w' (fun j => B ≤ j) L vs) (h1 : w.heap.size ≤ r) (h2 : r < B) : IsPs w' D (some ⟨r, 0, none⟩) L.length L :=
  hp.isPs (fun j hj => hD j (by omega)) (fun j hj => hD j (by omega)) ho
theorem eachList_call {w w2 : World} {p : Option Addr} {t : T} {N : Nat} (ht : TreeAt w (fun j => j < w.heap.size) p t) (hb : t.Bal) (hsm : t.Small) (hl : t.list.length = N) (ho : w2.ownsRow w.heap.size 61 2 (.slice (some ⟨w.heap.size, 0, none⟩) 0 N) 0 []) (hg : w.grownBy w2 none) (hlt : w.heap.size < w2.heap.size) :
    Calls Tryz.prog 65 #[.pointer p, .func (.func 66) #[] #[.pointer (some ⟨w2.heap.size, 0, none⟩)]] (w2.alloc (.cells #[.slice (some ⟨w.heap.size, 0, none⟩) 0 N] 63)) (fun e w' => e = .returned (.bool true) ∧ (LstAt (w2.heap.size + 1) w.heap.size w2.heap.size N t.list w' ∧ Chg w.heap.size w2.heap.size (w2.alloc (.cells #[.slice (some ⟨w.heap.size, 0, none⟩) 0 N] 63)) w')) := by
  have hb2 : Below w.heap.size w (w2.alloc (.cells #[.slice (some ⟨w.heap.size, 0, none⟩) 0 N] 63)) := (show Below w.heap.size w w2 from ⟨hg.os, hg.tape, hg.output, hg.size, fun k hk => hg.block k hk (by simp)⟩).alloc hg.size _
  have h3 : LstAt (w2.heap.size + 1) w.heap.size w2.heap.size N [] (w2.alloc (.cells #[.slice (some ⟨w.heap.size, 0, none⟩) 0 N] 63)) := ⟨heap_alloc_new _ _, ⟨[], ho.alloc _, rfl⟩, by simp⟩
  have := treeEachL (g := w2.heap.size) (W1 := w2.alloc (.cells #[.slice (some ⟨w.heap.size, 0, none⟩) 0 N] 63)) (D0 := fun j => j < w.heap.size) (I := fun pre w' => LstAt (w2.heap.size + 1) w.heap.size w2.heap.size N pre w' ∧ Chg w.heap.size w2.heap.size (w2.alloc (.cells #[.slice (some ⟨w.heap.size, 0, none⟩) 0 N] 63)) w')
    (fun pre w' h => ⟨h.2.size, fun j hj hd => h.2.same j hj (by omega) (by omega)⟩) t.list
    (fun pre post w' q l k v r hI he hq hbb => by
      have hm : (k, v) ∈ t.list := by rw [← he]; simp
      have hs := hsm _ hm
      have hlen := congrArg List.length he
      simp at hlen
      exact (listOne w' hI.1 (by omega) (by omega) (by omega) (by omega) hq (fun j hj => ⟨by omega, by omega⟩) hs.1 hs.2).mono fun e w'' ⟨h1, h2, h3⟩ => ⟨h1, h2, hI.2.trans h3⟩)
    t p [] [] _ (ht.below hb2) hb (by simp) ⟨h3, Chg.refl _ _ _⟩
  simpa using this
set_option maxHeartbeats 4000000 in
set_option maxRecDepth 100000 in
theorem treeList (w : World) {D0 : Nat → Prop} {p : Option Addr} {t : T} (ht : TreeAt w D0 p t) (hb : t.Bal) (hsm : t.Small) (hsz : t.size ≤ 1048576) : Calls Tryz.prog 22 #[.pointer p] w (ListR t.list w) := by
  have hmf : ∀ (fn : Fn) (first cap : Array Value) (w : World), (Instr.makeFunc fn first cap).run Tryz.prog w = .ok (.func fn first cap) w := fun _ _ _ _ => rfl
  obtain ⟨i0, hi, hz0, hz1, hz2⟩ := info_parts info61'
  have CZ := Lib.hid (treeSize w ht)
  obtain ⟨N, hN⟩ : ∃ N, t.size = N := ⟨_, rfl⟩
  have hlen : t.list.length = N := by rw [T.list_length, hN]
  rw [hN] at CZ hsz
  have HT := Lib.hid (ht.mono (D' := fun j => j < w.heap.size) fun k hk _ => hk)
  have HSM := Lib.hid hsm
  have HBAL := Lib.hid hb
  have HL := Lib.hid hlen
  clear ht hsm hb hN hlen
  go_enter Tryz.func22, Tryz.ntmps22
  go_wp2_with first
    | (go_at_call 64; ((with_reducible refine (CZ.out).mono ?_)); rintro e w1 ⟨rfl, rfl⟩)
    | (at_make; refine wpList_make_own _ rfl _ _ 63 rfl w.heap.size 61 i0 (.agg #[.slice none 0 0, .slice none 0 0]) 2 Tryz.underlying63 hi hz0 hz1 _ _ _ N rfl rfl rfl (by rw [hz2]; omega) (by unfold maxLen; omega) (Nat.le_refl _) ?_; intro w2 ho2 hg2; have hlt2 := ho2.lt _ rfl; have HO2 := Lib.hid ho2; have HG2 := Lib.hid hg2; clear ho2 hg2)
    | (go_at_call 65; ((with_reducible refine ((eachList_call HT.out HBAL.out HSM.out HL.out HO2.out HG2.out hlt2.2)).mono ?_)); rintro e w4 ⟨rfl, h4⟩; have c4 := cell_of_row w4 _ 0 _ _ (0, 0) h4.1.box; have H4 := Lib.hid h4; clear h4)
    | fail
  go_ret
  obtain ⟨h5, h6⟩ := H4.out
  obtain ⟨_, ⟨vs, v1, v2⟩, v3⟩ := h5
  have hl := HL.out
  refine ⟨w.heap.size, w2.heap.size + 1, vs, by rw [hl]; rfl, by rw [hl] at v1 ⊢; exact v1, v2, Nat.le_refl _, by omega, v3, ?_⟩
  have hg := HG2.out
  have hb2 : Below w.heap.size w (w2.alloc (.cells #[.slice (some ⟨w.heap.size, 0, none⟩) 0 N] 63)) := (show Below w.heap.size w w2 from ⟨hg.os, hg.tape, hg.output, hg.size, fun k hk => hg.block k hk (by simp)⟩).alloc hg.size _
  exact ⟨h6.os.trans hb2.os, h6.tape.trans hb2.tape, h6.output.trans hb2.output, Nat.le_trans hb2.size h6.size, fun j hj => (h6.same j (by have := hb2.size; omega) (by omega) (by have := hg.size; omega)).trans (hb2.block j hj)⟩
end Go.Proofs.YtmbiiemlepfoaaaGreatDoor
