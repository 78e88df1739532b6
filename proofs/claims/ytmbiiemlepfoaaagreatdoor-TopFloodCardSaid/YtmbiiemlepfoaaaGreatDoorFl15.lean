/- The document's layout, in plain Lean, and what a trie has in common with it. The walk of the reference's Less. The walk of the reference's Hash by a table. A slice of the flood's Op structs that came in, and a table of hashes; their opening. The walk of prune.pick. -/
import Derived.Test.YtmbiiemlepfoaaaGreatDoorFl14
import Derived.Test.YtmbiiemlepfoaaaGreatDoorFl01
import Derived.Test.YtmbiiemlepfoaaaGreatDoorFl02
import Derived.Test.YtmbiiemlepfoaaaGreatDoorFl13
import Derived.Deep.Strs
import Derived.Test.YtmbiiemlepfoaaaGreatDoorFl10

namespace Go.Proofs.YtmbiiemlepfoaaaGreatDoor
set_option linter.unusedVariables false
variable {H : List UInt8 → Nat}
inductive RN where
  | mk (kind hash : Nat) (pairs : List PairT) (set : List Nat) (kids : List RN)
def sameR (H : List UInt8 → Nat) (h : Nat) (x : List PairT) : Bool := x.all fun q => decide (H q.1 = h)
def setR (H : List UInt8 → Nat) (x : List PairT) (L : Nat) : List Nat := (List.range 32).filter fun c => x.any fun p => decide (chunkM (H p.1) L = c)
def layR (H : List UInt8 → Nat) : Nat → List PairT → Nat → RN
  | _, [], _ => .mk 0 0 [] [] []
  | 0, p :: x, _ => .mk (if (p :: x).length = 1 then 1 else 2) (H p.1) (p :: x) [] []
  | f + 1, p :: x, L => if sameR H (H p.1) (p :: x) then .mk (if (p :: x).length = 1 then 1 else 2) (H p.1) (p :: x) [] []
    else .mk 3 0 [] (setR H (p :: x) L) ((setR H (p :: x) L).map fun c => layR H f (partL H (p :: x) L c) (L + 1))
theorem layR_same (f L : Nat) {p : PairT} {x : List PairT} (h : sameR H (H p.1) (p :: x) = true) : layR H f (p :: x) L = .mk (if (p :: x).length = 1 then 1 else 2) (H p.1) (p :: x) [] [] := by
  cases f with
  | zero => simp only [layR]
  | succ f => simp only [layR, h, if_true]
theorem layR_nil (f L : Nat) : layR H f [] L = .mk 0 0 [] [] [] := by cases f <;> simp only [layR]
inductive Agr : N → RN → Prop
  | leaf (h : Nat) (k v : List UInt8) : Agr (.leaf h k v) (.mk 1 h [(k, v)] [] [])
  | bucket (h : Nat) (t : T) : 2 ≤ t.size → t.Bal → Asc t.list → Agr (.bucket h t) (.mk 2 h t.list [] [])
  | branch (m : Nat) (ks : List N) (rs : List RN) : m < 4294967296 → ks.length = cntUp 32 m → rs.length = ks.length → (∀ (i : Nat) (n : N) (r : RN), ks[i]? = some n → rs[i]? = some r → Agr n r) → Agr (.branch m ks) (.mk 3 0 [] (bitsOf m) rs)
def AgrO : Option N → RN → Prop
  | none, r => r = .mk 0 0 [] [] []
  | some n, r => Agr n r
theorem setR_bits {m L : Nat} {x : List PairT} (h : ∀ c, c < 32 → (m.testBit c = true ↔ ∃ p ∈ x, chunkM (H p.1) L = c)) : setR H x L = bitsOf m := by
  unfold setR bitsOf bitsUp
  apply List.filter_congr
  intro c hc
  rw [Bool.eq_iff_iff, h c (by simpa using hc)]
  simp
theorem lay_agr {n : N} {L : Nat} {x : List PairT} (h : Lay H n L x) : ∀ f, L + f = 13 → Asc x → Agr n (layR H f x L) := by
  induction h with
  | leaf k v L => intro f hf hx; rw [layR_same f L (by simp [sameR])]; exact .leaf _ _ _
  | bucket h t L h2 hb hth =>
    intro f hf hx
    cases hl : t.list with
    | nil => exact absurd hl (list_ne h2)
    | cons p x =>
      rw [hl] at hth
      rw [layR_same f L (by unfold sameR; rw [List.all_eq_true]; intro q hq; simp [hth q hq, hth p (by simp)]), hth p (by simp)]
      have hlen : (p :: x).length = t.size := by rw [← hl, T.list_length]
      rw [hlen, if_neg (by omega), ← hl]
      exact .bucket h t h2 hb hx
  | branch m ks L x h1 h2 h3 h4 h5 h6 ih =>
    intro f hf hx
    obtain ⟨f, rfl⟩ : ∃ g, f = g + 1 := ⟨f - 1, by omega⟩
    obtain ⟨p, hp, q, hq, hne⟩ := h4
    cases x with
    | nil => simp at hp
    | cons y x =>
      have hns : sameR H (H y.1) (y :: x) = false := by
        rw [Bool.eq_false_iff]
        intro hs
        unfold sameR at hs
        rw [List.all_eq_true] at hs
        have a := hs p hp
        have b := hs q hq
        simp only [decide_eq_true_eq] at a b
        exact hne (a.trans b.symm)
      simp only [layR, hns, Bool.false_eq_true, if_false]
      rw [setR_bits h5]
      refine .branch m ks _ h1 h3 (by rw [List.length_map]; exact h3.symm) fun i n r hn hr => ?_
      rw [List.getElem?_map, Option.map_eq_some_iff] at hr
      obtain ⟨c, hc, rfl⟩ := hr
      exact ih i n c hn hc f (by omega) (part_asc hx L c)
theorem lay_agrO {n : Option N} {x : List PairT} (h : LayO H 0 x n) (hx : Asc x) : AgrO n (layR H 13 x 0) := by
  cases n with
  | none =>
    obtain rfl : x = [] := h
    exact layR_nil 13 0
  | some n => exact lay_agr h 13 rfl hx
structure Op where
  del : Bool
  key : List UInt8
  val : List UInt8
def stepX (o : Op) (x : List PairT) : List PairT := if o.del then withoutL o.key x else putL (o.key, o.val) x
def stepN (H : List UInt8 → Nat) (o : Op) (n : Option N) : Option N := if o.del then (deleO (H o.key) o.key n 0).getD n else some (intoO (H o.key) o.key o.val n 0).1
def stepT (o : Op) (t : T) : T := if o.del then (delT o.key t).getD t else putT o.key o.val t
structure Inv (H : List UInt8 → Nat) (n : Option N) (t : T) (x : List PairT) : Prop where
  lay : LayO H 0 x n
  asc : Asc x
  bal : t.Bal
  list : t.list = x
theorem Inv.start : Inv H none .nil [] := ⟨rfl, List.Pairwise.nil, trivial, rfl⟩
theorem Inv.step (hh : ∀ k, H k < 18446744073709551616) {n : Option N} {t : T} {x : List PairT} (h : Inv H n t x) (o : Op) : Inv H (stepN H o n) (stepT o t) (stepX o x) := by
  obtain ⟨h1, h2, h3, h4⟩ := h
  obtain ⟨del, k, v⟩ := o
  cases del with
  | true =>
    unfold stepN stepT stepX
    dsimp only
    simp only [if_true]
    refine ⟨?_, h2.filter _, ?_, ?_⟩
    · cases n with
      | none => obtain rfl : x = [] := h1; rfl
      | some n =>
        have d := dele_lay (k := k) h1 h2
        show LayO H 0 (withoutL k x) ((n.dele (H k) k 0).getD (some n))
        cases e : n.dele (H k) k 0 with
        | none => rw [without_none (d.no e)]; exact h1
        | some r => exact (d.yes r e).2
    · obtain ⟨d1, d2⟩ := delT_ok (k := k) h3 (by rw [h4]; exact h2)
      cases e : delT k t with
      | none => exact h3
      | some u => exact (d1 u e).bal
    · obtain ⟨d1, d2⟩ := delT_ok (k := k) h3 (by rw [h4]; exact h2)
      cases e : delT k t with
      | none => rw [← h4, without_none (d2 e)]; rfl
      | some u => rw [← h4]; exact (d1 u e).list
  | false =>
    unfold stepN stepT stepX
    dsimp only
    simp only [Bool.false_eq_true, if_false]
    refine ⟨?_, asc_putL h2, (putT_bal k v h3).1, by rw [putT_list h3 (by rw [h4]; exact h2), h4]⟩
    cases n with
    | none => obtain rfl : x = [] := h1; exact .leaf k v 0
    | some n => exact (into_lay hh h1 (by omega) h2 fun p hp j hj => by omega).lay
theorem step_len (o : Op) (x : List PairT) : (stepX o x).length ≤ x.length + 1 := by
  unfold stepX
  split
  · unfold withoutL; have := List.length_filter_le (fun y : PairT => decide (y.1 ≠ o.key)) x; omega
  · have : ∀ (p : PairT) (x : List PairT), (putL p x).length ≤ x.length + 1 := fun p x => by
      induction x with
      | nil => exact Nat.le_refl _
      | cons q m ih =>
        unfold putL
        split
        · rw [List.length_cons, List.length_cons]; omega
        · rw [List.length_cons]; have := List.length_filter_le (fun y : PairT => decide (y.1 ≠ p.1)) (q :: m); omega
    exact this _ _
theorem step_small {o : Op} {x : List PairT} {n : Nat} (h : ∀ p ∈ x, p.1.length ≤ n ∧ p.2.length ≤ n) (hk : o.key.length ≤ n) (hv : o.val.length ≤ n) : ∀ p ∈ stepX o x, p.1.length ≤ n ∧ p.2.length ≤ n := by
  intro p hp
  unfold stepX at hp
  split at hp
  · exact h p (List.mem_filter.1 hp).1
  · rcases mem_putL.1 hp with rfl | ⟨hp, _⟩
    · exact ⟨hk, hv⟩
    · exact h p hp
def toldN (H : List UInt8 → Nat) (o : Op) (n : Option N) : Bool := if o.del then (deleO (H o.key) o.key n 0).isSome else (intoO (H o.key) o.key o.val n 0).2
theorem told_ok (hh : ∀ k, H k < 18446744073709551616) {n : Option N} {t : T} {x : List PairT} (h : Inv H n t x) (o : Op) : toldN H o n = if o.del then hasL o.key x else !hasL o.key x := by
  obtain ⟨h1, h2, h3, h4⟩ := h
  unfold toldN
  split
  · cases n with
    | none => obtain rfl : x = [] := h1; rfl
    | some n =>
      have d := dele_lay (k := o.key) h1 h2
      show (n.dele (H o.key) o.key 0).isSome = _
      cases e : n.dele (H o.key) o.key 0 with
      | none => rw [d.no e]; rfl
      | some r => rw [(d.yes r e).1]; rfl
  · cases n with
    | none => obtain rfl : x = [] := h1; rfl
    | some n => exact (into_lay hh h1 (by omega) h2 fun p hp j hj => by omega).fresh
theorem Inv.fit (hh : ∀ k, H k < 18446744073709551616) {n : Option N} {t : T} {x : List PairT} (h : Inv H n t x) (hs : ∀ p ∈ x, p.1.length ≤ 1000000 ∧ p.2.length ≤ 1000000) : ∀ m, n = some m → m.fit 0 ∧ m.count ≤ x.length := fun m e => by
  subst e
  exact ⟨lay_fit hh h.lay hs, lay_count h.lay⟩
theorem Inv.size {n : Option N} {t : T} {x : List PairT} (h : Inv H n t x) : t.size = x.length := by rw [← T.list_length, h.list]
def lookS (H : List UInt8 → Nat) (k : List UInt8) (n : Option N) : Nat × Nat := intoSO (H k) k n 0
def stepS (H : List UInt8 → Nat) (o : Op) (n : Option N) (t : T) : Nat × Nat :=
  if o.del then ((deleSO (H o.key) o.key n 0).1 + (delS o.key t).1, (deleSO (H o.key) o.key n 0).2 + (delS o.key t).2)
  else ((intoSO (H o.key) o.key n 0).1 + pathT o.key t, (intoSO (H o.key) o.key n 0).2 + pathT o.key t)
theorem zero_steps (n : Nat) : Steps (0, 0) 0 n := ⟨Nat.le_refl _, 0, by dsimp only; omega, Nat.one_le_pow _ _ (by omega)⟩
theorem look_ok {n : Option N} {t : T} {x : List PairT} (h : Inv H n t x) (k : List UInt8) : (lookS H k n).1 ≤ 17 + Nat.log2 ((x.length + 1) ^ 6) ∧ (lookS H k n).2 ≤ (lookS H k n).1 := by
  have hs : Steps (lookS H k n) 0 x.length := by
    cases n with
    | none => exact zero_steps _
    | some n => exact into_steps h.lay (by omega)
  have := steps_bound hs h.bal h.size (u := 0) (Nat.zero_le _)
  exact ⟨by omega, hs.le⟩
theorem step_ok {n : Option N} {t : T} {x : List PairT} (h : Inv H n t x) (o : Op) : (stepS H o n t).1 ≤ 17 + Nat.log2 ((x.length + 1) ^ 6) ∧ (stepS H o n t).2 ≤ (stepS H o n t).1 := by
  unfold stepS
  split
  · have hs : Steps (deleSO (H o.key) o.key n 0) 0 x.length := by
      cases n with
      | none => exact zero_steps _
      | some n => exact dele_steps h.lay (by omega)
    have hd := delS_hgt o.key t
    have := steps_bound hs h.bal h.size hd.1
    have := hs.le
    exact ⟨by dsimp only; omega, by dsimp only; omega⟩
  · have hs : Steps (intoSO (H o.key) o.key n 0) 0 x.length := by
      cases n with
      | none => exact zero_steps _
      | some n => exact into_steps h.lay (by omega)
    have := steps_bound hs h.bal h.size (path_hgt o.key t)
    have := hs.le
    exact ⟨by dsimp only; omega, by dsimp only; omega⟩
end Go.Proofs.YtmbiiemlepfoaaaGreatDoor
namespace Go.Proofs.YtmbiiemlepfoaaaGreatDoor
open Go.RowKit
set_option maxHeartbeats 1000000 in
theorem refLess (a b : ByteArray) (w : World) (ha : a.size ≤ 9223372036854775807) (_hb : b.size ≤ 9223372036854775807) :
    Calls Tryz.prog 34 #[.string a, .string b] w fun e w' => e = .returned (.bool (lessB a.data.toList b.data.toList)) ∧ ∃ n, w' = w.drewN n := by
  have la : a.data.toList.length = a.size := by simp
  have lb : b.data.toList.length = b.size := by simp
  have LA := Lib.hid la
  have LB := Lib.hid lb
  clear la lb
  go_enter Tryz.func34, Tryz.ntmps34
  go_wp2
  go_loopw [5] (fun v5 wr => ∃ i : Nat, v5 = .int .i64 i ∧ i ≤ a.size ∧ i ≤ b.size ∧ Hid (a.data.toList.take i = b.data.toList.take i) ∧ ∃ n, wr = w.drewN n) (fun v5 _ => a.size - (intOf v5).toNat)
  case atStart => exact ⟨0, rfl, Nat.zero_le _, Nat.zero_le _, rfl, 0, rfl⟩
  case round =>
    obtain ⟨i, rfl, hia, hib, HT, n, rfl⟩ := hrel
    by_cases h1 : i < a.size
    · by_cases h2 : i < b.size
      · have g1 : (i : Int) < (a.size : Int) := by omega
        have g2 : (i : Int) < (b.size : Int) := by omega
        have la : a.data.toList.length = a.size := by simp
        have lb : b.data.toList.length = b.size := by simp
        by_cases he : a[i] = b[i]
        · have hm := take_more HT.out (by omega) (by omega) he
          have HM := Lib.hid hm
          have hq : ((a[i].toNat : Int) != (b[i].toNat : Int)) = false := by rw [he]; simp
          clear hm he la lb
          go_wp2_with fail
          go_quiet (fail)
          go_wp2
          go_roundw
          case rel => exact ⟨i + 1, by go_num, by omega, by omega, HM.out, _, rfl⟩
          case measure => simp [intOf]; omega
        · have hl : lessB a.data.toList b.data.toList = decide (a[i] < b[i]) := less_at HT.out (by omega) (by omega) he
          have HL := Lib.hid hl
          have hq : ((a[i].toNat : Int) != (b[i].toNat : Int)) = true := by
            rw [bne_iff_ne]
            intro h
            exact he (UInt8.toNat_inj.1 (by omega))
          clear hl he la lb
          go_wp2_with fail
          go_quiet (fail)
          go_wp2_with fail
          go_quiet (fail)
          go_wp2
          go_ret
          refine ⟨?_, _, by rw [World.drewN_drewN, World.drewN_drewN]⟩
          rw [HL.out]
          exact congrArg (fun x => Ending.returned (.bool x)) (decide_eq_decide.2 (by rw [UInt8.lt_iff_toNat_lt]))
      · have g1 : (i : Int) < (a.size : Int) := by omega
        have g2 : ¬ ((i : Int) < (b.size : Int)) := by omega
        have la : a.data.toList.length = a.size := by simp
        have lb : b.data.toList.length = b.size := by simp
        have hl := less_end HT.out (.inr (by omega)) (by omega) (by omega)
        rw [la, lb] at hl
        have HL := Lib.hid hl
        clear hl la lb
        go_wp2
        go_ret
        refine ⟨?_, _, rfl⟩
        rw [HL.out]
        rfl
    · have g1 : ¬ ((i : Int) < (a.size : Int)) := by omega
      have la : a.data.toList.length = a.size := by simp
      have lb : b.data.toList.length = b.size := by simp
      have hl := less_end HT.out (.inl (by omega)) (by omega) (by omega)
      rw [la, lb] at hl
      have HL := Lib.hid hl
      clear hl la lb
      go_wp2
      go_ret
      refine ⟨?_, _, rfl⟩
      rw [HL.out]
      rfl
end Go.Proofs.YtmbiiemlepfoaaaGreatDoor
namespace Go.Proofs.YtmbiiemlepfoaaaGreatDoor
open Go.RowKit
set_option linter.unusedVariables false
def uv (x : Nat) : Value := .int .u64 (x : Int)
def sumB : List UInt8 → Nat
  | [] => 0
  | b :: l => b.toNat + sumB l
theorem sumB_app : ∀ a b : List UInt8, sumB (a ++ b) = sumB a + sumB b
  | [], b => by simp [sumB]
  | x :: a, b => by simp [sumB, sumB_app a b]; omega
theorem sumB_take {l : List UInt8} {i : Nat} (h : i < l.length) : sumB (l.take (i + 1)) = sumB (l.take i) + l[i].toNat := by
  rw [List.take_add_one, List.getElem?_eq_getElem h, sumB_app]
  simp [sumB]
theorem sumB_le : ∀ l : List UInt8, sumB l ≤ 255 * l.length
  | [] => Nat.le_refl _
  | b :: l => by have := sumB_le l; have := b.toNat_lt; simp only [sumB, List.length_cons]; omega
def tabM (tb : List Nat) (k : List UInt8) : Nat := tb.getD ((k.length + sumB k) % tb.length) 0
theorem tabM_lt {tb : List Nat} (h : ∀ x ∈ tb, x < 18446744073709551616) (k : List UInt8) : tabM tb k < 18446744073709551616 := by
  unfold tabM
  rw [List.getD_eq_getElem?_getD]
  cases hx : tb[(k.length + sumB k) % tb.length]? with
  | none => simp
  | some x => exact h x (List.mem_of_getElem? hx)
set_option maxHeartbeats 1000000 in
set_option maxRecDepth 100000 in
theorem ref19Hash (w : World) {D : Nat → Prop} {p : Option Addr} {c : Nat} {tb : List Nat} (h : IsVs w D p c (tb.map uv)) {k : List UInt8} (hk : k.length ≤ 1000000) :
    Calls Tryz.prog 14 #[.slice p tb.length c, .string (str k)] w fun e w' => e = .returned (.int .u64 (tabM tb k : Int)) ∧ ∃ n, w' = w.drewN n := by
  by_cases h0 : tb.length = 0
  · obtain rfl : tb = [] := List.eq_nil_of_length_eq_zero h0
    have ht : tabM [] k = 0 := by simp [tabM]
    have HT := Lib.hid ht
    clear ht h h0
    go_enter Tryz.func14, Tryz.ntmps14
    go_wp2
    go_ret
    rw [HT.out]
    exact ⟨rfl, 0, rfl⟩
  · obtain ⟨b, o, rfl, hb, hd, hc⟩ := h.cells (by simp; omega)
    have g0 : ¬ ((tb.length : Int) = 0) := by omega
    have hm : (k.length + sumB k) % tb.length < tb.length := Nat.mod_lt _ (by omega)
    have hcell : w.cell? ⟨b, o + (k.length + sumB k) % tb.length, none⟩ = some (.int .u64 (tabM tb k : Int)) := by
      refine hc _ _ ?_
      rw [List.getElem?_map, List.getElem?_eq_getElem hm]
      unfold tabM uv
      rw [List.getD_eq_getElem?_getD, List.getElem?_eq_getElem hm]
      rfl
    have hsl := sumB_le k
    have HC := Lib.hid hcell
    have hmi : ((k.length : Int) + (sumB k : Int)) % (tb.length : Int) = (((k.length + sumB k) % tb.length : Nat) : Int) := by rw [Int.natCast_emod, Int.natCast_add]
    have HM := Lib.hid hmi
    have HML := Lib.hid hm
    have hsz : (str k).size = k.length := rfl
    clear hc h hcell hmi hm
    go_enter Tryz.func14, Tryz.ntmps14
    go_wp2
    go_loopw [5, 6] (fun v5 v6 wr => ∃ i n : Nat, v5 = .int .i64 ((k.length + sumB (k.take i) : Nat) : Int) ∧ v6 = .int .i64 i ∧ i ≤ k.length ∧ wr = w.drewN n) (fun _ v6 _ => k.length - (intOf v6).toNat)
    case atStart => exact ⟨0, 0, rfl, rfl, Nat.zero_le _, rfl⟩
    case round =>
      obtain ⟨i, n, rfl, rfl, hi, rfl⟩ := hrel
      have hs1 := sumB_le (k.take i)
      rw [List.length_take] at hs1
      by_cases h1 : i < k.length
      · have g1 : (i : Int) < (k.length : Int) := by omega
        have hs2 := sumB_take h1
        have hb1 := k[i].toNat_lt
        have he : ((str k)[i]'(by rw [str_size]; exact h1)) = k[i] := rfl
        have HS2 := Lib.hid hs2
        generalize hsi : sumB (k.take i) = S at *
        clear hsi hs2
        go_wp2
        go_roundw
        case rel => exact ⟨i + 1, _, by rw [HS2.out]; go_num, by go_num, by omega, rfl⟩
        case measure => simp [intOf]; omega
      · have g1 : ¬ (i : Int) < (k.length : Int) := by omega
        have hk' : k.take i = k := List.take_of_length_le (by omega)
        rw [hk'] at hs1 ⊢
        have hmi := HM.out
        have hcell : (w.drewN n).cell? ⟨b, o + (k.length + sumB k) % tb.length, none⟩ = some (.int .u64 (tabM tb k : Int)) := HC.out
        have hm := HML.out
        generalize sumB k = S at *
        generalize (k.length + S) % tb.length = M at *
        clear hk'
        go_wp2
        go_ret
        exact ⟨rfl, _, rfl⟩
end Go.Proofs.YtmbiiemlepfoaaaGreatDoor
namespace Go.Proofs.YtmbiiemlepfoaaaGreatDoor
open Go.RowKit Go.ChangeShapes Go.WideShapes Go.ChangeAt Go.Deep
set_option linter.unusedVariables false
structure OpV where
  op : Op
  kp : Option Addr
  kc : Nat
  vp : Option Addr
  vc : Nat
structure IsFl (w : World) (p : Option Addr) (c : Nat) (L : List OpV) : Prop where
  cap : L.length ≤ c
  big : c ≤ maxLen
  cells : 0 < L.length → ∃ b o, p = some ⟨b, o, none⟩ ∧ b < w.heap.size ∧ ∀ i x, L[i]? = some x → w.cell? ⟨b, o + i * 3, none⟩ = some (.bool x.op.del) ∧ w.cell? ⟨b, o + i * 3 + 1, none⟩ = some (.slice x.kp x.op.key.length x.kc) ∧ w.cell? ⟨b, o + i * 3 + 2, none⟩ = some (.slice x.vp x.op.val.length x.vc)
  keys : ∀ x ∈ L, IsB w x.kp x.kc x.op.key
  vals : ∀ x ∈ L, IsB w x.vp x.vc x.op.val
theorem cellsOp20 : Tryz.prog.cellsOf 45 = 3 := by kernel_rfl
section
variable {H : Type} {encV : TypeId × Value → H} {W : World}
set_option maxRecDepth 100000 in
theorem op20_cells {fuel : Nat} {cs : List Value} {x : DataW H × List MemPlace} (h : DataW.trod encV Tryz.prog W 0 (fun _ => true) true fuel 45 cs = some x) :
    ∃ y : OpV, cs = [.bool y.op.del, .slice y.kp y.op.key.length y.kc, .slice y.vp y.op.val.length y.vc] ∧ IsB W y.kp y.kc y.op.key ∧ IsB W y.vp y.vc y.op.val := by
  obtain ⟨y0, y1, y2, n, _, hl, h0, h1, h2⟩ := trod_struct3 Tryz.underlying45 h
  rw [cellsOp20] at hl
  match cs, hl with
  | [c0, c1, c2], _ =>
    have k : Tryz.prog.cellsOf 4 = 1 := by kernel_rfl
    have k2 : Tryz.prog.cellsOf 22 = 1 := by kernel_rfl
    obtain ⟨a, e0, _⟩ := DataW.trod_bool Tryz.underlying4 h0
    obtain ⟨p, c, l, e1, hB⟩ := bytes_cells h1
    obtain ⟨p', c', l', e2, hB'⟩ := bytes_cells h2
    simp [k, k2] at e0 e1 e2
    subst e0; subst e1; subst e2
    exact ⟨⟨⟨a, l, l'⟩, p, c, p', c'⟩, rfl, hB, hB'⟩
set_option maxRecDepth 100000 in
theorem open_ops20 {v : Value} {b : Nat} {d : DataW H} {p : List MemPlace} (hv : Value.okWide Tryz.prog W .any b 39 v) (h : DataW.Trod encV Tryz.prog W 0 (fun _ => true) true 39 v d p) :
    ∃ x : Option Addr × Nat × List OpV, v = .slice x.1 x.2.2.length x.2.1 ∧ IsFl W x.1 x.2.1 x.2.2 := by
  obtain ⟨a, len, cap, rfl⟩ := okWide_slice Tryz.underlying39 hv
  obtain ⟨fuel, hf⟩ := h
  rcases open_slice Tryz.underlying39 hf with ⟨hcs, _⟩ | ⟨a', len', cap', m, n, D, Pl, hcs, _, hl, hm, hmm, _, hx⟩
  · simp [Value.cells] at hcs
    obtain ⟨rfl, rfl, rfl⟩ := hcs
    exact ⟨(none, 0, []), rfl, Nat.le_refl _, Nat.zero_le _, fun h => absurd h (by simp), fun x hx => absurd hx (by simp), fun x hx => absurd hx (by simp)⟩
  · simp [Value.cells] at hcs
    obtain ⟨rfl, rfl, rfl⟩ := hcs
    simp only [if_true] at hmm
    subst hmm
    rw [cellsOp20] at hx
    have hex : ∀ i, ∃ x : OpV, i < m → W.cell? (a'.add (i * 3)) = some (.bool x.op.del) ∧ W.cell? ((a'.add (i * 3)).add 1) = some (.slice x.kp x.op.key.length x.kc) ∧ W.cell? ((a'.add (i * 3)).add 2) = some (.slice x.vp x.op.val.length x.vc) ∧ IsB W x.kp x.kc x.op.key ∧ IsB W x.vp x.vc x.op.val := fun i => by
      by_cases hi : i < m
      · obtain ⟨cs', h1, h2⟩ := hx i hi
        obtain ⟨x, rfl, hw⟩ := op20_cells h2
        have hc := (World.cells?_some h1).2.2
        have c0 := hc 0 (by omega)
        have c1 := hc 1 (by omega)
        have c2 := hc 2 (by omega)
        refine ⟨x, fun _ => ⟨?_, c1, c2, hw⟩⟩
        simpa [Addr.add] using c0
      · exact ⟨⟨⟨false, [], []⟩, none, 0, none, 0⟩, fun h => absurd h hi⟩
    let f := fun i => Classical.choose (hex i)
    have hfx : ∀ i, i < m → W.cell? (a'.add (i * 3)) = some (.bool (f i).op.del) ∧ W.cell? ((a'.add (i * 3)).add 1) = some (.slice (f i).kp (f i).op.key.length (f i).kc) ∧ W.cell? ((a'.add (i * 3)).add 2) = some (.slice (f i).vp (f i).op.val.length (f i).vc) ∧ IsB W (f i).kp (f i).kc (f i).op.key ∧ IsB W (f i).vp (f i).vc (f i).op.val := fun i => Classical.choose_spec (hex i)
    have hmem : ∀ x ∈ (List.range len).map f, IsB W x.kp x.kc x.op.key ∧ IsB W x.vp x.vc x.op.val := fun x hx' => by
      obtain ⟨k, hk, rfl⟩ := List.mem_map.1 hx'
      simp at hk
      exact (hfx k (by omega)).2.2.2
    refine ⟨(some a', m, (List.range len).map f), by simp, by simpa using hl, hm, fun hpos => ?_, fun x hx' => (hmem x hx').1, fun x hx' => (hmem x hx').2⟩
    simp at hpos
    have h0 := (hfx 0 (by omega)).1
    obtain ⟨bl, o, s⟩ := a'
    have hs : s = none := by
      have := World.cell?_spot h0
      simpa [Addr.add] using this
    subst hs
    refine ⟨bl, o, rfl, ?_, fun i x hxi => ?_⟩
    · have := World.block_lt_of_cell? W _ h0
      simpa [Addr.add_lit] using this
    · rw [List.getElem?_map, Option.map_eq_some_iff] at hxi
      obtain ⟨k, hk, rfl⟩ := hxi
      obtain ⟨hk1, hk2⟩ := List.getElem?_eq_some_iff.1 hk
      simp at hk1 hk2
      subst hk2
      have := hfx i (by omega)
      rw [Addr.add_lit, Addr.add_lit, Addr.add_lit] at this
      exact ⟨this.1, this.2.1, this.2.2.1⟩
set_option maxRecDepth 100000 in
theorem open_table {v : Value} {b : Nat} {d : DataW H} {p : List MemPlace} (hv : Value.okWide Tryz.prog W .any b 38 v) (h : DataW.Trod encV Tryz.prog W 0 (fun _ => true) true 38 v d p) :
    ∃ x : Option Addr × Nat × List Nat, v = .slice x.1 x.2.2.length x.2.1 ∧ IsVs W (fun _ => True) x.1 x.2.1 (x.2.2.map uv) ∧ ∀ y ∈ x.2.2, y < 18446744073709551616 := by
  obtain ⟨a, len, cap, rfl⟩ := okWide_slice Tryz.underlying38 hv
  obtain ⟨fuel, hf⟩ := h
  rcases open_ints Tryz.underlying38 Tryz.underlying48 (by kernel_rfl) hf with ⟨hcs, _⟩ | ⟨a', len', cap', zs, hcs, _, hl, hm, hz, _, hcell, hwz⟩
  · simp [Value.cells] at hcs
    obtain ⟨rfl, rfl, rfl⟩ := hcs
    exact ⟨(none, 0, []), rfl, ⟨Nat.le_refl _, fun _ => rfl, Nat.zero_le _, fun h => absurd h (by simp)⟩, fun x hx => absurd hx (by simp)⟩
  · simp [Value.cells] at hcs
    obtain ⟨rfl, rfl, rfl⟩ := hcs
    simp only [if_true] at hz
    have hw : ∀ z ∈ zs, ((z.toNat : Nat) : Int) = z ∧ z.toNat < 18446744073709551616 := fun z hz' => by
      have h2 := hwz z hz'
      simp [Lit.wf, IntKind.min, IntKind.max, IntKind.signed, IntKind.bits] at h2
      omega
    refine ⟨(some a', cap, (zs.take len).map Int.toNat), by simp; omega, ⟨by simp; omega, fun h => by simp at h, hm, fun h0 => ?_⟩, fun y hy => ?_⟩
    · simp at h0
      have hx := hcell 0 (by omega)
      obtain ⟨bl, o, s⟩ := a'
      have hs : s = none := by
        have := World.cell?_spot hx
        simpa [Addr.add] using this
      subst hs
      refine ⟨bl, o, rfl, ?_, trivial, fun i y hy => ?_⟩
      · have := World.block_lt_of_cell? W _ hx
        simpa [Addr.add_lit] using this
      · rw [List.getElem?_map, Option.map_eq_some_iff] at hy
        obtain ⟨z, hz1, rfl⟩ := hy
        rw [List.getElem?_map, Option.map_eq_some_iff] at hz1
        obtain ⟨u, hu, rfl⟩ := hz1
        rw [List.getElem?_take] at hu
        split at hu
        · have hc1 := hcell i (by omega)
          rw [Addr.add_lit] at hc1
          rw [hc1, List.getD_eq_getElem?_getD, hu]
          unfold uv
          rw [(hw u (List.mem_of_getElem? hu)).1]
          rfl
        · cases hu
    · obtain ⟨u, hu, rfl⟩ := List.mem_map.1 hy
      exact (hw u (List.mem_of_mem_take hu)).2
end
end Go.Proofs.YtmbiiemlepfoaaaGreatDoor
namespace Go.Proofs.YtmbiiemlepfoaaaGreatDoor
open Go.RowKit Go.Shelf
set_option linter.unusedVariables false
attribute [local go_sem] Oper.semAt_some
set_option maxHeartbeats 8000000 in
set_option maxRecDepth 100000 in
theorem prunePickV (w : World) (D : Nat → Prop) (hD : ∀ j, w.heap.size ≤ j → D j) {nb m m' : Nat} {vs : List Value} (h : BrAt w nb m vs) (hmm : m' < 4294967296) (h2 : 2 < w.heap.size) (hT : TabAt 2 Lib.deBruijn32tab w) (h1 : ∀ v ∈ vs, ∃ t b, v = ifp t b)
    (R : Ending → World → Prop)
    (CB : ∀ w' p c', Below w.heap.size w w' → IsVs w' (fun j => w.heap.size ≤ j) p c' ((bitsOf m').map (kidV m vs)) → Calls Tryz.prog 253 #[.int .u32 (m' : Int), .slice p (bitsOf m').length c'] w' fun e w2 => (∃ v, e = .returned v) ∧ R e w2 ∧ Below w'.heap.size w' w2)
    (HR : ∀ v w' o o' l, R (.returned v) w' → w.heap.size ≤ l → w'.heap[l]? = some o → o.isCells = false → R (.returned v) (w'.putObj l o')) :
    Calls Tryz.prog 294 #[ifp 308 nb, .int .u32 (m' : Int)] w R := by
  obtain ⟨i0, hi, hz0, hz1, hz2⟩ := info_parts info42
  have CA := Lib.hid (fun w => bitsAll w (m' : Int))
  have HBR := Lib.hid h
  have HT := Lib.hid hT
  have HCB := Lib.hid CB
  have HHR := Lib.hid HR
  have HD := Lib.hid hD
  have H1 := Lib.hid h1
  clear h hT CB HR hD h1
  refine (callsIn_wide (n := 3)).1 ?_
  refine callsIn_of_wp_marks Tryz.func294 rfl trivial ?_ rfl
  simp only [Tryz.ntmps294, List.size_toArray, List.length_cons, List.length_nil, Nat.reduceAdd, Nat.reduceSub, Array.replicate_succ, Array.replicate_zero, List.push_toArray, List.append_toArray, List.nil_append, List.cons_append]
  gi_wp2_with first
    | (refine ⟨trivial, ?_⟩; ((with_reducible refine ((callsIn_wide).2 (CA.out _)).mono ?_)); rintro e w1 ⟨rfl, rfl⟩)
  obtain ⟨W0, hW0⟩ : ∃ x, x = ((w.alloc (.cells #[ifp 308 nb] 42)).alloc (.cells #[.slice none 0 0] 310)).alloc (.cells #[.int .u32 (m' : Int)] 218) := ⟨_, rfl⟩
  have hs : W0.heap.size = w.heap.size + 3 := by rw [hW0]; simp
  have hbw : Below w.heap.size w W0 := by rw [hW0]; exact (((Below.refl _ w).alloc (Nat.le_refl _) _).alloc (by simp) _).alloc (by simp; omega) _
  have x0 : Boxed W0 w.heap.size 42 (ifp 308 nb) := by rw [hW0]; exact ((Boxed.new w _ _).alloc _).alloc _
  have x3 : Boxed W0 (w.heap.size + 1) 310 (.slice none 0 0) := by rw [hW0]; have := Boxed.new (w.alloc (.cells #[ifp 308 nb] 42)) 310 (.slice none 0 0); rw [World.size_alloc] at this; exact this.alloc _
  have x4 : Boxed W0 (w.heap.size + 1 + 1) 218 (.int .u32 (m' : Int)) := by rw [hW0]; have := Boxed.new ((w.alloc (.cells #[ifp 308 nb] 42)).alloc (.cells #[.slice none 0 0] 310)) 218 (.int .u32 (m' : Int)); rw [World.size_alloc, World.size_alloc] at this; exact this
  have SQ := bitsSeq W0 (n₀ := w.heap.size) hmm x4 h2 (by omega) (tab_keep HT.out (hbw.block 2 h2))
  rw [← hW0]
  clear hW0
  refine wpIn_rangeFunc_ownF rfl (by decide) (gf := 322) (lb := #[.pointer (some ⟨w.heap.size + 1 + 1, 0, none⟩)]) rfl trivial (enters_of Tryz.func322 (by kernel_rfl) rfl) SQ belowK_t (belowK_b (by omega)) (Below.refl _ _) (fun _ => rfl)
    (fun pre W => (∃ v, Boxed W (w.heap.size + 1) 310 v ∧ W.ownsRow (w.heap.size + 3) 42 1 v pre.length (pre.map fun x => kidV m vs x.val) ∧ True) ∧ (Boxed W w.heap.size 42 (ifp 308 nb) ∧ (Below w.heap.size w W ∧ w.heap.size + 3 ≤ W.heap.size)))
    (fun _ _ _ => False)
    (OwnFrom.and (Own.from (holdsRow_own (w.heap.size + 3) (w.heap.size + 1) 310 42 1 (fun pre : List (Fin 32) => pre.length) (fun pre => pre.map fun x => kidV m vs x.val) (fun _ _ => True)) _)
      (OwnFrom.and (Own.from (boxed_own w.heap.size 42 (fun _ => ifp 308 nb)) _) (OwnFrom.and (ownFrom_below (Nat.le_refl _) (by omega)) (fun _ _ _ _ hs hg _ => Nat.le_trans hs hg.size))))
    (fun _ _ _ _ _ hs _ _ => hs)
    ⟨⟨_, x3, World.ownsRow_nil _ _ _ _, trivial⟩, x0, hbw, by omega⟩
    (fun x => { tmps := #[ifp 308 nb, Value.int IntKind.u32 ↑m', Value.pointer (some { block := w.heap.size, off := 0 }), undef, Value.nilIface, Value.pointer (some { block := w.heap.size + 1, off := 0 }), Value.int IntKind.i64 ↑x.val, undef, undef, Value.int IntKind.u32 ↑m', Value.func (Fn.func 322) #[] #[Value.pointer (some { block := w.heap.size + 1 + 1, off := 0 })], Value.int IntKind.i64 ↑x.val, undef, undef, undef, undef, undef, undef, undef, undef, undef, undef, undef, undef, undef], defers := [] }) ?assign ?body ?done ?stop
  case assign =>
    intro l x W K hK
    gi_wp2
    exact hK
  case body =>
    rintro l pre x W ⟨⟨v, hv, hrow, _⟩, y0, hB, hb5⟩ hlt
    have hWs := hB.size
    have hWz := x4.lt
    have hc0 := y0.cell
    have hc3 := hv.cell
    have CKD := Lib.hid (nodeKidV W (HBR.out.below rfl hB) x.isLt)
    rcases kidV_form H1.out m x.val with hkv | ⟨t2, b2, hkv⟩
    all_goals
      rw [hkv] at CKD
      gi_wp2_with first
        | (refine ⟨trivial, ?_⟩; ((with_reducible refine (CallsIn.inRound l ((callsIn_wide).2 CKD.out)).mono ?_)); rintro e w9 ⟨rfl, n9, rfl⟩; have hv' : Boxed (W.drewN n9) (w.heap.size + 1) 310 v := hv; have hrow' : (W.drewN n9).ownsRow (w.heap.size + 3) 42 1 v pre.length (pre.map fun x => kidV m vs x.val) := hrow; have hc3' := hv'.cell)
        | (gi_at_builtin; refine wpListIn_append_own _ rfl _ _ 310 rfl (w.heap.size + 3) 42 i0 .nilIface 1 16 Tryz.underlying310 hi hz0 hz1 hz2 rfl (by decide) _ _ _ rfl (hrow'.alloc _) ⟨W.heap.size, 0, none⟩ 1 1 [kidV m vs x.val] rfl rfl (by rw [hkv]; exact cell_one_new _ _ _) (by rw [hkv]; simp [Value.oneCell']) (by unfold maxLen; omega) (by omega) (by simp; omega) ?_; intro v' w1 hown' hgrow _; obtain ⟨g', cap', rfl⟩ := ownsRow_succ hown'; obtain ⟨hv1, hv2, hr2, hk2, hb2, hot⟩ := collect_step (n₀ := w.heap.size) hv' hrow' (by omega) (by omega) hb5 hown' hgrow; have hd1 := hv1.cell; have hd2 := hv1.frozen)
      exact ⟨⟨hk2.size, hk2.same⟩, (below_drewN _ W n9).trans hb2, ⟨_, hv2, by rw [List.length_append, List.map_append, List.map_cons]; simpa using hr2, trivial⟩, (hot _ (by omega) (by omega)).trans y0, hB.trans ((below_drewN _ W n9).trans hb2), Nat.le_trans hb5 hb2.size⟩
  case done =>
    rintro D xs W hD hS ⟨⟨v, hv, hrow, _⟩, y0, hB, hb5⟩ hK
    have hm1 : (xs.map fun x => kidV m vs x.val) = (bitsOf m').map (kidV m vs) := by rw [← hS, List.map_map]; rfl
    have hl1 : xs.length = (bitsOf m').length := by have := congrArg List.length hS; rwa [List.length_map] at this
    rw [hm1, hl1] at hrow
    obtain ⟨q, d, rfl⟩ := own_slice hrow
    have hc3 := hv.cell
    have CBW := Lib.hid (HCB.out W q d hB (by have := IsVs.own (base := w.heap.size + 3) (D := fun j => w.heap.size ≤ j) (vs := (bitsOf m').map (kidV m vs)) (fun j hj => by omega) (by rw [List.length_map]; exact hrow); exact this))
    clear hm1 hrow
    gi_wp2_with (refine ⟨trivial, ?_⟩; ((with_reducible refine ((callsIn_wide).2 CBW.out).mono ?_)); rintro e w5 ⟨⟨rv, rfl⟩, hR5, hb5'⟩; have hK5 := (hb5'.block D (row_ltT hK)).trans hK)
    refine ⟨by simp, .inl ⟨_, _, rfl, run_takeDeferred hK5, ?_⟩⟩
    refine ⟨_, results_tmp rfl _ _ _, ?_⟩
    exact HHR.out rv w5 _ _ D hR5 (by omega) hK5 rfl
  case stop =>
    rintro D c pre W _ _ h _
    exact h.elim
end Go.Proofs.YtmbiiemlepfoaaaGreatDoor
