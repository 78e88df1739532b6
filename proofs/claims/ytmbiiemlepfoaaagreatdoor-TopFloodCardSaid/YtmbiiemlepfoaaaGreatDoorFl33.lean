/- The walk of script.do: encode. A builder's writes, with what they leave alone. What stands while alive's text is played. The steps of alive's play. The walk of script.Play, for alive's text. The walk of script.Play, for alive's text. -/
import Derived.Test.YtmbiiemlepfoaaaGreatDoorFl32
import Derived.Test.YtmbiiemlepfoaaaGreatDoorFl24
import Derived.Test.YtmbiiemlepfoaaaGreatDoorFl01

namespace Go.Proofs.YtmbiiemlepfoaaaGreatDoor
open Go.RowKit
set_option linter.unusedVariables false
def bytesLine (l : List UInt8) : List UInt8 := [98, 121, 116, 101, 115] ++ 32 :: qt l ++ [10]
theorem tellBytes (W : World) (hS : Stat W) {q : Option Addr} {d : Nat} {l : List UInt8} (hB : IsB W q d l) (hl : l.length ≤ 2000) (hql : (qt l).length ≤ 90000) :
    Calls Tryz.prog 152 #[.int .i64 0, .slice (some ⟨W.heap.size, 0, none⟩) 2 2] (W.alloc (.cells #[.iface 9 (.string ⟨#[98, 121, 116, 101, 115]⟩), .iface 22 (.slice q l.length d)] 20)) fun e w' => e = .returned (.tuple #[.string (str (bytesLine l)), .bool true]) ∧ Below W.heap.size W w' := by
  obtain ⟨V, hV⟩ : ∃ V, V = W.alloc (.cells #[.iface 9 (.string ⟨#[98, 121, 116, 101, 115]⟩), .iface 22 (.slice q l.length d)] 20) := ⟨_, rfl⟩
  have hr : V.heap[W.heap.size]? = some (.cells #[.iface 9 (.string ⟨#[98, 121, 116, 101, 115]⟩), .iface 22 (.slice q l.length d)] 20) := by rw [hV]; exact heap_alloc_new W _
  have hb : Below W.heap.size W V := by rw [hV]; exact below1 W _
  rw [← hV]
  refine (scriptTold V _ (bytesLine l) ?_).mono fun e w' ⟨h1, h2⟩ => ⟨h1, hb.trans (h2.mono hb.size)⟩
  have hjl : (joinM [[98, 121, 116, 101, 115], qt l]).length ≤ 100000 := by rw [join2]; simp; omega
  refine (scriptLay V (hS.keep (le7 hb hS.big)) [.iface 9 (.string ⟨#[98, 121, 116, 101, 115]⟩), .iface 22 (.slice q l.length d)] [[98, 121, 116, 101, 115], qt l] (n := 2) rfl rfl (by omega) (row_ltB hr) ?_ ?_ hjl (by omega) (Nat.le_refl 2)).mono ?_
  · intro i x hx
    have hi : i < 2 := (List.getElem?_eq_some_iff.1 hx).1
    rw [cell_of_row V _ i _ _ (0, 0) hr]
    match i, hi with
    | 0, _ => exact hx
    | 1, _ => exact hx
  · intro i x t hx ht
    have hi : i < 2 := (List.getElem?_eq_some_iff.1 hx).1
    match i, hi with
    | 0, _ => cases hx; cases ht; exact .inl rfl
    | 1, _ => cases hx; cases ht; exact .inr (.inr ⟨q, d, l, rfl, hB.below hb, hl, rfl⟩)
  · rintro e w' ⟨rfl, hb'⟩
    rw [join2]
    exact ⟨rfl, hb'⟩
set_option maxHeartbeats 4000000 in
set_option maxRecDepth 100000 in
theorem doEnc (w : World) (hS : Stat w) {S D : Nat → Prop} {mp g sb r tk next : Nat} {l : List UInt8} {L : List (Nat × Ch)} (h : MapsAt w S D mp g sb r l tk L next) {x : Nat × Ch} (hx : L.find? (fun x => x.1 == 2) = some x) (hne : x.2.t.Neat) (hsz : x.2.t.size ≤ 1000000) (hfit : sizeM x.2.t ≤ 16777216)
    (B : List UInt8) (hB : mapB x.2.t.list = B) (hl : B.length ≤ 2000) (hql : (qt B).length ≤ 90000) :
    Calls Tryz.prog 77 #[.pointer (some ⟨mp, 0, none⟩), .agg csEnc.toArray] w fun e w' => e = .returned (.tuple #[.string (str (bytesLine B)), .bool true]) ∧ Below w.heap.size w w' := by
  have hbo : Below w.heap.size w (w.alloc (.cells csEnc.toArray 180)) := below1 w _
  have CX := Lib.hid (textEnc (w.alloc (.cells csEnc.toArray 180)) (hS.keep (le7 hbo hS.big)))
  have CP : Hid (∀ W, Below (w.alloc (.cells csEnc.toArray 180)).heap.size (w.alloc (.cells csEnc.toArray 180)) W → Calls Tryz.prog 12 #[.pointer (some ⟨mp, 0, none⟩), .int .i64 2] W fun e w' => ∃ q d, e = .returned (.tuple #[.slice q B.length d, .int .i64 0]) ∧ IsB w' q d B ∧ Stat w' ∧ Below W.heap.size W w') := Lib.hid (fun W hW => by
    have b := hbo.trans (hW.mono hbo.size)
    refine (mapsEncode W (h.below b) (hd := 2) hx hne hsz hfit).mono ?_
    rintro e w' ⟨q, d, rfl, ho, hb⟩
    rw [hB] at ho
    have b2 := b.trans (hb.mono b.size)
    exact ⟨q, d, by rw [hB], (OB.of_own ho).isB, hS.keep (le7 b2 hS.big), hb⟩)
  have CT : Hid (∀ W q d, Stat W → IsB W q d B → Calls Tryz.prog 152 #[.int .i64 0, .slice (some ⟨W.heap.size, 0, none⟩) 2 2] (W.alloc (.cells #[.iface 9 (.string ⟨#[98, 121, 116, 101, 115]⟩), .iface 22 (.slice q B.length d)] 20)) fun e w' => e = .returned (.tuple #[.string (str (bytesLine B)), .bool true]) ∧ Below W.heap.size W w') := Lib.hid (fun W q d hW hI => tellBytes W hW hI hl hql)
  have HBO := Lib.hid hbo
  clear h hS hx hne hsz hfit hB hl hql hbo
  unfold csEnc at *
  go_enter Tryz.func77, Tryz.ntmps77
  go_wp2_with first
    | (go_at_call 151; ((with_reducible refine (CX.out).mono ?_)); rintro e w2 ⟨rfl, hb2⟩; have r3 : w2.heap[w.heap.size]? = some (.cells #[.int .i64 17, .int .i64 2, .int .i64 0, .int .i64 0, .int .i64 0, .slice none 0 0, .slice none 0 0, .slice none 0 0, .slice none 0 0, .bool false] 180) := (hb2.block _ (by simp)).trans (heap_alloc_new w _); have z0 : w2.cell? ⟨w.heap.size, 0, none⟩ = some (.int .i64 17) := cell_of_row w2 _ 0 _ _ (0, 0) r3; have z1 : w2.cell? ⟨w.heap.size, 1, none⟩ = some (.int .i64 2) := cell_of_row w2 _ 1 _ _ (0, 0) r3; have z2 : w2.cell? ⟨w.heap.size, 2, none⟩ = some (.int .i64 0) := cell_of_row w2 _ 2 _ _ (0, 0) r3; have z3 : w2.cell? ⟨w.heap.size, 3, none⟩ = some (.int .i64 0) := cell_of_row w2 _ 3 _ _ (0, 0) r3; have z4 : w2.cell? ⟨w.heap.size, 4, none⟩ = some (.int .i64 0) := cell_of_row w2 _ 4 _ _ (0, 0) r3; have z5 : w2.cell? ⟨w.heap.size, 5, none⟩ = some (.slice none 0 0) := cell_of_row w2 _ 5 _ _ (0, 0) r3; have z6 : w2.cell? ⟨w.heap.size, 6, none⟩ = some (.slice none 0 0) := cell_of_row w2 _ 6 _ _ (0, 0) r3; have z7 : w2.cell? ⟨w.heap.size, 7, none⟩ = some (.slice none 0 0) := cell_of_row w2 _ 7 _ _ (0, 0) r3; have z8 : w2.cell? ⟨w.heap.size, 8, none⟩ = some (.slice none 0 0) := cell_of_row w2 _ 8 _ _ (0, 0) r3; have z9 : w2.cell? ⟨w.heap.size, 9, none⟩ = some (.bool false) := cell_of_row w2 _ 9 _ _ (0, 0) r3; have HB2 := Lib.hid hb2; clear hb2 r3)
    | (go_at_call 12; ((with_reducible refine (CP.out _ HB2.out).mono ?_)); rintro e w3 ⟨q, d, rfl, hib, hs3, hb3⟩; have HIB := Lib.hid hib; have HS3 := Lib.hid hs3; have HB3 := Lib.hid hb3; clear hib hs3 hb3)
    | (go_at_call 152; ((with_reducible refine (CT.out _ _ _ HS3.out HIB.out).mono ?_)); rintro e w4 ⟨rfl, hb4⟩; have HB4 := Lib.hid hb4; clear hb4)
    | fail
  go_ret2
  have b2 := HBO.out.trans (HB2.out.mono HBO.out.size)
  have b3 := b2.trans (HB3.out.mono b2.size)
  exact ⟨rfl, b3.trans (HB4.out.mono b3.size)⟩
def BdO (B b : Nat) (ob : Option Nat) (l : List UInt8) (w : World) : Prop :=
  B ≤ b ∧ ∃ p v, (p = .pointer none ∨ p = .pointer (some ⟨b, 0, none⟩)) ∧ w.heap[b]? = some (.cells #[p, v] 178 (0, 0)) ∧ w.ownsRow B 5 1 v (l.map bv).length (l.map bv) ∧ v.ownBlock ≠ some b ∧ v.ownBlock = ob
theorem BdO.bd {B b : Nat} {ob : Option Nat} {l : List UInt8} {w : World} (h : BdO B b ob l w) : Bd B b l w := by
  obtain ⟨hB, p, v, hp, h1, h2, h3, _⟩ := h
  rcases hp with rfl | rfl
  · exact .inl ⟨hB, v, h1, h2, h3⟩
  · exact .inr ⟨hB, v, h1, h2, h3⟩
theorem BdO.same {B b : Nat} {ob : Option Nat} {l : List UInt8} {w w1 : World} (h : BdO B b ob l w) {p v : Value} {t : TypeId} {fr : Nat × Nat} (hb : w1.heap[b]? = some (.cells #[p, v] t fr)) (hs : w1 = w ∨ w1 = w.setCell ⟨b, 0, none⟩ (.pointer (some ⟨b, 0, none⟩))) :
    v.ownBlock = ob ∧ w.grownBy w1 (some b) := by
  obtain ⟨hB, p', v', hp, h1, h2, h3, h4⟩ := h
  rcases hs with rfl | rfl
  · rw [h1] at hb
    injection hb with hb
    injection hb with hb _ _
    injection hb with hb
    simp at hb
    exact ⟨hb.2 ▸ h4, World.grownBy.refl _ _⟩
  · simp [World.setCell, Array.getElem?_modify, h1] at hb
    exact ⟨hb.1.2 ▸ h4, rfl, rfl, rfl, by simp [World.setCell], fun k _ hk => Below.heap_setCell w _ _ k (fun e => hk (by rw [e]))⟩
structure WroteX (w w' : World) (B b base : Nat) (ob : Option Nat) (l : List UInt8) : Prop where
  bd : ∃ ob', BdO B b ob' l w' ∧ ∀ g, ob' = some g → base ≤ g
  os : w'.os = w.os
  tape : w'.tape = w.tape
  output : w'.output = w.output
  size : w.heap.size ≤ w'.heap.size
  block : ∀ k, k < w.heap.size → k ≠ b → some k ≠ ob → w'.heap[k]? = w.heap[k]?
theorem wrote_x {w w1 w2 : World} {B b base : Nat} {ob : Option Nat} {l : List UInt8} {v v' : Value} {n : Nat} {p : Value} {xs : List Value} {t : TypeId} {fr : Nat × Nat} (h : Wrote w (w2.setCell ⟨b, 1, none⟩ v') B b l) (h1 : v.ownBlock = ob) (h2 : w.grownBy w1 (some b)) (hg : w1.grownBy w2 v.ownBlock)
    (hb2 : w2.heap[b]? = some (.cells #[p, v] t fr)) (ho : w2.ownsRow base 5 1 v' n xs) : WroteX w (w2.setCell ⟨b, 1, none⟩ v') B b base ob l := by
  have hbl : ∀ k, k < w.heap.size → k ≠ b → some k ≠ ob → (w2.setCell ⟨b, 1, none⟩ v').heap[k]? = w.heap[k]? := fun k hk hkb hko =>
    (Below.heap_setCell w2 _ _ k (fun e => hkb e)).trans ((hg.block k (Nat.lt_of_lt_of_le hk h2.size) (by rw [h1]; exact hko)).trans (h2.block k hk (by simpa using hkb)))
  refine ⟨?_, h.below.os, h.below.tape, h.below.output, h.below.size, hbl⟩
  have hrow : (w2.setCell ⟨b, 1, none⟩ v').heap[b]? = some (.cells #[p, v'] t fr) := by simp [World.setCell, Array.getElem?_modify, hb2]
  rcases h.bd with hb | hb
  all_goals
    obtain ⟨hB, u, g1, g2, g3⟩ := hb
    have hu : u = v' := by
      rw [hrow] at g1
      injection g1 with g1
      injection g1 with g1 _ _
      injection g1 with g1
      simp at g1
      exact g1.2.symm
    subst hu
    exact ⟨u.ownBlock, ⟨hB, _, u, by simp, g1, by simpa using g2, g3, rfl⟩, fun g hg => (ho.lt g hg).1⟩
set_option maxHeartbeats 1000000 in
set_option maxRecDepth 100000 in
theorem checkX (w : World) {B b : Nat} {l : List UInt8} (h : Bd B b l w) :
    Calls Tryz.prog 160 #[.pointer (some ⟨b, 0, none⟩)] w fun e w' => e = .returned (.tuple #[]) ∧ Check w w' B b l ∧ (w' = w ∨ w' = w.setCell ⟨b, 0, none⟩ (.pointer (some ⟨b, 0, none⟩))) := by
  obtain ⟨j, hj, hjs⟩ := Option.map_eq_some_iff.1 infoB
  rcases h with h | h
  · have h0 := h.cell0
    have hz := h.frozen0
    have hsh := h.shape
    have HB := Lib.hid h
    have u1 : ∀ W, W.shape? b = some (178, 2) → (convert 176 360 (.pointer (some ⟨b, 0, none⟩))).run Tryz.prog W = .ok (.pointer (some ⟨b, 0, none⟩)) W := fun W hW =>
      Lib.run_to_unsafe W ⟨b, 0, none⟩ Tryz.underlying176 Tryz.underlying360 hj (by rw [hjs]; decide) hW (Nat.zero_lt_succ 1)
    have u2 : ∀ W, W.shape? b = some (178, 2) → (convert 360 176 (.pointer (some ⟨b, 0, none⟩))).run Tryz.prog W = .ok (.pointer (some ⟨b, 0, none⟩)) W := fun W hW =>
      Lib.run_from_unsafe W ⟨b, 0, none⟩ Tryz.underlying360 Tryz.underlying176 hj hW (by kernel_rfl)
    have v1 := u1 w hsh
    have v2 := u2 w hsh
    clear h u1 u2
    go_enter Tryz.func160, Tryz.ntmps160
    go_wp2
    rw [run_callFunc_extern Tryz.func235 (by kernel_rfl) (by kernel_rfl) (by kernel_rfl) (e := Extern.AbiNoEscape.same) (by kernel_rfl)]
    rw [Lib.run_noEscape]
    simp only [Result.andThen]
    rw [Oper.upon_value]
    go_wp2
    go_end0
    exact ⟨rfl, ⟨HB.out.used _, (Below.refl B w).setCell (p := ⟨b, 0, none⟩) HB.out.1 _, (Lib.OthersKept.refl _ _ _).setCell ⟨b, 0, none⟩ rfl _⟩, .inr rfl⟩
  · have h0 := h.cell0
    have HB := Lib.hid h
    have hn := Lib.run_neq_ptr_same (P := Tryz.prog) w ⟨b, 0, none⟩ Tryz.underlying176 hj
    clear h
    go_enter Tryz.func160, Tryz.ntmps160
    go_wp2
    go_end0
    exact ⟨rfl, ⟨HB.out, Below.refl B _, Lib.OthersKept.refl _ _ _⟩, .inl rfl⟩
set_option maxHeartbeats 1000000 in
set_option maxRecDepth 100000 in
theorem wStrX (w : World) {B b : Nat} {ob : Option Nat} {l : List UInt8} (h : BdO B b ob l w) (base : Nat) (hB2 : B ≤ base) (hbase : base ≤ w.heap.size) (hnil : ob = none ∨ base = B) (s : ByteArray) (hl : l.length ≤ 1000000) (hs : s.size ≤ 1000000) (hB : B ≤ w.heap.size) :
    Calls Tryz.prog 78 #[.pointer (some ⟨b, 0, none⟩), .string s] w fun e w' => e = .returned (.tuple #[.int .i64 s.size, .nilIface]) ∧ WroteX w w' B b base ob (l ++ s.data.toList) := by
  obtain ⟨i0, hi, hz0, hz1, hz2⟩ := info_parts info5
  have HC := Lib.hid (checkX w h.bd)
  have HO := Lib.hid h
  clear h
  go_enter Tryz.func78, Tryz.ntmps78
  go_wp2_with fail
  refine HC.out.mono ?_
  rintro e w1 ⟨rfl, ⟨hat, hb1, hk1⟩, hsame⟩
  obtain ⟨hBb, v, hbk, hown, hne⟩ := hat
  have hob : v.ownBlock = ob ∧ w.grownBy w1 (some b) := HO.out.same hbk hsame
  have HOB := Lib.hid hob
  clear hob hsame HO
  have c1 : w1.cell? ⟨b, 1, none⟩ = some v := by rw [Lib.cell_of_heap hbk]; rfl
  have hs1 := hb1.size
  have HBK := Lib.hid hbk
  have hown2 : w1.ownsRow base 5 1 v (l.map bv).length (l.map bv) := by
    rcases hnil with h0 | h0
    · refine ⟨hown.1, ?_⟩
      rcases hown.2 with hq | ⟨g, cap, cur, hv, _⟩
      · exact .inl hq
      · have := HOB.out.1
        rw [hv, h0] at this
        cases this
    · rw [h0]; exact hown
  have HOWN2 := Lib.hid hown2
  clear hown2
  have HOWN := Lib.hid hown
  have HNE : Hid (v.ownBlock ≠ some b) := hne
  have HB1 := Lib.hid hb1
  have HK1 : Hid (Lib.OthersKept 5 (some b) w w1) := hk1
  clear HC hbk hown hne hb1 hk1
  go_wp2_with (at_builtin; refine Lib.wpList_append_own_string _ rfl _ _ 22 9 rfl base 5 i0 Tryz.underlying22 Tryz.underlying9 hi hz0 hz1 hz2 _ _ _ rfl HOWN2.out s rfl ?c3 ?c4 ?c5 ?_)
  case c3 => unfold maxLen; simp; omega
  case c4 => simp; omega
  case c5 => omega
  intro v' w2 hown'0 hgrow _
  have hown' := hown'0.mono hB2
  have hlt := row_ltB HBK.out
  have hb2 : w2.heap[b]? = some (.cells #[.pointer (some ⟨b, 0, none⟩), v] 178 (0, 0)) := by
    rw [hgrow.block b hlt (fun e => HNE.out e.symm)]
    exact HBK.out
  have d1 : w2.cell? ⟨b, 1, none⟩ = some v := by rw [Lib.cell_of_heap hb2]; rfl
  have f1 : w2.frozen? ⟨b, 1, none⟩ = false := Lib.frozen_of_heap hb2 1
  have hfin : Wrote w (w2.setCell ⟨b, 1, none⟩ v') B b (l ++ s.data.toList) := by
    refine ⟨.inr ?_, ?_, ?_⟩
    · refine Lib.BuilderAt.put hBb hb2 ?_ (by decide)
      rw [List.map_append, List.length_append, List.length_map, List.length_map]
      have : s.size = s.data.toList.length := by simp
      rw [← this]
      have hsc : Lib.strCells s = s.data.toList.map bv := rfl
      rw [hsc] at hown'
      simpa using hown'
    · exact (HB1.out.grown hgrow (by omega) (fun k hk => (HOWN.out.lt k hk).1)).setCell (p := ⟨b, 1, none⟩) hBb _
    · exact (HK1.out.grown hgrow (kind_of HOWN.out)).setCell ⟨b, 1, none⟩ rfl _
  have hfx : WroteX w (w2.setCell ⟨b, 1, none⟩ v') B b base ob (l ++ s.data.toList) := wrote_x hfin HOB.out.1 HOB.out.2 hgrow hb2 hown'0
  have HF := Lib.hid hfx
  obtain ⟨q, d, rfl⟩ := own_slq hown'
  clear hown' hown'0 hgrow hb2 hfin hfx c1
  go_wp2
  go_ret2
  exact ⟨rfl, HF.out⟩
theorem MapsAt.not_row {w : World} {S D : Nat → Prop} {mp g sb r tk next : Nat} {l : List UInt8} {L : List (Nat × Ch)} (h : MapsAt w S D mp g sb r l tk L next) {k : Nat} {cs : Array Value} {t : TypeId} {fr : Nat × Nat} (hr : w.heap[k]? = some (.cells cs t fr)) (h1 : t ≠ 189) (h2 : t ≠ 192) : k ≠ g ∧ k ≠ sb ∧ k ≠ r := by
  obtain ⟨q, d, hg, _⟩ := h.src
  obtain ⟨es, ck, hs, hm, _⟩ := h.shelf.row
  refine ⟨fun e => ?_, fun e => ?_, fun e => ?_⟩
  · subst e; rw [hr] at hg; injection hg with hg; injection hg with _ hg _; exact h1 hg
  · subst e; rw [hr] at hs; injection hs with hs; injection hs with _ hs _; exact h2 hs
  · subst e; rw [hr] at hm; cases hm
theorem MapsAt.kept_row {w w' : World} {S D : Nat → Prop} {mp g sb r tk next : Nat} {l : List UInt8} {L : List (Nat × Ch)} (h : MapsAt w S D mp g sb r l tk L next) (hk : Kept w w' (Wr g sb r)) {k : Nat} {cs : Array Value} {t : TypeId} {fr : Nat × Nat} (hr : w.heap[k]? = some (.cells cs t fr)) (h1 : t ≠ 189) (h2 : t ≠ 192) : w'.heap[k]? = some (.cells cs t fr) := by
  have h3 := h.not_row hr h1 h2
  exact (hk.block k (row_ltT hr) (fun hw => hw.elim h3.1 fun hw => hw.elim h3.2.1 h3.2.2)).trans hr
theorem MapsAt.keepX {w w' : World} {S D : Nat → Prop} {mp g sb r tk next : Nat} {l : List UInt8} {L : List (Nat × Ch)} (h : MapsAt w S D mp g sb r l tk L next) (hz : w.heap.size ≤ w'.heap.size)
    (hk : ∀ k, k < w.heap.size → (k = mp ∨ k = sb ∨ k = r ∨ S k ∨ D k) → w'.heap[k]? = w.heap[k]?) : MapsAt w' S D mp g sb r l tk L next := by
  refine ⟨(hk mp (row_ltT h.row) (.inl rfl)).trans h.row, ?_, h.shelf.keep hz (fun k hk' hd => hk k hk' (hd.elim (fun e => .inr (.inr (.inr (.inr e)))) fun hd => hd.elim (fun e => .inr (.inl e)) fun e => .inr (.inr (.inl e)))), h.dS, h.ds, h.dr, h.Ss, h.Sr, h.Sm, h.ms, h.mr, h.keys, fun j hj => Nat.lt_of_lt_of_le (h.Sb j hj) hz⟩
  obtain ⟨q, d, h1, h2, h3, h4⟩ := h.src
  refine ⟨q, d, (hk g (row_ltT h1) (.inr (.inr (.inr (.inl h3))))).trans h1, h2.same hz fun x hx hd => ?_, h3, h4⟩
  obtain ⟨b, o, rfl, _, hlt, _⟩ := h2.row x hx hd
  exact hk b hlt (.inr (.inr (.inr (.inl (h4 _ hx hd).2))))
theorem Ents.monoD {w : World} {D D' : Nat → Prop} (hd : ∀ k, k < w.heap.size → D k → D' k) : ∀ {L : List (Nat × Ch)} {es : List MapEntry}, Ents w D L es → Ents w D' L es
  | [], _, h => h
  | x :: L, es, h => by
    obtain ⟨e, es', rfl, h1, ⟨cv, h2, h3⟩, h4⟩ := h
    exact ⟨e, es', rfl, h1, ⟨cv, h2, h3.mono hd⟩, h4.monoD hd⟩
theorem MapsAt.monoD {w : World} {S D D' : Nat → Prop} {mp g sb r tk next : Nat} {l : List UInt8} {L : List (Nat × Ch)} (h : MapsAt w S D mp g sb r l tk L next) (hd : ∀ k, k < w.heap.size → D k → D' k) (hd' : ∀ k, D' k → D k) : MapsAt w S D' mp g sb r l tk L next := by
  obtain ⟨es, ck, h1, h2, h3, h4⟩ := h.shelf.row
  exact ⟨h.row, h.src, ⟨es, ck, h1, h2, h3.monoD hd, h4⟩, fun j hj => h.dS j (hd' j hj), fun e => h.ds (hd' _ e), fun e => h.dr (hd' _ e), h.Ss, h.Sr, h.Sm, h.ms, h.mr, h.keys, h.Sb⟩
structure PI (B0 b g sb r : Nat) (w2 W : World) : Prop where
  kept : ∀ k, k < b → k ≠ g → k ≠ sb → k ≠ r → W.heap[k]? = w2.heap[k]?
  below : Below B0 w2 W
  size : b < W.heap.size
theorem PI.next {B0 b g sb r : Nat} {w2 W W' : World} (h : PI B0 b g sb r w2 W) (hk : Kept W W' (Wr g sb r)) (hg : B0 ≤ g ∧ B0 ≤ sb ∧ B0 ≤ r) (hb : B0 ≤ b) : PI B0 b g sb r w2 W' :=
  ⟨fun k h1 h2 h3 h4 => (hk.block k (Nat.lt_trans h1 h.size) (fun hw => hw.elim h2 fun hw => hw.elim h3 h4)).trans (h.kept k h1 h2 h3 h4),
    h.below.trans (hk.to_below (by rintro k (rfl | rfl | rfl) <;> omega) (by have := h.size; omega)), Nat.lt_of_lt_of_le h.size hk.size⟩
theorem PI.write {B0 b g sb r base : Nat} {ob : Option Nat} {l : List UInt8} {w2 W W' : World} (h : PI B0 b g sb r w2 W) (hw : WroteX W W' b b base ob l) (ho : ∀ k, ob = some k → b ≤ k) (hb : B0 ≤ b) : PI B0 b g sb r w2 W' := by
  have hbl : ∀ k, k < b → W'.heap[k]? = W.heap[k]? := fun k hk => hw.block k (Nat.lt_trans hk h.size) (by omega) (fun e => by have := ho k e.symm; omega)
  exact ⟨fun k h1 h2 h3 h4 => (hbl k h1).trans (h.kept k h1 h2 h3 h4), h.below.trans ⟨hw.os, hw.tape, hw.output, hw.size, fun k hk => hbl k (by omega)⟩, Nat.lt_of_lt_of_le h.size hw.size⟩
theorem PI.row {B0 b g sb r : Nat} {w2 W : World} (h : PI B0 b g sb r w2 W) {S D : Nat → Prop} {mp tk next : Nat} {l : List UInt8} {L : List (Nat × Ch)} (hm : MapsAt w2 S D mp g sb r l tk L next) {k : Nat} {cs : Array Value} {t : TypeId} {fr : Nat × Nat} (hr : w2.heap[k]? = some (.cells cs t fr)) (h1 : t ≠ 189) (h2 : t ≠ 192) (hk : k < b) : W.heap[k]? = some (.cells cs t fr) := by
  have h3 := hm.not_row hr h1 h2
  exact (h.kept k hk h3.1 h3.2.1 h3.2.2).trans hr
theorem PI.ob {B0 b g sb r : Nat} {w2 W : World} (h : PI B0 b g sb r w2 W) {S D : Nat → Prop} {mp tk next : Nat} {l : List UInt8} {L : List (Nat × Ch)} (hm : MapsAt w2 S D mp g sb r l tk L next) {q : Option Addr} {d : Nat} {x : List UInt8} (ho : OB w2 q d x) (hk : ∀ a, q = some a → 0 < x.length → a.block < b) : OB W q d x :=
  ⟨ho.cap, ho.nil, ho.big, fun hl => by
    obtain ⟨c, o, cs, hq, hc, hx⟩ := ho.row hl
    exact ⟨c, o, cs, hq, h.row hm hc (by decide) (by decide) (hk _ hq hl), hx⟩⟩
theorem BdO.kept {W W' : World} {S D : Nat → Prop} {mp g sb r tk next b : Nat} {l : List UInt8} {L : List (Nat × Ch)} (hm : MapsAt W S D mp g sb r l tk L next) (hk : Kept W W' (Wr g sb r)) {ob : Option Nat} {m : List UInt8} (h : BdO b b ob m W) : BdO b b ob m W' := by
  obtain ⟨hB, p, v, hp, h1, h2, h3, h4⟩ := h
  refine ⟨hB, p, v, hp, hm.kept_row hk h1 (by decide) (by decide), ⟨h2.1, ?_⟩, h3, h4⟩
  rcases h2.2 with hq | ⟨g', cap, cur, hv, hg, hh, hrest⟩
  · exact .inl hq
  · exact .inr ⟨g', cap, cur, hv, hg, hm.kept_row hk hh (by decide) (by decide), hrest⟩
theorem BdO.below {W W' : World} {b : Nat} {ob : Option Nat} {m : List UInt8} (h : BdO b b ob m W) (hb : Below W.heap.size W W') : BdO b b ob m W' := by
  obtain ⟨hB, p, v, hp, h1, h2, h3, h4⟩ := h
  exact ⟨hB, p, v, hp, (hb.block _ (row_ltT h1)).trans h1, owns_belowq h2 hb, h3, h4⟩
theorem BdO.ob_lt {W : World} {b : Nat} {ob : Option Nat} {m : List UInt8} (h : BdO b b ob m W) : ∀ k, ob = some k → b ≤ k ∧ k < W.heap.size := by
  obtain ⟨hB, p, v, hp, h1, h2, h3, h4⟩ := h
  subst h4
  exact h2.lt
theorem MapsAt.write {W W' : World} {S D D' : Nat → Prop} {mp g sb r tk next b base : Nat} {l m : List UInt8} {L : List (Nat × Ch)} {ob : Option Nat} (h : MapsAt W S D mp g sb r l tk L next) (hw : WroteX W W' b b base ob m)
    (hd : ∀ k, k < W.heap.size → D k → D' k) (hd' : ∀ k, D' k → D k) (hDb : ∀ k, D k → k ≠ b ∧ some k ≠ ob) (hSb : ∀ k, S k → k < b) (hlt : mp < b ∧ g < b ∧ sb < b ∧ r < b) (hob : ∀ k, ob = some k → b ≤ k) : MapsAt W' S D' mp g sb r l tk L next := by
  refine (h.monoD hd hd').keepX hw.size fun k hk hc => ?_
  have hne : k ≠ b ∧ some k ≠ ob := by
    by_cases hD : D' k
    · exact hDb k (hd' k hD)
    · have hkb : k < b := by
        rcases hc with e | e | e | e | e
        · omega
        · omega
        · omega
        · exact hSb k e
        · exact absurd e hD
      exact ⟨by omega, fun e => by have := hob k e.symm; omega⟩
  exact hw.block k hk hne.1 hne.2
end Go.Proofs.YtmbiiemlepfoaaaGreatDoor
namespace Go.Proofs.YtmbiiemlepfoaaaGreatDoor
open Go.RowKit
set_option linter.unusedVariables false
def ch1 (l : List UInt8) : Ch := ⟨l.take 16, none, .nil⟩
def ch2 (l : List UInt8) : Ch := putCh [107] [118] (ch1 l)
def bytesKV : List UInt8 := [66, 82, 87, 49, 1, 1, 107, 1, 118]
theorem ch2_t (l : List UInt8) : (ch2 l).t = .node .nil [107] [118] .nil := by
  first | rfl | simp [ch2, putCh, ch1, putT]
theorem mapB_kv : mapB (T.node .nil [107] [118] .nil).list = bytesKV := by
  have e1 : enc 1 = [1] := by unfold enc encP; rfl
  show markL ++ (enc 1 ++ ((enc 1 ++ [107]) ++ (enc 1 ++ [118]) ++ [])) = bytesKV
  rw [e1]
  rfl
theorem neat_kv : (T.node .nil [107] [118] .nil).Neat := by
  intro x hx
  have : x = ([107], [118]) := by simpa [T.list] using hx
  subst this
  decide
theorem size_kv : sizeM (T.node .nil [107] [118] .nil) ≤ 16777216 := by
  rw [sizeM_enc, mapB_kv]
  decide
theorem qt_kv : (qt bytesKV).length ≤ 90000 := by decide
structure Ctx (B0 b mp g sb r : Nat) (w2 : World) (S D : Nat → Prop) (l : List UInt8) : Prop where
  low : 7 ≤ B0
  ge : B0 ≤ g ∧ B0 ≤ sb ∧ B0 ≤ r
  gb : B0 ≤ b
  lt : mp < b ∧ g < b ∧ sb < b ∧ r < b
  Sb : ∀ k, S k → k < b
  stat : Stat w2
  tab : TabAt 2 Lib.deBruijn32tab w2
  start : StartAt w2
  maps : MapsAt w2 S D mp g sb r l 0 [] 0
  len : 16 ≤ l.length
  Dge : ∀ j, b < j → D j
  Db : ∀ j, D j → j ≠ b
def outs (l : List UInt8) : Nat → List UInt8
  | 0 => []
  | 1 => handleLine 1
  | 2 => handleLine 1 ++ handleLine 2
  | _ => handleLine 1 ++ handleLine 2 ++ bytesLine bytesKV
section
variable {B0 b mp g sb r : Nat} {w2 : World} {S D : Nat → Prop} {l : List UInt8}
theorem Ctx.statW (C : Ctx B0 b mp g sb r w2 S D l) {W : World} (h : PI B0 b g sb r w2 W) : Stat W := C.stat.keep ⟨h.below.os, h.below.tape, h.below.output, h.below.size, fun k hk => h.below.block k (by have := C.low; omega)⟩
theorem Ctx.ge7 (C : Ctx B0 b mp g sb r w2 S D l) : 7 ≤ g ∧ 7 ≤ sb ∧ 7 ≤ r := by have := C.low; have := C.ge; omega
theorem dlen1 : (Lib.decDigits (0 + 1)).length ≤ 100 := by rw [show (0 + 1 : Nat) = 1 from rfl, dd1]; decide
theorem dlen2 : (Lib.decDigits (1 + 1)).length ≤ 100 := by rw [show (1 + 1 : Nat) = 2 from rfl, dd2]; decide
theorem playDo0 (C : Ctx B0 b mp g sb r w2 S D l) {W : World} (hp : PI B0 b g sb r w2 W) (hm : MapsAt W S D mp g sb r l 0 [] 0) (hb : BdO b b none [] W) :
    Calls Tryz.prog 77 #[.pointer (some ⟨mp, 0, none⟩), .agg csNew.toArray] W fun e W' => e = .returned (.tuple #[.string (str (handleLine 1)), .bool true]) ∧ PI B0 b g sb r w2 W' ∧ MapsAt W' S D mp g sb r (l.drop 16) 1 [(1, ch1 l)] 1 ∧ BdO b b none [] W' :=
  (doNew W (C.statW hp) hm (by decide) C.len (by omega) (by omega) dlen1 C.ge7).mono fun e W' ⟨h1, h2, h3⟩ => ⟨h1, hp.next h3 C.ge C.gb, h2, hb.kept hm h3⟩
theorem playDo1 (C : Ctx B0 b mp g sb r w2 S D l) {W : World} (hp : PI B0 b g sb r w2 W) {ob : Option Nat} (hm : MapsAt W S (fun j => D j ∧ some j ≠ ob) mp g sb r (l.drop 16) 1 [(1, ch1 l)] 1) (hb : BdO b b ob (handleLine 1) W) {q q2 : Option Addr} {d d2 : Nat} (hk : OB W q d [107]) (hv : OB W q2 d2 [118]) :
    Calls Tryz.prog 77 #[.pointer (some ⟨mp, 0, none⟩), .agg (csPut q d q2 d2).toArray] W fun e W' => e = .returned (.tuple #[.string (str (handleLine 2)), .bool true]) ∧ PI B0 b g sb r w2 W' ∧ MapsAt W' S (fun j => D j ∧ some j ≠ ob) mp g sb r (l.drop 16) 1 [(1, ch1 l), (2, ch2 l)] 2 ∧ BdO b b ob (handleLine 1) W' :=
  (doPut W (C.statW hp) (fun j hj => ⟨C.Dge j (Nat.lt_of_lt_of_le hp.size hj), fun e => by have := (hb.ob_lt j e.symm).2; omega⟩) hm (by simp) (by omega) dlen2 C.ge7 (x := (1, ch1 l)) rfl (by first | trivial | simp [ch1, fitO]) (by first | trivial | simp [ch1, T.Bal]) (by simp [ch1, T.size]) hk.isB hv.isB
    (tab_keep C.tab (hp.below.block 2 (by have := C.low; omega))) (StartAt.keep C.start (hp.below.block 0 (by have := C.low; omega)))).mono fun e W' ⟨h1, h2, h3⟩ => ⟨h1, hp.next h3 C.ge C.gb, h2, hb.kept hm h3⟩
theorem playDo2 (C : Ctx B0 b mp g sb r w2 S D l) {W : World} (hp : PI B0 b g sb r w2 W) {ob : Option Nat} {D2 : Nat → Prop} (hm : MapsAt W S D2 mp g sb r (l.drop 16) 1 [(1, ch1 l), (2, ch2 l)] 2) (hb : BdO b b ob (handleLine 1 ++ handleLine 2) W) :
    Calls Tryz.prog 77 #[.pointer (some ⟨mp, 0, none⟩), .agg csEnc.toArray] W fun e W' => e = .returned (.tuple #[.string (str (bytesLine bytesKV)), .bool true]) ∧ PI B0 b g sb r w2 W' ∧ BdO b b ob (handleLine 1 ++ handleLine 2) W' :=
  (doEnc W (C.statW hp) hm (x := (2, ch2 l)) rfl (by rw [ch2_t]; exact neat_kv) (by rw [ch2_t]; simp [T.size]) (by rw [ch2_t]; exact size_kv) bytesKV (by rw [ch2_t]; exact mapB_kv) (by decide) qt_kv).mono fun e W' ⟨h1, h2⟩ =>
    ⟨h1, hp.next (Kept.of_below h2) C.ge C.gb, hb.below h2⟩
theorem write0 (C : Ctx B0 b mp g sb r w2 S D l) {W : World} (hp : PI B0 b g sb r w2 W) (hm : MapsAt W S D mp g sb r (l.drop 16) 1 [(1, ch1 l)] 1) (hb : BdO b b none [] W) :
    Calls Tryz.prog 78 #[.pointer (some ⟨b, 0, none⟩), .string (str (handleLine 1))] W fun e W' => e = .returned (.tuple #[.int .i64 ((str (handleLine 1)).size : Int), .nilIface]) ∧ PI B0 b g sb r w2 W' ∧ ∃ ob, MapsAt W' S (fun j => D j ∧ some j ≠ ob) mp g sb r (l.drop 16) 1 [(1, ch1 l)] 1 ∧ BdO b b ob (handleLine 1) W' := by
  refine (wStrX W hb W.heap.size (Nat.le_of_lt hp.size) (Nat.le_refl _) (.inl rfl) (str (handleLine 1)) (by simp) (by rw [str_size]; show _ ≤ _; unfold handleLine; rw [dd1]; decide) (Nat.le_of_lt hp.size)).mono ?_
  rintro e W' ⟨rfl, hw⟩
  obtain ⟨ob', hb', hge⟩ := hw.bd
  rw [List.nil_append, str_data] at hb'
  refine ⟨rfl, hp.write hw (fun k hk => by cases hk) C.gb, ob', hm.write hw (fun k hk hd => ⟨hd, fun e => by have := hge k e.symm; omega⟩) (fun k h => h.1) (fun k h => ⟨C.Db k h, by simp⟩) C.Sb C.lt (fun k hk => by cases hk), hb'⟩
theorem write1 (C : Ctx B0 b mp g sb r w2 S D l) {W : World} (hp : PI B0 b g sb r w2 W) {ob : Option Nat} (hm : MapsAt W S (fun j => D j ∧ some j ≠ ob) mp g sb r (l.drop 16) 1 [(1, ch1 l), (2, ch2 l)] 2) (hb : BdO b b ob (handleLine 1) W) :
    Calls Tryz.prog 78 #[.pointer (some ⟨b, 0, none⟩), .string (str (handleLine 2))] W fun e W' => e = .returned (.tuple #[.int .i64 ((str (handleLine 2)).size : Int), .nilIface]) ∧ PI B0 b g sb r w2 W' ∧ ∃ ob D2, MapsAt W' S D2 mp g sb r (l.drop 16) 1 [(1, ch1 l), (2, ch2 l)] 2 ∧ BdO b b ob (handleLine 1 ++ handleLine 2) W' := by
  refine (wStrX W hb b (Nat.le_refl _) (Nat.le_of_lt hp.size) (.inr rfl) (str (handleLine 2)) (by unfold handleLine; rw [dd1]; decide) (by rw [str_size]; show _ ≤ _; unfold handleLine; rw [dd2]; decide) (Nat.le_of_lt hp.size)).mono ?_
  rintro e W' ⟨rfl, hw⟩
  obtain ⟨ob', hb', hge⟩ := hw.bd
  rw [str_data] at hb'
  refine ⟨rfl, hp.write hw (fun k hk => (hb.ob_lt k hk).1) C.gb, ob', _, hm.write hw (fun k hk hd => hd) (fun k h => h) (fun k h => ⟨C.Db k h.1, h.2⟩) C.Sb C.lt (fun k hk => (hb.ob_lt k hk).1), hb'⟩
theorem write2 (C : Ctx B0 b mp g sb r w2 S D l) {W : World} (hp : PI B0 b g sb r w2 W) {ob : Option Nat} (hb : BdO b b ob (handleLine 1 ++ handleLine 2) W) :
    Calls Tryz.prog 78 #[.pointer (some ⟨b, 0, none⟩), .string (str (bytesLine bytesKV))] W fun e W' => e = .returned (.tuple #[.int .i64 ((str (bytesLine bytesKV)).size : Int), .nilIface]) ∧ PI B0 b g sb r w2 W' ∧ ∃ ob, BdO b b ob (handleLine 1 ++ handleLine 2 ++ bytesLine bytesKV) W' := by
  refine (wStrX W hb b (Nat.le_refl _) (Nat.le_of_lt hp.size) (.inr rfl) (str (bytesLine bytesKV)) (by unfold handleLine; rw [dd1, dd2]; decide) (by rw [str_size]; decide) (Nat.le_of_lt hp.size)).mono ?_
  rintro e W' ⟨rfl, hw⟩
  obtain ⟨ob', hb', hge⟩ := hw.bd
  rw [str_data] at hb'
  exact ⟨rfl, hp.write hw (fun k hk => (hb.ob_lt k hk).1) C.gb, ob', hb'⟩
end
end Go.Proofs.YtmbiiemlepfoaaaGreatDoor
namespace Go.Proofs.YtmbiiemlepfoaaaGreatDoor
open Go.RowKit
set_option linter.unusedVariables false
structure ListAt (b gl : Nat) (q : Option Addr) (d : Nat) (q2 : Option Addr) (d2 : Nat) (w2 : World) : Prop where
  row : ∃ cur, w2.heap[gl]? = some (.cells cur 180) ∧ cur.toList.take 30 = cs0 2 ++ csPut q d q2 d2 ++ csEnc
  lt : gl < b
  k : OB w2 q d [107]
  v : OB w2 q2 d2 [118]
  klt : ∀ a, q = some a → a.block < b
  vlt : ∀ a, q2 = some a → a.block < b
def callI (q : Option Addr) (d : Nat) (q2 : Option Addr) (d2 : Nat) : Nat → List Value
  | 0 => csNew
  | 1 => csPut q d q2 d2
  | _ => csEnc
theorem ListAt.range {B0 b g sb r gl mp tk next : Nat} {q q2 : Option Addr} {d d2 : Nat} {w2 W : World} {S D : Nat → Prop} {l : List UInt8} {L : List (Nat × Ch)} (h : ListAt b gl q d q2 d2 w2) (hp : PI B0 b g sb r w2 W) (hm : MapsAt w2 S D mp g sb r l tk L next) (i : Nat) (hi : i < 3) : W.rangeAt gl (10 * i) (callI q d q2 d2 i) := by
  obtain ⟨cur, hr, hc⟩ := h.row
  have hrow := hp.row hm hr (by decide) (by decide) h.lt
  intro j v hv
  have hj : j < 10 := by
    have := (List.getElem?_eq_some_iff.1 hv).1
    match i, hi with
    | 0, _ => exact this
    | 1, _ => exact this
    | 2, _ => exact this
  have h1 : (cur.toList.take 30)[10 * i + j]? = some v := by
    rw [hc]
    match i, hi with
    | 0, _ =>
      rw [List.append_assoc, List.getElem?_append_left (by show 10 * 0 + j < 10; omega), show 10 * 0 + j = j from by omega]
      exact hv
    | 1, _ =>
      rw [List.append_assoc, List.getElem?_append_right (by show 10 ≤ 10 * 1 + j; omega), List.getElem?_append_left (by show 10 * 1 + j - 10 < 10; omega), show 10 * 1 + j - (cs0 2).length = j from by show 10 * 1 + j - 10 = j; omega]
      exact hv
    | 2, _ =>
      rw [List.append_assoc, List.getElem?_append_right (by show 10 ≤ 10 * 2 + j; omega), List.getElem?_append_right (by show 10 ≤ 10 * 2 + j - 10; omega), show 10 * 2 + j - (cs0 2).length - (csPut q d q2 d2).length = j from by show 10 * 2 + j - 10 - 10 = j; omega]
      exact hv
  rw [List.getElem?_take_of_lt (by omega), Array.getElem?_toList] at h1
  rw [cell_of_row W gl _ cur _ (0, 0) hrow]
  exact h1
def PlayI (B0 b mp g sb r : Nat) (w2 : World) (S D : Nat → Prop) (l : List UInt8) : Nat → World → Prop
  | 0, W => PI B0 b g sb r w2 W ∧ MapsAt W S D mp g sb r l 0 [] 0 ∧ BdO b b none [] W
  | 1, W => PI B0 b g sb r w2 W ∧ ∃ ob, MapsAt W S (fun j => D j ∧ some j ≠ ob) mp g sb r (l.drop 16) 1 [(1, ch1 l)] 1 ∧ BdO b b ob (handleLine 1) W
  | 2, W => PI B0 b g sb r w2 W ∧ ∃ ob D2, MapsAt W S D2 mp g sb r (l.drop 16) 1 [(1, ch1 l), (2, ch2 l)] 2 ∧ BdO b b ob (handleLine 1 ++ handleLine 2) W
  | _, W => PI B0 b g sb r w2 W ∧ ∃ ob, BdO b b ob (handleLine 1 ++ handleLine 2 ++ bytesLine bytesKV) W
theorem PlayI.pi {B0 b mp g sb r : Nat} {w2 W : World} {S D : Nat → Prop} {l : List UInt8} : ∀ {i : Nat}, PlayI B0 b mp g sb r w2 S D l i W → PI B0 b g sb r w2 W
  | 0, h => h.1
  | 1, h => h.1
  | 2, h => h.1
  | _ + 3, h => h.1
theorem PlayI.below {B0 b mp g sb r : Nat} {w2 W W' : World} {S D : Nat → Prop} {l : List UInt8} (C : Ctx B0 b mp g sb r w2 S D l) (hb : Below W.heap.size W W') : ∀ {i : Nat}, PlayI B0 b mp g sb r w2 S D l i W → PlayI B0 b mp g sb r w2 S D l i W'
  | 0, ⟨h1, h2, h3⟩ => ⟨h1.next (Kept.of_below hb) C.ge C.gb, h2.below hb, h3.below hb⟩
  | 1, ⟨h1, ob, h2, h3⟩ => ⟨h1.next (Kept.of_below hb) C.ge C.gb, ob, h2.below hb, h3.below hb⟩
  | 2, ⟨h1, ob, D2, h2, h3⟩ => ⟨h1.next (Kept.of_below hb) C.ge C.gb, ob, D2, h2.below hb, h3.below hb⟩
  | _ + 3, ⟨h1, ob, h3⟩ => ⟨h1.next (Kept.of_below hb) C.ge C.gb, ob, h3.below hb⟩
def outD : Nat → List UInt8
  | 0 => handleLine 1
  | 1 => handleLine 2
  | _ => bytesLine bytesKV
theorem playRound {B0 b mp g sb r gl : Nat} {w2 W : World} {S D : Nat → Prop} {l : List UInt8} {q q2 : Option Addr} {d d2 : Nat} (C : Ctx B0 b mp g sb r w2 S D l) (hl : ListAt b gl q d q2 d2 w2) (i : Nat) (hi : i < 3) (h : PlayI B0 b mp g sb r w2 S D l i W) :
    Calls Tryz.prog 77 #[.pointer (some ⟨mp, 0, none⟩), .agg (callI q d q2 d2 i).toArray] W fun e W' => e = .returned (.tuple #[.string (str (outD i)), .bool true]) ∧
      Calls Tryz.prog 78 #[.pointer (some ⟨b, 0, none⟩), .string (str (outD i))] W' fun e W'' => e = .returned (.tuple #[.int .i64 ((str (outD i)).size : Int), .nilIface]) ∧ PlayI B0 b mp g sb r w2 S D l (i + 1) W'' := by
  match i, hi, h with
  | 0, _, ⟨h1, h2, h3⟩ =>
    exact (playDo0 C h1 h2 h3).mono fun e W' ⟨e1, p1, p2, p3⟩ => ⟨e1, write0 C p1 p2 p3⟩
  | 1, _, ⟨h1, ob, h2, h3⟩ =>
    exact (playDo1 C h1 h2 h3 (h1.ob C.maps hl.k fun a ha _ => hl.klt a ha) (h1.ob C.maps hl.v fun a ha _ => hl.vlt a ha)).mono fun e W' ⟨e1, p1, p2, p3⟩ => ⟨e1, write1 C p1 p2 p3⟩
  | 2, _, ⟨h1, ob, D2, h2, h3⟩ =>
    exact (playDo2 C h1 h2 h3).mono fun e W' ⟨e1, p1, p3⟩ => ⟨e1, write2 C p1 p3⟩
theorem callI_ex (q : Option Addr) (d : Nat) (q2 : Option Addr) (d2 : Nat) (i : Nat) : ∃ a0 a1 a2 a3 a4 a5 a6 a7 a8 a9, callI q d q2 d2 i = [a0, a1, a2, a3, a4, a5, a6, a7, a8, a9] ∧ (#[a0, a1, a2, a3, a4, a5, a6, a7, a8, a9].all (·.oneCell')) = true := by
  match i with
  | 0 => exact ⟨_, _, _, _, _, _, _, _, _, _, rfl, by simp [Value.oneCell']⟩
  | 1 => exact ⟨_, _, _, _, _, _, _, _, _, _, rfl, by simp [Value.oneCell']⟩
  | n + 2 => exact ⟨_, _, _, _, _, _, _, _, _, _, rfl, by simp [Value.oneCell']⟩
def playOut : List UInt8 := handleLine 1 ++ handleLine 2 ++ bytesLine bytesKV
theorem parsed {w w1 : World} {q : Option Addr} {c : Nat} {vs : List Value} (ho : w1.ownsRow w.heap.size 180 10 (.slice q 3 c) 3 vs) (hc : CallsM 3 vs w1) :
    ∃ gl q1 d1 q2 d2, q = some ⟨gl, 0, none⟩ ∧ 3 ≤ c ∧ ∀ o, ListAt w1.heap.size gl q1 d1 q2 d2 (w1.alloc o) := by
  obtain ⟨ws2, l2, rfl, ⟨ws1, l1, rfl, ⟨ws0, l0, rfl, h0, h00⟩, h11⟩, h22⟩ := hc
  have e0 : ws0 = [] := h0
  have e00 : l0 = cs0 2 := h00
  obtain ⟨q1, d1, q2, d2, e11, hk, hv⟩ := h11
  have e22 : l2 = csEnc := h22
  subst e0 e00 e11 e22
  rcases ho.2 with ⟨hv', hn⟩ | ⟨gl, cap, cur, hv', hg, hh, hnc, hcm, hcs, ht⟩
  · omega
  · injection hv' with a1 a2 a3
    subst a1 a3
    refine ⟨gl, q1, d1, q2, d2, rfl, hnc, fun o => ⟨⟨cur, (haOld w1 o (row_ltT hh)).trans hh, by simpa using ht⟩, row_ltT hh, hk.below (below1 w1 o), hv.below (below1 w1 o), fun a ha => ?_, fun a ha => ?_⟩⟩
    · obtain ⟨b', o', cs', hq, hb', _⟩ := hk.row (by decide)
      rw [ha] at hq
      cases hq
      exact row_ltT hb'
    · obtain ⟨b', o', cs', hq, hb', _⟩ := hv.row (by decide)
      rw [ha] at hq
      cases hq
      exact row_ltT hb'
set_option maxHeartbeats 4000000 in
set_option maxRecDepth 100000 in
theorem scriptPlay (w : World) (hS : Stat w) {S D : Nat → Prop} (hD : ∀ j, w.heap.size ≤ j → D j) {B0 mp g sb r : Nat} {l : List UInt8} (hm : MapsAt w S D mp g sb r l 0 [] 0) (hl : 16 ≤ l.length) (hlow : 7 ≤ B0) (hge : B0 ≤ g ∧ B0 ≤ sb ∧ B0 ≤ r) (hB : B0 ≤ w.heap.size) (hT : TabAt 2 Lib.deBruijn32tab w) (hSA : StartAt w) :
    Calls Tryz.prog 29 #[.pointer (some ⟨mp, 0, none⟩), .string (str (restM 0))] w fun e w' => e = .returned (.tuple #[.string (str playOut), .int .i64 0, .int .i64 0]) ∧ Below B0 w w' := by
  have CP := Lib.hid (scriptParse w hS)
  have HC : Hid (∀ w1, Below w.heap.size w w1 → Ctx B0 w1.heap.size mp g sb r (w1.alloc (.cells #[.pointer none, .slice none 0 0] 178)) S (fun j => D j ∧ j ≠ w1.heap.size) l ∧ PlayI B0 w1.heap.size mp g sb r (w1.alloc (.cells #[.pointer none, .slice none 0 0] 178)) S (fun j => D j ∧ j ≠ w1.heap.size) l 0 (w1.alloc (.cells #[.pointer none, .slice none 0 0] 178))) := Lib.hid (fun w1 hb1 => by
    have ba := below1 w1 (.cells #[.pointer none, .slice none 0 0] 178)
    have b2 := hb1.trans (ba.mono hb1.size)
    have hz := hb1.size
    have hm1 := hm.below hb1
    have hm2 := (hm1.monoD (D' := fun j => D j ∧ j ≠ w1.heap.size) (fun k hk hd => ⟨hd, by omega⟩) (fun k h => h.1)).below ba
    obtain ⟨sq, sd, hg0, _⟩ := hm1.src
    obtain ⟨es, ck, hs0, hr0, _⟩ := hm1.shelf.row
    refine ⟨⟨hlow, hge, by omega, ⟨row_ltT hm1.row, row_ltT hg0, row_ltT hs0, row_ltT hr0⟩, fun k hk => hm1.Sb k hk, hS.keep (le7 b2 hS.big), tab_keep hT (b2.block 2 (by have := hS.big; omega)), StartAt.keep hSA (b2.block 0 (by have := hS.big; omega)), hm2, hl, fun j hj => ⟨hD j (by omega), by omega⟩, fun j h => h.2⟩, ⟨fun k _ _ _ _ => rfl, Below.refl _ _, by simp⟩, hm2, ?_⟩
    exact ⟨Nat.le_refl _, _, _, .inl rfl, heap_alloc_new w1 _, World.ownsRow_nil _ _ _ _, by simp [Value.ownBlock], rfl⟩)
  have HB0 := Lib.hid hB
  clear hS hm hT hSA hD hB
  go_enter Tryz.func29, Tryz.ntmps29
  go_wp2_with first
    | (go_at_call 76; ((with_reducible refine (CP.out).mono ?_)); rintro e w1 ⟨q, c, vs, rfl, ho, hcs, hb⟩; obtain ⟨gl, q1, d1, q2, d2, rfl, hc3, hla⟩ := parsed ho hcs; have HLA := Lib.hid hla; have HB := Lib.hid hb; have HC3 := Lib.hid hc3; clear ho hcs hla hb hc3)
    | fail
  obtain ⟨hCx, hP0⟩ := HC.out w1 HB.out
  have hL0 := HLA.out (.cells #[.pointer none, .slice none 0 0] 178)
  obtain ⟨w2, hw2⟩ : ∃ x, x = w1.alloc (.cells #[.pointer none, .slice none 0 0] 178) := ⟨_, rfl⟩
  rw [← hw2] at hCx hP0 hL0 ⊢
  have hb2 : Below w.heap.size w w2 := by rw [hw2]; exact HB.out.trans ((below1 w1 _).mono HB.out.size)
  have HCX := Lib.hid hCx
  have HP0 := Lib.hid hP0
  have HL0 := Lib.hid hL0
  have HB2 := Lib.hid hb2
  obtain ⟨b, hb⟩ : ∃ b, b = w1.heap.size := ⟨_, rfl⟩
  clear hCx hP0 hL0 hb2 hw2
  go_loopw [11, 13, 14, 15, 28] (fun v11 _ _ _ v28 wr => ∃ i : Nat, i ≤ 3 ∧ v28 = .int .i64 (i : Int) ∧ v11 = .int .i64 0 ∧ PlayI B0 w1.heap.size mp g sb r w2 S (fun j => D j ∧ j ≠ w1.heap.size) l i wr)
    (fun _ _ _ _ v28 _ => 3 - (intOf v28).toNat)
  case atStart => exact ⟨0, by omega, rfl, rfl, HP0.out⟩
  case round =>
    obtain ⟨i, hi, rfl, rfl, hI⟩ := hrel
    obtain ⟨wS, rfl⟩ : ∃ x, x = wr := ⟨_, rfl⟩
    by_cases h3 : i < 3
    · have hii : (i : Int) < 3 := by omega
      obtain ⟨a0, a1, a2, a3, a4, a5, a6, a7, a8, a9, hcall, hone⟩ := callI_ex q1 d1 q2 d2 i
      have hrg := HL0.out.range hI.pi HCX.out.maps i h3
      rw [hcall, Nat.mul_comm] at hrg
      have CR := Lib.hid (playRound HCX.out HL0.out i h3 (hI.below HCX.out (below1 wS (.cells #[a0, a1, a2, a3, a4, a5, a6, a7, a8, a9] 180))))
      rw [hcall] at CR
      have HRG := Lib.hid hrg
      have H3 := Lib.hid h3
      clear hrg hcall hI h3 hi
      go_wp2_with first
        | (refine wpList_load180 rfl _ rfl gl (i * 10) rfl [a0, a1, a2, a3, a4, a5, a6, a7, a8, a9] HRG.out rfl ?_)
        | (refine wpList_store_row rfl 180 _ _ rfl wS.heap.size rfl #[a0, a1, a2, a3, a4, a5, a6, a7, a8, a9] rfl 180 _ (heap_alloc_new wS _) (by rw [info_180]; rfl) (by rfl) hone ?_; rw [World.setRow_alloc_new])
        | (go_at_call 77; ((with_reducible refine (CR.out).mono ?_)); rintro e w3 ⟨rfl, hw3⟩; have CW := Lib.hid hw3; clear hw3)
        | (go_at_call 78; ((with_reducible refine (CW.out).mono ?_)); rintro e w4 ⟨rfl, hp4⟩; have HP4 := Lib.hid hp4; clear hp4)
        | fail
      refine ⟨⟨i + 1, by have := H3.out; omega, rfl, rfl, HP4.out⟩, ?_⟩
      have := H3.out
      show 3 - ((i : Int) + 1).toNat < 3 - (i : Int).toNat
      omega
    · obtain rfl : i = 3 := by omega
      obtain ⟨hpi, ob, hbd⟩ := hI
      have CS : Hid (Calls Tryz.prog 79 #[.pointer (some ⟨w1.heap.size, 0, none⟩)] wS fun e w' => e = .returned (.string (str playOut)) ∧ Below w1.heap.size wS w') := Lib.hid (Tryz.Builder_String_any w1.heap.size w1.heap.size _ wS hbd.bd (Nat.le_of_lt hpi.size))
      have HPI := Lib.hid hpi
      clear hpi hbd
      go_wp2_with first
        | (go_at_call 79; ((with_reducible refine (CS.out).mono ?_)); rintro e w5 ⟨rfl, hb5⟩)
        | fail
      go_ret3
      have hB := HB0.out
      have hb1 := HB.out.size
      exact ⟨rfl, ((belowLe HB2.out hB).trans HPI.out.below).trans (belowLe hb5 (by omega))⟩
end Go.Proofs.YtmbiiemlepfoaaaGreatDoor
