/- The walk of the reference's Read of a map's bytes. the given shelf's contracts at this seat, in plain words (printed by the kit's lay-plain) The walks of shelf's All and pmap's Handles, for a shelf that is empty. -/
import Derived.Test.YtmbiiemlepfoaaaGreatDoorBa20
import Derived.Test.YtmbiiemlepfoaaaGreatDoorBa15
import Derived.Deep.QuietTactic
import Derived.Deep.AppendLies
import Derived.Laws.AppendOwn
import Derived.Shelf.SlIterI.Nil
import Derived.Shelf.SortM.Plain
import Derived.Shelf.SortM.SortNone
import Derived.Ground.GgzProg
import Derived.Ground.SlgmProg
import Derived.Test.YtmbiiemlepfoaaaGreatDoorProg
import Derived.Test.YtmbiiemlepfoaaaGreatDoorBa31

/-! The walk of the reference's Read of a map's bytes. -/
namespace Go.Proofs.YtmbiiemlepfoaaaGreatDoor
open Go.RowKit
set_option linter.unusedVariables false

theorem readStr (w : World) (x : List UInt8) (hx : x.length ≤ 1000000) : Calls Tryz.prog 32 #[.string (str x)] w fun e w' => e = .returned (.tuple #[.int .u64 ((dec x).1 : Int), .string (str (x.drop (dec x).2.1)), .int .i64 ((dec x).2.2 : Int)]) ∧ ∃ n, w' = w.drewN n :=
  (refRead w (str x) hx).mono fun e w' ⟨t, he, ht, hn⟩ => ⟨by
    rw [str_data] at he ht
    rw [he, ← ht, str_of], hn⟩
theorem takeStr (w : World) (x : List UInt8) (hx : x.length ≤ 1000000) : Calls Tryz.prog 33 #[.string (str x), .int .i64 65536] w fun e w' => e = .returned (.tuple #[.string (str (textOp x 0 65536).1), .string (str (textOp x 0 65536).2.1), .int .i64 ((textOp x 0 65536).2.2 : Int)]) ∧ Below w.heap.size w w' :=
  (refTake w (str x) hx 65536 65536 (by omega) (by omega)).mono fun e w' ⟨t, r, he, ht, hr, hb⟩ => ⟨by
    rw [str_data] at he ht hr
    rw [he, ← ht, ← hr, str_of, str_of], hb⟩
theorem lessStr (w : World) (a b : List UInt8) (ha : a.length ≤ 1000000) (hb : b.length ≤ 1000000) : Calls Tryz.prog 34 #[.string (str a), .string (str b)] w fun e w' => e = .returned (.bool (lessB a b)) ∧ ∃ n, w' = w.drewN n :=
  (refLess (str a) (str b) w (by rw [str_size]; omega) (by rw [str_size]; omega))
theorem cut4 (b : List UInt8) : (str b).extract 4 b.length = str (b.drop 4) := by
  rw [← str_of ((str b).extract 4 b.length)]
  congr 1
  exact Lib.extract_to_end (str b) 4
theorem textOp_restO' (l : List UInt8) (m : Nat) : (textOp l 0 m).2.1.length ≤ l.length := by
  rw [textOp_zero]
  split
  · split
    · exact Nat.le_refl _
    · split
      · exact Nat.le_refl _
      · simp only [List.length_drop]; omega
  · exact Nat.le_refl _
theorem textOp_len (l : List UInt8) (m : Nat) : (textOp l 0 m).1.length ≤ l.length := by
  rw [textOp_zero]
  split
  · split
    · exact Nat.zero_le _
    · split
      · exact Nat.zero_le _
      · simp only [List.length_take, List.length_drop]; omega
  · exact Nat.zero_le _
def cellsS (L : List PairT) : List Value := L.flatMap fun x => [.string (str x.1), .string (str x.2)]

theorem own_belowS {w w' : World} {b e s n : Nat} {v : Value} {xs : List Value} (h : w.ownsRow b e s v n xs) (hb : Below w.heap.size w w') : w'.ownsRow b e s v n xs := by
  refine h.kept (row := none) ⟨hb.os, hb.tape, hb.output, hb.size, fun k hk _ => hb.block k hk⟩ ?_
  cases hv : v.ownBlock with
  | none => exact .inl rfl
  | some r => exact .inr (by simp)
theorem own_sliceS {w : World} {base n e s : Nat} {v : Value} {vs : List Value} (ho : w.ownsRow base e s v n vs) : ∃ q d, v = .slice q n d := by
  rcases ho.2 with ⟨hv, hn⟩ | ⟨g, cap, cur, hv, _⟩
  · exact ⟨none, 0, by rw [hv, hn]⟩
  · exact ⟨_, _, hv⟩
theorem info100 : (Tryz.prog.info? 100).map (fun i => (i.zero, i.size, i.bytes)) = some (some (.agg #[.string ⟨#[]⟩, .string ⟨#[]⟩]), 2, 32) := by kernel_rfl
theorem cellsS_append (A B : List PairT) : cellsS (A ++ B) = cellsS A ++ cellsS B := by unfold cellsS; rw [List.flatMap_append]
theorem cellsS_length : ∀ L : List PairT, (cellsS L).length = L.length * 2
  | [] => rfl
  | x :: L => by
    have := cellsS_length L
    show (Value.string (str x.1) :: Value.string (str x.2) :: cellsS L).length = _
    simp only [List.length_cons, this]
    omega
theorem last_cell {w : World} {base c : Nat} {q : Option Addr} {L' : List PairT} {y : PairT} (h : w.ownsRow base 100 2 (.slice q (L' ++ [y]).length c) (L' ++ [y]).length (cellsS (L' ++ [y]))) :
    ∃ g, q = some ⟨g, 0, none⟩ ∧ (L' ++ [y]).length ≤ c ∧ w.cell? ⟨g, L'.length * 2, none⟩ = some (.string (str y.1)) := by
  rcases h.2 with ⟨hv, hn⟩ | ⟨g, cap, cur, hv, hg, hh, hnc, _⟩
  · simp at hn
  · injection hv with h1 h2 h3
    subst h1; subst h3
    refine ⟨g, rfl, hnc, ?_⟩
    have hc := cellsS_length L'
    have := h.cells (g := g) rfl (L'.length * 2) (.string (str y.1)) (by
      rw [cellsS_append, List.getElem?_append_right (by omega), show L'.length * 2 - (cellsS L').length = 0 from by omega]
      rfl)
    simpa [Addr.add_lit] using this
theorem str_inj {a b : List UInt8} (h : str a = str b) : a = b := by
  have := congrArg (fun x : ByteArray => x.data.toList) h
  exact this
def Ref27R (w : World) (e0 : Nat) (e : Ending) (w' : World) : Prop := ∃ v, e = .returned (.tuple #[v, .int .i64 (e0 : Int)]) ∧ Below w.heap.size w w'

set_option maxHeartbeats 4000000 in
set_option maxRecDepth 100000 in
theorem ref27Read (w : World) (b : List UInt8) (hl : b.length ≤ 1000000) : Calls Tryz.prog 8 #[.string (str b)] w (Ref27R w (readM b).2) := by
  obtain ⟨R, hR⟩ : ∃ R, readM b = R := ⟨_, rfl⟩
  rw [hR]
  have HR := Lib.hid hR
  clear hR
  have hsz : (str b).size = b.length := rfl
  obtain ⟨i0, hi0, hz0, hz1, hz2⟩ := info_parts info100
  go_enter Tryz.func8, Tryz.ntmps8
  go_wp2
  go_loopw [4] (fun v4 wr => ∃ i n : Nat, v4 = .int .i64 i ∧ i ≤ 4 ∧ wr = w.drewN n ∧ Hid (beginsGo (markL.drop i) (b.drop i) = beginsM b)) (fun v4 _ => 4 - (intOf v4).toNat)
  case atStart => exact ⟨0, 0, rfl, by omega, rfl, rfl⟩
  case round =>
    obtain ⟨i, n, rfl, hi, rfl, HI⟩ := hrel
    by_cases h4 : i < 4
    · by_cases h1 : i < b.length
      · have g1 : (i : Int) < (b.length : Int) := by omega
        have hd : b.drop i = b[i] :: b.drop (i + 1) := List.drop_eq_getElem_cons h1
        have HD := Lib.hid hd
        clear hd
        obtain ⟨m, hm, hms⟩ : ∃ m : UInt8, markL.drop i = m :: markL.drop (i + 1) ∧ (i = 0 ∧ m = 66 ∨ i = 1 ∧ m = 82 ∨ i = 2 ∧ m = 87 ∨ i = 3 ∧ m = 49) := by
          have : i = 0 ∨ i = 1 ∨ i = 2 ∨ i = 3 := by omega
          rcases this with rfl | rfl | rfl | rfl
          · exact ⟨66, rfl, .inl ⟨rfl, rfl⟩⟩
          · exact ⟨82, rfl, .inr (.inl ⟨rfl, rfl⟩)⟩
          · exact ⟨87, rfl, .inr (.inr (.inl ⟨rfl, rfl⟩))⟩
          · exact ⟨49, rfl, .inr (.inr (.inr ⟨rfl, rfl⟩))⟩
        have hg := HI.out
        rw [hm, HD.out, beginsGo] at hg
        by_cases he : b[i] = m
        · rw [if_pos he] at hg
          have HG := Lib.hid hg
          clear hg hm HI HD
          rcases hms with ⟨rfl, rfl⟩ | ⟨rfl, rfl⟩ | ⟨rfl, rfl⟩ | ⟨rfl, rfl⟩
          · have hq : ((((str b)[0]'(by rw [str_size]; exact h1)).toNat : Int) != (((ByteArray.mk #[66, 82, 87, 49])[0]'(by decide)).toNat : Int)) = false := by show ((b[0].toNat : Int) != 66) = false; rw [he]; rfl
            have hne : b ≠ [] := fun e => by rw [e] at h1; cases h1
            have gd : decide (b = []) = false := decide_eq_false hne
            clear hne
            clear he
            go_wp2
            go_quiet (fail)
            go_wp2
            go_roundw
            case rel => exact ⟨1, _, rfl, by omega, rfl, HG.out⟩
            case measure => simp [intOf]
          · have hq : ((((str b)[1]'(by rw [str_size]; exact h1)).toNat : Int) != (((ByteArray.mk #[66, 82, 87, 49])[1]'(by decide)).toNat : Int)) = false := by show ((b[1].toNat : Int) != 82) = false; rw [he]; rfl
            have gd : decide ((b.length : Int) ≤ 1) = false := decide_eq_false (by omega)
            have g1' : (1 : Int) < (b.length : Int) := g1
            clear g1
            clear he
            go_wp2
            go_quiet (fail)
            go_wp2
            go_roundw
            case rel => exact ⟨2, _, rfl, by omega, rfl, HG.out⟩
            case measure => simp [intOf]
          · have hq : ((((str b)[2]'(by rw [str_size]; exact h1)).toNat : Int) != (((ByteArray.mk #[66, 82, 87, 49])[2]'(by decide)).toNat : Int)) = false := by show ((b[2].toNat : Int) != 87) = false; rw [he]; rfl
            have gd : decide ((b.length : Int) ≤ 2) = false := decide_eq_false (by omega)
            have g1' : (2 : Int) < (b.length : Int) := g1
            clear g1
            clear he
            go_wp2
            go_quiet (fail)
            go_wp2
            go_roundw
            case rel => exact ⟨3, _, rfl, by omega, rfl, HG.out⟩
            case measure => simp [intOf]
          · have hq : ((((str b)[3]'(by rw [str_size]; exact h1)).toNat : Int) != (((ByteArray.mk #[66, 82, 87, 49])[3]'(by decide)).toNat : Int)) = false := by show ((b[3].toNat : Int) != 49) = false; rw [he]; rfl
            have gd : decide ((b.length : Int) ≤ 3) = false := decide_eq_false (by omega)
            have g1' : (3 : Int) < (b.length : Int) := g1
            clear g1
            clear he
            go_wp2
            go_quiet (fail)
            go_wp2
            go_roundw
            case rel => exact ⟨4, _, rfl, by omega, rfl, HG.out⟩
            case measure => simp [intOf]
        · rw [if_neg he] at hg
          have hRR : R = ([], 2) := by rw [← HR.out]; unfold readM; rw [← hg]; rfl
          have HRR := Lib.hid hRR
          have hne : b[i].toNat ≠ m.toNat := fun e => he (UInt8.toNat_inj.1 e)
          clear hg hm HI HD he hRR
          rcases hms with ⟨rfl, rfl⟩ | ⟨rfl, rfl⟩ | ⟨rfl, rfl⟩ | ⟨rfl, rfl⟩
          · have hq : ((((str b)[0]'(by rw [str_size]; exact h1)).toNat : Int) != (((ByteArray.mk #[66, 82, 87, 49])[0]'(by decide)).toNat : Int)) = true := by
              show ((b[0].toNat : Int) != 66) = true
              rw [bne_iff_ne]
              intro h
              have h' : b[0].toNat = 66 := by omega
              exact hne h'
            have hne : b ≠ [] := fun e => by rw [e] at h1; cases h1
            have gd : decide (b = []) = false := decide_eq_false hne
            clear hne
            clear hne
            go_wp2
            go_quiet (fail)
            go_wp2
            go_ret2
            rw [HRR.out]
            exact ⟨_, rfl, Go.below_drewN (Go.below_drewN (Below.refl _ _) _) _⟩
          · have hq : ((((str b)[1]'(by rw [str_size]; exact h1)).toNat : Int) != (((ByteArray.mk #[66, 82, 87, 49])[1]'(by decide)).toNat : Int)) = true := by
              show ((b[1].toNat : Int) != 82) = true
              rw [bne_iff_ne]
              intro h
              have h' : b[1].toNat = 82 := by omega
              exact hne h'
            have gd : decide ((b.length : Int) ≤ 1) = false := decide_eq_false (by omega)
            have g1' : (1 : Int) < (b.length : Int) := g1
            clear g1
            clear hne
            go_wp2
            go_quiet (fail)
            go_wp2
            go_ret2
            rw [HRR.out]
            exact ⟨_, rfl, Go.below_drewN (Go.below_drewN (Below.refl _ _) _) _⟩
          · have hq : ((((str b)[2]'(by rw [str_size]; exact h1)).toNat : Int) != (((ByteArray.mk #[66, 82, 87, 49])[2]'(by decide)).toNat : Int)) = true := by
              show ((b[2].toNat : Int) != 87) = true
              rw [bne_iff_ne]
              intro h
              have h' : b[2].toNat = 87 := by omega
              exact hne h'
            have gd : decide ((b.length : Int) ≤ 2) = false := decide_eq_false (by omega)
            have g1' : (2 : Int) < (b.length : Int) := g1
            clear g1
            clear hne
            go_wp2
            go_quiet (fail)
            go_wp2
            go_ret2
            rw [HRR.out]
            exact ⟨_, rfl, Go.below_drewN (Go.below_drewN (Below.refl _ _) _) _⟩
          · have hq : ((((str b)[3]'(by rw [str_size]; exact h1)).toNat : Int) != (((ByteArray.mk #[66, 82, 87, 49])[3]'(by decide)).toNat : Int)) = true := by
              show ((b[3].toNat : Int) != 49) = true
              rw [bne_iff_ne]
              intro h
              have h' : b[3].toNat = 49 := by omega
              exact hne h'
            have gd : decide ((b.length : Int) ≤ 3) = false := decide_eq_false (by omega)
            have g1' : (3 : Int) < (b.length : Int) := g1
            clear g1
            clear hne
            go_wp2
            go_quiet (fail)
            go_wp2
            go_ret2
            rw [HRR.out]
            exact ⟨_, rfl, Go.below_drewN (Go.below_drewN (Below.refl _ _) _) _⟩
      · have hd : b.drop i = [] := List.drop_eq_nil_of_le (by omega)
        have hg := HI.out
        rw [hd] at hg
        have hres : beginsM b = 3 := by
          rw [← hg]
          have : i = 0 ∨ i = 1 ∨ i = 2 ∨ i = 3 := by omega
          rcases this with rfl | rfl | rfl | rfl <;> rfl
        have hRR : R = ([], 3) := by rw [← HR.out]; unfold readM; rw [hres]; rfl
        have HRR := Lib.hid hRR
        have g1 : ¬ (i : Int) < (b.length : Int) := by omega
        clear hd hg hres HI hRR
        go_wp2
        go_ret2
        rw [HRR.out]
        exact ⟨_, rfl, Go.below_drewN (Below.refl _ _) _⟩
    · have hi4 : i = 4 := by omega
      subst hi4
      have hb0 : beginsM b = 0 := HI.out.symm
      have hform := begins_zero _ _ hb0
      have hb4 : 4 ≤ b.length := by rw [hform]; simp [markL]
      obtain ⟨B, hB⟩ : ∃ B, b.drop 4 = B := ⟨_, rfl⟩
      have hld : B.length = b.length - 4 := by rw [← hB]; exact List.length_drop
      have hre : R = if (dec B).2.2 ≠ 0 then ([], (dec B).2.2) else if 1048576 < (dec B).1 then ([], 4) else pairsM (dec B).1 (B.drop (dec B).2.1) none [] := by
        rw [← HR.out]; unfold readM; rw [if_neg (by rw [hb0]; simp), hB]
      have hdb := fun (h : (dec B).2.2 = 0) => show (dec B).1 < 18446744073709551616 from by
        obtain ⟨x, y, z, hd⟩ : ∃ x y z, dec B = (x, y, z) := ⟨_, _, _, rfl⟩
        rw [hd] at h ⊢
        dsimp only at h
        subst h
        exact (dec_back hd).2.2.2
      have CN := Lib.hid (fun w' => readStr w' B (by omega))
      obtain ⟨n0, u, e, hd⟩ : ∃ n u e, dec B = (n, u, e) := ⟨_, _, _, rfl⟩
      rw [hd] at hre CN hdb
      dsimp only at hre CN hdb
      have hex : (str b).extract 4 b.length = str B := by rw [← hB]; exact cut4 b
      have HRE := Lib.hid hre
      have hlen4 : (4 : Int) ≤ (b.length : Int) := by omega
      clear hform hb0 HI hre hB hd
      by_cases he : e = 0
      · subst he
        by_cases hn : 1048576 < n0
        · have hRR : R = ([], 4) := by rw [HRE.out, if_neg (by simp), if_pos hn]
          have HRR := Lib.hid hRR
          have gn : decide ((1048576 : Int) < (n0 : Int)) = true := by rw [decide_eq_true_iff]; omega
          clear hRR hn
          go_wp2_with first
            | (go_at_call 32; ((with_reducible refine (CN.out _).mono ?_)); rintro e w2 ⟨rfl, k2, rfl⟩)
          go_ret2
          rw [HRR.out]
          exact ⟨_, rfl, Go.below_drewN (Below.refl _ _) _⟩
        · have gn : decide ((1048576 : Int) < (n0 : Int)) = false := by rw [decide_eq_false_iff_not]; omega
          have hn64 : n0 ≤ 1048576 := by omega
          have hRL : R = pairsM n0 (B.drop u) none [] := by rw [HRE.out, if_neg (by simp), if_neg hn]
          have HRL := Lib.hid hRL
          have hrl0 : (B.drop u).length ≤ 1000000 := by rw [List.length_drop]; omega
          clear hRL hn
          go_wp2_with first
            | (go_at_call 32; ((with_reducible refine (CN.out _).mono ?_)); rintro e w2 ⟨rfl, k2, rfl⟩)
          go_loopw [6, 8, 9] (fun v6 v8 v9 wr => ∃ (L : List PairT) (q8 : Option Addr) (c8 : Nat) (rest : List UInt8), v6 = .string (str rest) ∧ v8 = .slice q8 L.length c8 ∧ v9 = .int .u64 (L.length : Int) ∧ L.length ≤ n0 ∧ wr.ownsRow w.heap.size 100 2 (.slice q8 L.length c8) L.length (cellsS L) ∧ rest.length ≤ 1000000 ∧ (∀ x ∈ L, x.1.length ≤ 1000000) ∧ Below w.heap.size w wr ∧ Hid (R = pairsM (n0 - L.length) rest (L.getLast?.map (·.1)) L)) (fun _ _ v9 _ => n0 - (intOf v9).toNat)
          case atStart => exact ⟨[], none, 0, B.drop u, rfl, rfl, rfl, Nat.zero_le _, World.ownsRow_nil _ _ _ _, hrl0, fun _ h => (by cases h), Go.below_drewN (Below.refl _ _) _, HRL.out⟩
          case round =>
            obtain ⟨L, q8, c8, rest, rfl, rfl, rfl, hLn, how, hrl, hkl, hbw, HI2⟩ := hrel
            by_cases hlt : L.length < n0
            · have hii := HI2.out
              rw [show n0 - L.length = (n0 - (L.length + 1)) + 1 from by omega, pairsM] at hii
              have g1 : (L.length : Int) < (n0 : Int) := by omega
              have CT1 := Lib.hid (fun w' => takeStr w' rest hrl)
              have ht1l := textOp_restO' rest 65536
              have hk1l := textOp_len rest 65536
              obtain ⟨k, r1, e1, ht1⟩ : ∃ k r1 e1, textOp rest 0 65536 = (k, r1, e1) := ⟨_, _, _, rfl⟩
              rw [ht1] at CT1 ht1l hk1l
              dsimp only at CT1 ht1l hk1l
              have HT1 := Lib.hid ht1
              have CT2 := Lib.hid (fun w' => takeStr w' r1 (by omega))
              have ht2l := textOp_restO' r1 65536
              obtain ⟨v, r2, e2, ht2⟩ : ∃ v r2 e2, textOp r1 0 65536 = (v, r2, e2) := ⟨_, _, _, rfl⟩
              rw [ht2] at CT2 ht2l
              dsimp only at CT2 ht2l
              have HT2 := Lib.hid ht2
              have HII := Lib.hid hii
              have HOW := Lib.hid how
              have HBW := Lib.hid hbw
              clear ht1 ht2 HI2 hii how hbw
              by_cases he1 : e1 = 0
              · subst he1
                rcases List.eq_nil_or_concat L with hL0 | ⟨L', y, hL'⟩
                · have h0 : L.length = 0 := by rw [hL0]; rfl
                  have gz : decide ((L.length : Int) > 0) = false := by rw [decide_eq_false_iff_not]; omega
                  have gz2 : ¬ (0 : Int) < (L.length : Int) := by omega
                  have HL0 := Lib.hid hL0
                  clear h0 hL0
                  by_cases he2 : e2 = 0
                  · subst he2
                    have hst : oneM rest (L.getLast?.map (·.1)) = ((k, v), r2, 0) := by
                      rw [HL0.out]; unfold oneM; rw [HT1.out]; dsimp only; rw [if_neg (by simp), if_neg (by simp), if_neg (by simp), HT2.out]
                    have hII2 : R = pairsM (n0 - (L.length + 1)) r2 (some k) (L ++ [(k, v)]) := by rw [HII.out, hst]; rfl
                    have HI3 := Lib.hid hII2
                    clear hst hII2
                    go_wp2_with first
                      | (go_at_call 33; ((with_reducible refine (CT1.out _).mono ?_)); rintro e w3 ⟨rfl, hb3⟩; have HB3 := Lib.hid (HBW.out.trans (hb3.mono HBW.out.size)); have HOW3 := Lib.hid (own_belowS HOW.out hb3); clear hb3)
                      | (go_at_call 33; ((with_reducible refine (CT2.out _).mono ?_)); rintro e w5 ⟨rfl, hb5⟩; have HB5 := Lib.hid (HB3.out.trans (hb5.mono HB3.out.size)); have HOW5 := Lib.hid (own_belowS HOW3.out hb5); clear hb5)
                      | (at_builtin; refine wpList_append_own _ rfl _ _ 26 rfl w.heap.size 100 i0 (.agg #[.string ⟨#[]⟩, .string ⟨#[]⟩]) 2 32 Tryz.underlying26 hi0 hz0 hz1 hz2 rfl (by omega) _ L.length (cellsS L) rfl (HOW5.out.alloc _) ⟨w5.heap.size, 0, none⟩ 1 1 [.string (str k), .string (str v)] rfl rfl (World.news_of_block (cs := #[.string (str k), .string (str v)]) (t := 100) (fr := (0, 0)) (heap_alloc_new w5 _)) (by simp [Value.oneCell']) (by unfold maxLen; omega) (by omega) (by have := HB5.out.size; simp; omega) ?_; intro v8 w7 ho7 hg7 _; have hB7 := ((HB5.out.alloc HB5.out.size (.cells #[.string (str k), .string (str v)] 100)).grown hg7 (by have := HB5.out.size; simp; omega) (fun r e => (HOW5.out.lt r e).1)); obtain ⟨q9, c9, rfl⟩ := own_sliceS ho7; have HO7 := Lib.hid ho7; have HB7 := Lib.hid hB7; clear ho7 hg7 hB7)
                    go_roundw
                    case rel =>
                      have hLl : (L ++ [(k, v)]).length = L.length + 1 := by simp
                      refine ⟨L ++ [(k, v)], q9, c9, r2, rfl, by rw [hLl], by rw [hLl]; rfl, by omega, ?_, by omega, ?_, HB7.out, ?_⟩
                      · rw [hLl]
                        have := HO7.out
                        unfold cellsS at this ⊢
                        rw [List.flatMap_append]
                        exact this
                      · intro x hx
                        rcases List.mem_append.1 hx with h | h
                        · exact hkl x h
                        · simp at h; subst h; dsimp only; omega
                      · rw [hLl]
                        exact Lib.hid (by have := HI3.out; simpa using this)
                    case measure => simp [intOf]; omega
                  · have hR5 : R.2 = e2 := by
                      have ho : (oneM rest (L.getLast?.map (·.1))).2.2 = e2 := by
                        rw [HL0.out]; unfold oneM; rw [HT1.out]; dsimp only; rw [if_neg (by simp), if_neg (by simp), if_neg (by simp), HT2.out]
                      rw [HII.out, if_pos (by rw [ho]; exact he2), ho]
                    have HRR := Lib.hid hR5
                    have gE : ((e2 : Int) != 0) = true := by simp; omega
                    clear hR5
                    go_wp2_with first
                      | (go_at_call 33; ((with_reducible refine (CT1.out _).mono ?_)); rintro e w3 ⟨rfl, hb3⟩; have HB3 := Lib.hid (HBW.out.trans (hb3.mono HBW.out.size)); have HOW3 := Lib.hid (own_belowS HOW.out hb3); clear hb3)
                      | (go_at_call 33; ((with_reducible refine (CT2.out _).mono ?_)); rintro e w5 ⟨rfl, hb5⟩; have HB5 := Lib.hid (HB3.out.trans (hb5.mono HB3.out.size)); have HOW5 := Lib.hid (own_belowS HOW3.out hb5); clear hb5)
                    go_ret2
                    rw [HRR.out]
                    exact ⟨_, rfl, HB5.out⟩
                · have hLl' : L.length = L'.length + 1 := by rw [hL']; simp
                  have gz : decide ((L.length : Int) > 0) = true := by rw [decide_eq_true_iff]; omega
                  have gz' : (0 : Int) < (L.length : Int) := by omega
                  have hlast : L.getLast?.map (·.1) = some y.1 := by rw [hL']; simp
                  have HLA := Lib.hid hlast
                  have hyl := hkl y (by rw [hL']; simp)
                  have wj : IntKind.u64.wrap ((L.length : Int) - 1) = (L'.length : Int) := by rw [IntWalk.u64_in _ (by omega)]; omega
                  have gj0 : (0 : Int) ≤ (L'.length : Int) := by omega
                  have gj1 : (L'.length : Int) < (L.length : Int) := by omega
                  obtain ⟨gb, rfl, hlc, hcell⟩ := last_cell (q := q8) (c := c8) (base := w.heap.size) (w := wr) (L' := L') (y := y) (by rw [← List.concat_eq_append, ← hL']; exact HOW.out)
                  have hgb : gb < wr.heap.size := (HOW.out.lt gb rfl).2
                  have CL := Lib.hid (fun w' => lessStr w' k y.1 (by omega) hyl)
                  rw [← List.concat_eq_append, ← hL'] at hlc
                  have HLl := Lib.hid hLl'
                  have HLc := Lib.hid hlc
                  have HL' := Lib.hid hL'
                  clear hlast hLl' hlc hL'
                  by_cases heq : y.1 = k
                  · have hR5 : R.2 = 6 := by
                      have ho : (oneM rest (L.getLast?.map (·.1))).2.2 = 6 := by unfold oneM; rw [HT1.out]; dsimp only; rw [HLA.out, if_neg (by simp), if_pos (by rw [heq])]
                      rw [HII.out, if_pos (by rw [ho]; decide), ho]
                    have HRR := Lib.hid hR5
                    have gq : ((str y.1).toList == (str k).toList) = true := by rw [heq]; simp
                    clear hR5
                    go_wp2_with first
                      | (go_at_call 33; ((with_reducible refine (CT1.out _).mono ?_)); rintro e w3 ⟨rfl, hb3⟩; have HB3 := Lib.hid (HBW.out.trans (hb3.mono HBW.out.size)); have cl3 := (hb3.cell (p := ⟨gb, L'.length * 2, none⟩) hgb).trans hcell; clear hb3)
                    go_ret2
                    rw [HRR.out]
                    exact ⟨_, rfl, HB3.out⟩
                  · have gq : ((str y.1).toList == (str k).toList) = false := by rw [str_toList, str_toList, beq_eq_false_iff_ne]; exact heq
                    have hne : ¬ some y.1 = some k := fun e => heq (Option.some.inj e)
                    by_cases hlt2 : lessB k y.1 = true
                    · have hR5 : R.2 = 5 := by
                        have ho : (oneM rest (L.getLast?.map (·.1))).2.2 = 5 := by unfold oneM; rw [HT1.out]; dsimp only; rw [HLA.out, if_neg (by simp), if_neg hne, if_pos (by unfold lessB at hlt2; simpa using hlt2)]
                        rw [HII.out, if_pos (by rw [ho]; decide), ho]
                      have HRR := Lib.hid hR5
                      rw [hlt2] at CL
                      clear hR5
                      go_wp2_with first
                        | (go_at_call 33; ((with_reducible refine (CT1.out _).mono ?_)); rintro e w3 ⟨rfl, hb3⟩; have HB3 := Lib.hid (HBW.out.trans (hb3.mono HBW.out.size)); have cl3 := (hb3.cell (p := ⟨gb, L'.length * 2, none⟩) hgb).trans hcell; clear hb3)
                        | (go_at_call 34; ((with_reducible refine (CL.out _).mono ?_)); rintro e w4 ⟨rfl, k4, rfl⟩)
                      go_ret2
                      rw [HRR.out]
                      exact ⟨_, rfl, Go.below_drewN HB3.out _⟩
                    · have hlf : lessB k y.1 = false := by simpa using hlt2
                      rw [hlf] at CL
                      have hnl : ¬ ((some y.1).any fun k' => Lib.compareBytes k k' == -1) = true := by unfold lessB at hlf; simp [hlf]
                      by_cases he2 : e2 = 0
                      · subst he2
                        have hst : oneM rest (L.getLast?.map (·.1)) = ((k, v), r2, 0) := by
                          unfold oneM; rw [HT1.out]; dsimp only; rw [HLA.out, if_neg (by simp), if_neg hne, if_neg hnl, HT2.out]
                        have hII2 : R = pairsM (n0 - (L.length + 1)) r2 (some k) (L ++ [(k, v)]) := by rw [HII.out, hst]; rfl
                        have HI3 := Lib.hid hII2
                        clear hst hII2
                        go_wp2_with first
                          | (go_at_call 33; ((with_reducible refine (CT1.out _).mono ?_)); rintro e w3 ⟨rfl, hb3⟩; have HB3 := Lib.hid (HBW.out.trans (hb3.mono HBW.out.size)); have HOW3 := Lib.hid (own_belowS HOW.out hb3); have cl3 := (hb3.cell (p := ⟨gb, L'.length * 2, none⟩) hgb).trans hcell; clear hb3)
                          | (go_at_call 34; ((with_reducible refine (CL.out _).mono ?_)); rintro e w4 ⟨rfl, k4, rfl⟩)
                          | (go_at_call 33; ((with_reducible refine (CT2.out _).mono ?_)); rintro e w5 ⟨rfl, hb5⟩; have HB5 := Lib.hid ((Go.below_drewN HB3.out k4).trans (hb5.mono HB3.out.size)); have HOW5 := Lib.hid (own_belowS (own_belowS HOW3.out (Go.below_drewN (Below.refl _ _) k4)) hb5); clear hb5)
                          | (at_builtin; refine wpList_append_own _ rfl _ _ 26 rfl w.heap.size 100 i0 (.agg #[.string ⟨#[]⟩, .string ⟨#[]⟩]) 2 32 Tryz.underlying26 hi0 hz0 hz1 hz2 rfl (by omega) _ L.length (cellsS L) rfl (HOW5.out.alloc _) ⟨w5.heap.size, 0, none⟩ 1 1 [.string (str k), .string (str v)] rfl rfl (World.news_of_block (cs := #[.string (str k), .string (str v)]) (t := 100) (fr := (0, 0)) (heap_alloc_new w5 _)) (by simp [Value.oneCell']) (by unfold maxLen; omega) (by omega) (by have := HB5.out.size; simp; omega) ?_; intro v8 w7 ho7 hg7 _; have hB7 := ((HB5.out.alloc HB5.out.size (.cells #[.string (str k), .string (str v)] 100)).grown hg7 (by have := HB5.out.size; simp; omega) (fun r e => (HOW5.out.lt r e).1)); obtain ⟨q9, c9, rfl⟩ := own_sliceS ho7; have HO7 := Lib.hid ho7; have HB7 := Lib.hid hB7; clear ho7 hg7 hB7)
                        go_roundw
                        case rel =>
                          have hLl : (L ++ [(k, v)]).length = L.length + 1 := by simp
                          refine ⟨L ++ [(k, v)], q9, c9, r2, rfl, by rw [hLl], by rw [hLl]; rfl, by omega, ?_, by omega, ?_, HB7.out, ?_⟩
                          · rw [hLl]
                            have := HO7.out
                            unfold cellsS at this ⊢
                            rw [List.flatMap_append]
                            exact this
                          · intro x hx
                            rcases List.mem_append.1 hx with h | h
                            · exact hkl x h
                            · simp at h; subst h; dsimp only; omega
                          · rw [hLl]
                            exact Lib.hid (by have := HI3.out; simpa using this)
                        case measure => simp [intOf]; omega
                      · have hR5 : R.2 = e2 := by
                          have ho : (oneM rest (L.getLast?.map (·.1))).2.2 = e2 := by
                            unfold oneM; rw [HT1.out]; dsimp only; rw [HLA.out, if_neg (by simp), if_neg hne, if_neg hnl, HT2.out]
                          rw [HII.out, if_pos (by rw [ho]; exact he2), ho]
                        have HRR := Lib.hid hR5
                        have gE : ((e2 : Int) != 0) = true := by simp; omega
                        clear hR5
                        go_wp2_with first
                          | (go_at_call 33; ((with_reducible refine (CT1.out _).mono ?_)); rintro e w3 ⟨rfl, hb3⟩; have HB3 := Lib.hid (HBW.out.trans (hb3.mono HBW.out.size)); have HOW3 := Lib.hid (own_belowS HOW.out hb3); have cl3 := (hb3.cell (p := ⟨gb, L'.length * 2, none⟩) hgb).trans hcell; clear hb3)
                          | (go_at_call 34; ((with_reducible refine (CL.out _).mono ?_)); rintro e w4 ⟨rfl, k4, rfl⟩)
                          | (go_at_call 33; ((with_reducible refine (CT2.out _).mono ?_)); rintro e w5 ⟨rfl, hb5⟩; have HB5 := Lib.hid ((Go.below_drewN HB3.out k4).trans (hb5.mono HB3.out.size)); have HOW5 := Lib.hid (own_belowS (own_belowS HOW3.out (Go.below_drewN (Below.refl _ _) k4)) hb5); clear hb5)
                        go_ret2
                        rw [HRR.out]
                        exact ⟨_, rfl, HB5.out⟩
              · have hR5 : R.2 = e1 := by
                  have ho : (oneM rest (L.getLast?.map (·.1))).2.2 = e1 := by unfold oneM; rw [HT1.out]; dsimp only; rw [if_pos he1]
                  rw [HII.out, if_pos (by rw [ho]; exact he1), ho]
                have HRR := Lib.hid hR5
                have gE : ((e1 : Int) != 0) = true := by simp; omega
                clear hR5
                go_wp2_with first
                  | (go_at_call 33; ((with_reducible refine (CT1.out _).mono ?_)); rintro e w3 ⟨rfl, hb3⟩; have HB3 := Lib.hid (HBW.out.trans (hb3.mono HBW.out.size)); clear hb3)
                go_ret2
                rw [HRR.out]
                exact ⟨_, rfl, HB3.out⟩
            · have hLe : L.length = n0 := by omega
              have g1 : ¬ (L.length : Int) < (n0 : Int) := by omega
              have hii := HI2.out
              rw [show n0 - L.length = 0 from by omega, pairsM] at hii
              have HII := Lib.hid hii
              have HBW := Lib.hid hbw
              clear hii HI2 how hbw hLe
              by_cases hr0 : rest = []
              · have gq : (!(str rest).toList.isEmpty) = false := by rw [str_toList, hr0]; rfl
                have hRR : R.2 = 0 := by rw [HII.out, if_pos hr0]
                have HRR := Lib.hid hRR
                clear hRR hr0
                go_wp2
                go_ret2
                rw [HRR.out]
                exact ⟨_, rfl, HBW.out⟩
              · have gq : (!(str rest).toList.isEmpty) = true := by rw [str_toList]; cases rest with
                | nil => exact absurd rfl hr0
                | cons _ _ => rfl
                have hRR : R.2 = 7 := by rw [HII.out, if_neg hr0]
                have HRR := Lib.hid hRR
                clear hRR hr0
                go_wp2
                go_ret2
                rw [HRR.out]
                exact ⟨_, rfl, HBW.out⟩
      · have hRR : R = ([], e) := by rw [HRE.out, if_pos he]
        have HRR := Lib.hid hRR
        have gE : ((e : Int) != 0) = true := by simp; omega
        clear hRR
        go_wp2_with first
          | (go_at_call 32; ((with_reducible refine (CN.out _).mono ?_)); rintro e w2 ⟨rfl, k2, rfl⟩)
        go_ret2
        rw [HRR.out]
        exact ⟨_, rfl, Go.below_drewN (Below.refl _ _) _⟩
end Go.Proofs.YtmbiiemlepfoaaaGreatDoor

/-! the given shelf's contracts at this seat, in plain words (printed by the kit's lay-plain) -/
namespace Go.Proofs
open Go.Shelf
def Tryz.keysA_ren : Go.Shelf.Ren := ⟨fun | 7 => 95 | 10 => 169 | n => n, fun | 23 => 190 | 26 => 3 | 3 => 112 | 28 => 208 | 0 => 0 | 27 => 207 | 33 => 298 | 4 => 4 | n => n, fun | n => n⟩
theorem Tryz.keysA : Go.Proofs.SlLaysZI.n7 Tryz.prog Tryz.keysA_ren := {
  mixed := by kernel_rfl
  f7 := ⟨Tryz.f95.name, by decide, Tryz.func95.trans (congrArg some (by kernel_rfl))⟩
  f10 := ⟨Tryz.f169.name, by decide, Tryz.func169.trans (congrArg some (by kernel_rfl))⟩
  t0 := Tryz.underlying0
  a0 := Tryz.isAgg0
  z0 := Tryz.sizeOf0
  v0 := Tryz.zeroValue0
  t4 := Tryz.underlying4
  a4 := Tryz.isAgg4
  z4 := Tryz.sizeOf4
  v4 := Tryz.zeroValue4
  t23 := Tryz.underlying190
  a23 := Tryz.isAgg190
  z23 := Tryz.sizeOf190
  v23 := Tryz.zeroValue190
  t26 := Tryz.underlying3
  a26 := Tryz.isAgg3
  z26 := Tryz.sizeOf3
  v26 := Tryz.zeroValue3
  t27 := Tryz.underlying207
  a27 := Tryz.isAgg207
  z27 := Tryz.sizeOf207
  v27 := Tryz.zeroValue207
  t28 := Tryz.underlying208
  a28 := Tryz.isAgg208
  z28 := Tryz.sizeOf208
  v28 := Tryz.zeroValue208
  t33 := Tryz.underlying298
  a33 := Tryz.isAgg298
  z33 := Tryz.sizeOf298
  v33 := Tryz.zeroValue298 }
def Tryz.sortedA_ren : Go.Shelf.Ren := ⟨fun | 6 => 94 | 8 => 167 | 9 => 168 | 11 => 242 | 13 => 244 | 12 => 243 | 23 => 290 | 24 => 236 | 14 => 281 | 15 => 282 | 16 => 283 | 17 => 284 | 18 => 285 | 19 => 286 | 20 => 287 | 21 => 288 | 22 => 289 | 25 => 315 | 26 => 316 | 27 => 317 | 28 => 318 | 29 => 319 | 30 => 320 | 31 => 336 | n => n, fun | 26 => 3 | 28 => 208 | 24 => 32 | 0 => 0 | 3 => 3 | 37 => 301 | 48 => 217 | 50 => 48 | 4 => 4 | 40 => 402 | 39 => 401 | 45 => 406 | 5 => 5 | 9 => 9 | 51 => 424 | 55 => 427 | 57 => 437 | 58 => 303 | 33 => 298 | n => n, fun | n => n⟩
theorem Tryz.sortedA : Go.Proofs.SlLaysZI.n6 Tryz.prog Tryz.sortedA_ren := {
  mixed := by kernel_rfl
  f6 := ⟨Tryz.f94.name, by decide, Tryz.func94.trans (congrArg some (by kernel_rfl))⟩
  f8 := ⟨Tryz.f167.name, by decide, Tryz.func167.trans (congrArg some (by kernel_rfl))⟩
  f11 := ⟨Tryz.f242.name, by decide, Tryz.func242.trans (congrArg some (by kernel_rfl))⟩
  t0 := Tryz.underlying0
  a0 := Tryz.isAgg0
  z0 := Tryz.sizeOf0
  v0 := Tryz.zeroValue0
  t24 := Tryz.underlying32
  a24 := Tryz.isAgg32
  z24 := Tryz.sizeOf32
  v24 := Tryz.zeroValue32
  t26 := Tryz.underlying3
  a26 := Tryz.isAgg3
  z26 := Tryz.sizeOf3
  v26 := Tryz.zeroValue3
  t28 := Tryz.underlying208
  a28 := Tryz.isAgg208
  z28 := Tryz.sizeOf208
  v28 := Tryz.zeroValue208
  i26 := by kernel_rfl }
def Tryz.sortA_ren : Go.Shelf.Ren := ⟨fun | 5 => 168 | 8 => 244 | 7 => 243 | 19 => 290 | 20 => 236 | 10 => 281 | 11 => 282 | 12 => 283 | 13 => 284 | 14 => 285 | 15 => 286 | 16 => 287 | 17 => 288 | 18 => 289 | 30 => 315 | 31 => 316 | 32 => 317 | 33 => 318 | 34 => 319 | 35 => 320 | 40 => 336 | n => n, fun | 23 => 32 | 25 => 3 | 3 => 3 | 32 => 301 | 22 => 32 | 0 => 0 | 44 => 217 | 46 => 48 | 4 => 4 | 36 => 402 | 35 => 401 | 41 => 406 | 5 => 5 | 9 => 9 | 53 => 424 | 57 => 427 | 63 => 437 | 64 => 303 | n => n, fun | n => n⟩
theorem Tryz.sortA : Go.Proofs.SlLaysM.n5 Tryz.prog Tryz.sortA_ren := {
  mixed := by kernel_rfl
  f5 := ⟨Tryz.f168.name, by decide, Tryz.func168.trans (congrArg some (by kernel_rfl))⟩
  f7 := ⟨Tryz.f243.name, by decide, Tryz.func243.trans (congrArg some (by kernel_rfl))⟩
  f8 := Tryz.func244.trans (congrArg some (by kernel_rfl))
  f10 := ⟨Tryz.f281.name, by decide, Tryz.func281.trans (congrArg some (by kernel_rfl))⟩
  f11 := ⟨Tryz.f282.name, by decide, Tryz.func282.trans (congrArg some (by kernel_rfl))⟩
  f12 := ⟨Tryz.f283.name, by decide, Tryz.func283.trans (congrArg some (by kernel_rfl))⟩
  f13 := ⟨Tryz.f284.name, by decide, Tryz.func284.trans (congrArg some (by kernel_rfl))⟩
  f14 := ⟨Tryz.f285.name, by decide, Tryz.func285.trans (congrArg some (by kernel_rfl))⟩
  f15 := ⟨Tryz.f286.name, by decide, Tryz.func286.trans (congrArg some (by kernel_rfl))⟩
  f16 := ⟨Tryz.f287.name, by decide, Tryz.func287.trans (congrArg some (by kernel_rfl))⟩
  f17 := ⟨Tryz.f288.name, by decide, Tryz.func288.trans (congrArg some (by kernel_rfl))⟩
  f18 := ⟨Tryz.f289.name, by decide, Tryz.func289.trans (congrArg some (by kernel_rfl))⟩
  f19 := Tryz.func290.trans (congrArg some (by kernel_rfl))
  f20 := Tryz.func236.trans (congrArg some (by kernel_rfl))
  f30 := ⟨Tryz.f315.name, by decide, Tryz.func315.trans (congrArg some (by kernel_rfl))⟩
  f31 := Tryz.func316.trans (congrArg some (by kernel_rfl))
  f32 := Tryz.func317.trans (congrArg some (by kernel_rfl))
  f33 := ⟨Tryz.f318.name, by decide, Tryz.func318.trans (congrArg some (by kernel_rfl))⟩
  f34 := ⟨Tryz.f319.name, by decide, Tryz.func319.trans (congrArg some (by kernel_rfl))⟩
  f35 := ⟨Tryz.f320.name, by decide, Tryz.func320.trans (congrArg some (by kernel_rfl))⟩
  f40 := ⟨Tryz.f336.name, by decide, Tryz.func336.trans (congrArg some (by kernel_rfl))⟩
  t0 := Tryz.underlying0
  a0 := Tryz.isAgg0
  z0 := Tryz.sizeOf0
  v0 := Tryz.zeroValue0
  t3 := Tryz.underlying3
  a3 := Tryz.isAgg3
  z3 := Tryz.sizeOf3
  v3 := Tryz.zeroValue3
  t4 := Tryz.underlying4
  a4 := Tryz.isAgg4
  z4 := Tryz.sizeOf4
  v4 := Tryz.zeroValue4
  t5 := Tryz.underlying5
  a5 := Tryz.isAgg5
  z5 := Tryz.sizeOf5
  v5 := Tryz.zeroValue5
  t9 := Tryz.underlying9
  a9 := Tryz.isAgg9
  z9 := Tryz.sizeOf9
  v9 := Tryz.zeroValue9
  t22 := Tryz.underlying32
  a22 := Tryz.isAgg32
  z22 := Tryz.sizeOf32
  v22 := Tryz.zeroValue32
  t23 := Tryz.underlying32
  a23 := Tryz.isAgg32
  z23 := Tryz.sizeOf32
  v23 := Tryz.zeroValue32
  t25 := Tryz.underlying3
  a25 := Tryz.isAgg3
  z25 := Tryz.sizeOf3
  v25 := Tryz.zeroValue3
  t32 := Tryz.underlying301
  a32 := Tryz.isAgg301
  z32 := Tryz.sizeOf301
  v32 := Tryz.zeroValue301
  t35 := Tryz.underlying401
  a35 := Tryz.isAgg401
  z35 := Tryz.sizeOf401
  v35 := Tryz.zeroValue401
  t36 := Tryz.underlying402
  a36 := Tryz.isAgg402
  z36 := Tryz.sizeOf402
  v36 := Tryz.zeroValue402
  t41 := Tryz.underlying406
  a41 := Tryz.isAgg406
  z41 := Tryz.sizeOf406
  v41 := Tryz.zeroValue406
  t44 := Tryz.underlying217
  a44 := Tryz.isAgg217
  z44 := Tryz.sizeOf217
  v44 := Tryz.zeroValue217
  t46 := Tryz.underlying48
  a46 := Tryz.isAgg48
  z46 := Tryz.sizeOf48
  v46 := Tryz.zeroValue48
  t53 := Tryz.underlying424
  a53 := Tryz.isAgg424
  z53 := Tryz.sizeOf424
  v53 := Tryz.zeroValue424
  t57 := Tryz.underlying427
  a57 := Tryz.isAgg427
  z57 := Tryz.sizeOf427
  v57 := Tryz.zeroValue427
  t63 := Tryz.underlying437
  a63 := Tryz.isAgg437
  z63 := Tryz.sizeOf437
  v63 := Tryz.zeroValue437
  t64 := Tryz.underlying303
  a64 := Tryz.isAgg303
  z64 := Tryz.sizeOf303
  v64 := Tryz.zeroValue303 }
theorem Tryz.sortsA (m : Nat) : AnyZI.SortsIn Tryz.prog Tryz.sortedA_ren Fence.wide m :=
  ⟨fun blk off cap ss W hH hblk hsz => callsIn_wide.2 (AnyM.slices_Sort_int Tryz.sortA blk off cap ss W hH hblk hsz),
   fun p cap W => callsIn_wide.2 (AnyM.slices_Sort_int_none Tryz.sortA p cap W)⟩
end Go.Proofs

/-! The walks of shelf's All and pmap's Handles, for a shelf that is empty. -/
namespace Go.Proofs.YtmbiiemlepfoaaaGreatDoor
open Go.RowKit Go.Maps Go.Sort Go.Shelf
set_option linter.unusedVariables false

set_option maxHeartbeats 1000000 in
set_option maxRecDepth 100000 in
theorem sortedNone (w : World) {r clock : Nat} (hr : w.heap[r]? = some (.map #[] clock)) :
    (∀ W, Calls Tryz.prog 95 #[.map (some r)] W fun e w' => e = .returned (.func (.func 169) #[] #[.pointer (some ⟨W.heap.size, 0, none⟩)]) ∧ w' = W.alloc (.cells #[.map (some r)] 190)) ∧
    Calls Tryz.prog 94 #[.func (.func 169) #[] #[.pointer (some ⟨w.heap.size, 0, none⟩)]] (w.alloc (.cells #[.map (some r)] 190)) fun e w' => e = .returned (.slice none 0 0) ∧ Below w.heap.size w w' := by
  have hown : w.ownsMap Tryz.prog 3 (fun _ => none) r 0 (DataW.map [] : DataW Unit) := ⟨#[], clock, hr, ⟨by simp, ⟨fun x h => (by simp at h), by simp, by simp⟩, fun x h => (by simp at h)⟩, by simp, rfl⟩
  have hbl := hown.lt
  have hseq : SeqGives Fence.wide 2 Tryz.prog 169 #[.pointer (some ⟨w.heap.size, 0, none⟩)] encZ (fun ss => ss.Perm (intKeys (DataW.map [] : DataW Unit))) (Maps.size (DataW.map [] : DataW Unit)) (w.alloc (.cells #[.map (some r)] 190)) :=
    AnyZI.keys_gives (ρ := Tryz.keysA_ren) { Tryz.keysA with } Fence.wide _ trivial rfl (by omega) w.heap.size r 0 _ _ (by simp) (by simp) (by
      obtain ⟨es, clock, hb, Ft, hs, hD⟩ := hown
      exact ⟨es, clock, (Below.heap_alloc _ _ r hbl).trans hb, Ft, hs, hD⟩)
  have cK : ∀ mb W, CallsIn Fence.wide 5 Tryz.prog 95 #[.map mb] W fun e w' => e = .returned (.func (.func 169) #[] #[.pointer (some ⟨W.heap.size, 0, none⟩)]) ∧ w' = W.alloc (.cells #[.map mb] 190) := fun mb W => AnyZI.keys_in Tryz.keysA Fence.wide 5 trivial rfl mb W
  have cS := AnyZI.sorted_in Tryz.sortedA Fence.wide 5 trivial trivial trivial trivial rfl (by omega) (Tryz.sortsA _) (enters_of Tryz.func168 (by kernel_rfl) rfl) 169 #[.pointer (some ⟨w.heap.size, 0, none⟩)] trivial (enters_of Tryz.func169 (by kernel_rfl) rfl) _ _ (by decide) (by decide) _ hseq
  change CallsIn _ _ Tryz.prog 94 _ _ _ at cS
  refine ⟨fun W => (callsIn_wide (n := 5)).1 (cK _ _), (callsIn_wide (n := 5)).1 (cS.mono ?_)⟩
  rintro e w' ⟨v, ss, rfl, hS, hrow, hnil, hb⟩
  have hss : ss = [] := List.Perm.eq_nil hS
  subst hss
  rw [hnil.2 rfl]
  exact ⟨rfl, ((Below.refl _ w).alloc (Nat.le_refl _) _).trans (hb.mono (by simp))⟩

set_option maxHeartbeats 1000000 in
theorem shelfAllNone (w : World) {D : Nat → Prop} {sb r next : Nat} (h : ShelfAt w D sb r [] next) : Calls Tryz.prog 39 #[.pointer (some ⟨sb, 0, none⟩)] w fun e w' => e = .returned (.slice none 0 0) ∧ Below w.heap.size w w' := by
  obtain ⟨es, clock, hr, hm, he, _⟩ := h.row
  have he' : es = #[] := by
    have : es.toList = [] := he
    simpa using this
  subst he'
  have c0 : w.cell? ⟨sb, 0, none⟩ = some (.map (some r)) := cell_of_row w sb 0 _ _ (0, 0) hr
  obtain ⟨h1, h2⟩ := sortedNone w hm
  have C1 := Lib.hid h1
  have C2 := Lib.hid h2
  clear h hr hm he h1 h2
  go_enter Tryz.func39, Tryz.ntmps39
  go_wp2_with first
    | (go_at_call 95; ((with_reducible refine (C1.out _).mono ?_)); rintro e w1 ⟨rfl, rfl⟩)
    | (go_at_call 94; ((with_reducible refine (C2.out).mono ?_)); rintro e w2 ⟨rfl, hb⟩)
  go_ret
  exact ⟨rfl, hb⟩
set_option maxHeartbeats 1000000 in
theorem mapsHandlesNone (w : World) {S D : Nat → Prop} {mp g sb r tk next : Nat} {l : List UInt8} (h : MapsAt w S D mp g sb r l tk [] next) : Calls Tryz.prog 10 #[.pointer (some ⟨mp, 0, none⟩)] w fun e w' => e = .returned (.slice none 0 0) ∧ Below w.heap.size w w' := by
  have CA := Lib.hid (shelfAllNone w h.shelf)
  have c1 : w.cell? ⟨mp, 1, none⟩ = some (.pointer (some ⟨sb, 0, none⟩)) := cell_of_row w mp 1 _ _ (0, 0) h.row
  clear h
  go_enter Tryz.func10, Tryz.ntmps10
  go_wp2_with (go_at_call 39; ((with_reducible refine (CA.out).mono ?_)); rintro e w1 ⟨rfl, hb⟩)
  go_ret
  exact ⟨rfl, hb⟩
end Go.Proofs.YtmbiiemlepfoaaaGreatDoor
