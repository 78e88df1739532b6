/- The walks of QuoteApart, QuoteFinds. -/
import Derived.Test.YtgbdoccgdkifjaaDoorQuLaws
namespace Go.Proofs.YtgbdoccgdkifjaaDoor
open Go.RowKit
set_option linter.unusedVariables false

set_option maxHeartbeats 8000000 in
set_option maxRecDepth 100000 in
theorem quoteApart_law (w : World) {p : Option Addr} {c : Nat} {l : List UInt8} (h : IsB w p c l) {p2 : Option Addr} {c2 : Nat} {l2 : List UInt8} (h2 : IsB w p2 c2 l2) (hT : Lib.Utf8Tabs 0 1 w) :
    Calls Tryd.prog 4 #[.slice p l.length c, .slice p2 l2.length c2] w fun e w' => e = .returned (.bool true) ∧ Below w.heap.size w w' := by
  have HT := Lib.hid hT
  have HAW : Hid (∀ W, Below w.heap.size w W → Calls Tryd.prog 9 #[] W fun e w' => e = .returned (.bool true) ∧ Below W.heap.size W w') := fun W hW => awake W (Utf8Tabs_below HT.out hW)
  have H := Lib.hid h
  have H2 := Lib.hid h2
  clear hT h h2
  by_cases hl : l.length ≤ 200
  · have g0 : ¬ (200 : Int) < (l.length : Int) := by omega
    by_cases hl2 : l2.length ≤ 200
    · have g1 : ¬ (200 : Int) < (l2.length : Int) := by omega
      have hp1 : ∀ W, Below w.heap.size w W → Calls Tryd.prog 10 #[.slice p l.length c] W fun e w' => e = .returned (.string (str (qt l))) ∧ Below W.heap.size W w' := fun W hW => printW W (H.out.below hW) (by omega) (Utf8Tabs_below HT.out hW)
      have hp2 : ∀ W, Below w.heap.size w W → Calls Tryd.prog 10 #[.slice p2 l2.length c2] W fun e w' => e = .returned (.string (str (qt l2))) ∧ Below W.heap.size W w' := fun W hW => printW W (H2.out.below hW) (by omega) (Utf8Tabs_below HT.out hW)
      have hka : ∀ W, Below w.heap.size w W → (Go.convert 22 9 (.slice p l.length c)).run Tryd.prog W = .ok (.string (str l)) W := fun W hW => conv_of (H.out.below hW)
      have hkb : ∀ W, Below w.heap.size w W → (Go.convert 22 9 (.slice p2 l2.length c2)).run Tryd.prog W = .ok (.string (str l2)) W := fun W hW => conv_of (H2.out.below hW)
      obtain ⟨b, e1, e2⟩ : ∃ b : Bool, ((str (qt l)).toList == (str (qt l2)).toList) = b ∧ ((str l).toList == (str l2).toList) = b := by
        refine ⟨_, rfl, ?_⟩
        rw [str_toList, str_toList, str_toList, str_toList, Bool.eq_iff_iff]
        simp only [beq_iff_eq]
        exact ⟨fun e => by rw [e], fun e => qt_inj e⟩
      generalize str (qt l) = S1 at *
      generalize str (qt l2) = S2 at *
      generalize str l = T1 at *
      generalize str l2 = T2 at *
      have HP1 := Lib.hid hp1
      have HP2 := Lib.hid hp2
      have HKA := Lib.hid hka
      have HKB := Lib.hid hkb
      clear hp1 hp2 hka hkb
      go_enter Tryd.func4, Tryd.ntmps4
      go_upto_region 3 with fail
      have hB := (Below.refl w.heap.size w).drew
      have kA := HKA.out _ hB
      have kB := HKB.out _ hB
      refine wp_region_any (by kernel_rfl) ?_
      (try (change wpAny _ _ _ _ _ _ _ (World.drew _)))
      refine wpAny_take (i := 0) (v := ?_) rfl (by kernel_rfl) (by kernel_rfl) (by kernel_rfl) (fun _ _ _ h => h) (Or.inl ⟨by rfl, ?_⟩) ?_
      rotate_left
      · intro w
        go_simp
        try with_reducible rfl
      refine wpAny_take (i := 2) (v := ?_) rfl (by kernel_rfl) (by kernel_rfl) (by kernel_rfl) (fun _ _ _ h => h) (Or.inl ⟨by rfl, ?_⟩) ?_
      rotate_left
      · intro w
        go_simp
        try with_reducible rfl
      refine wpAny_take (i := 5) (v := ?_) rfl (by kernel_rfl) (by kernel_rfl) (by kernel_rfl) (fun _ _ _ h => h) (Or.inl ⟨by rfl, ?_⟩) ?_
      rotate_left
      · intro w
        go_simp
        try with_reducible rfl
      refine wpAny_take (i := 7) (v := ?_) rfl (by kernel_rfl) (by kernel_rfl) (by kernel_rfl) (fun _ _ _ h => h) (Or.inl ⟨by rfl, ?_⟩) ?_
      rotate_left
      · intro w
        go_simp
        try with_reducible rfl
      refine wpAny_ready (rs := [1, 6, 8]) (by kernel_rfl) (by simp) ?_
      refine AllReady.cons rfl (fun K hK => ?_) (AllReady.cons rfl (fun K hK => ?_) (AllReady.cons rfl (fun K hK => ?_) AllReady.nil))
      · skip
        go_simp
        go_wp2_with (go_at_call 10; ((with_reducible refine (HP1.out _ ?_).mono ?_)); assumption; rintro e w' ⟨rfl, hb⟩; have hB := below_on hB hb (Nat.le_refl _); have kA := HKA.out _ hB; have kB := HKB.out _ hB; clear hb)
        refine wpAny_ready (rs := [3, 6, 8]) (by kernel_rfl) (by simp) ?_
        refine AllReady.cons rfl (fun K hK => ?_) (AllReady.cons rfl (fun K hK => ?_) (AllReady.cons rfl (fun K hK => ?_) AllReady.nil))
        · skip
          go_simp
          go_wp2_with (go_at_call 10; ((with_reducible refine (HP2.out _ ?_).mono ?_)); assumption; rintro e w' ⟨rfl, hb⟩; have hB := below_on hB hb (Nat.le_refl _); have kA := HKA.out _ hB; have kB := HKB.out _ hB; clear hb)
          refine wpAny_take (i := 4) (v := ?_) rfl (by kernel_rfl) (by kernel_rfl) (by kernel_rfl) (fun _ _ _ h => h) (Or.inl ⟨by rfl, ?_⟩) ?_
          rotate_left
          · intro w
            go_simp
            try with_reducible rfl
          refine wpAny_ready (rs := [6, 8]) (by kernel_rfl) (by simp) ?_
          refine AllReady.cons rfl (fun K hK => ?_) (AllReady.cons rfl (fun K hK => ?_) AllReady.nil)
          · skip
            go_simp
            refine hK _ _ ?_
            clear hK K
            refine wpAny_ready (rs := [8]) (by kernel_rfl) (by simp) ?_
            refine AllReady.cons rfl (fun K hK => ?_) AllReady.nil
            go_simp
            refine hK _ _ ?_
            clear hK K
            refine wpAny_take (i := 9) (v := ?_) rfl (by kernel_rfl) (by kernel_rfl) (by kernel_rfl) (fun _ _ _ h => h) (Or.inl ⟨by rfl, ?_⟩) ?_
            rotate_left
            · intro w
              go_simp
              try with_reducible rfl
            refine wpAny_take (i := 10) (v := ?_) rfl (by kernel_rfl) (by kernel_rfl) (by kernel_rfl) (fun _ _ _ h => h) (Or.inl ⟨by rfl, ?_⟩) ?_
            rotate_left
            · intro w
              go_simp
              try with_reducible rfl
            refine wpAny_take (i := 11) (v := ?_) rfl (by kernel_rfl) (by kernel_rfl) (by kernel_rfl) (fun _ _ _ h => h) (Or.inl ⟨by rfl, ?_⟩) ?_
            rotate_left
            · intro w
              go_simp
              try with_reducible rfl
            refine wpAny_ready (rs := [12]) (by kernel_rfl) (by simp) ?_
            refine AllReady.cons rfl (fun K hK => ?_) AllReady.nil
            go_simp
            go_wp2_with (go_at_call 9; ((with_reducible refine (HAW.out _ ?_).mono ?_)); assumption; rintro e w' ⟨rfl, hb⟩; have hB := below_on hB hb (Nat.le_refl _); clear hb)
            refine wpAny_take (i := 13) (v := ?_) rfl (by kernel_rfl) (by kernel_rfl) (by kernel_rfl) (fun _ _ _ h => h) (Or.inl ⟨by rfl, ?_⟩) ?_
            rotate_left
            · intro w
              go_simp
              try with_reducible rfl
            refine wpAny_take (i := 14) (v := ?_) rfl (by kernel_rfl) (by kernel_rfl) (by kernel_rfl) (fun _ _ _ h => h) (Or.inl ⟨by rfl, ?_⟩) ?_
            rotate_left
            · intro w
              go_simp
              try with_reducible rfl
            refine wpAny_done (by kernel_rfl) ?_ _
            go_wp2; go_ret; exact ⟨rfl, hB⟩
          · skip
            go_simp
            refine hK _ _ ?_
            clear hK K
            refine wpAny_ready (rs := [6]) (by kernel_rfl) (by simp) ?_
            refine AllReady.cons rfl (fun K hK => ?_) AllReady.nil
            go_simp
            refine hK _ _ ?_
            clear hK K
            refine wpAny_take (i := 9) (v := ?_) rfl (by kernel_rfl) (by kernel_rfl) (by kernel_rfl) (fun _ _ _ h => h) (Or.inl ⟨by rfl, ?_⟩) ?_
            rotate_left
            · intro w
              go_simp
              try with_reducible rfl
            refine wpAny_take (i := 10) (v := ?_) rfl (by kernel_rfl) (by kernel_rfl) (by kernel_rfl) (fun _ _ _ h => h) (Or.inl ⟨by rfl, ?_⟩) ?_
            rotate_left
            · intro w
              go_simp
              try with_reducible rfl
            refine wpAny_take (i := 11) (v := ?_) rfl (by kernel_rfl) (by kernel_rfl) (by kernel_rfl) (fun _ _ _ h => h) (Or.inl ⟨by rfl, ?_⟩) ?_
            rotate_left
            · intro w
              go_simp
              try with_reducible rfl
            refine wpAny_ready (rs := [12]) (by kernel_rfl) (by simp) ?_
            refine AllReady.cons rfl (fun K hK => ?_) AllReady.nil
            go_simp
            go_wp2_with (go_at_call 9; ((with_reducible refine (HAW.out _ ?_).mono ?_)); assumption; rintro e w' ⟨rfl, hb⟩; have hB := below_on hB hb (Nat.le_refl _); clear hb)
            refine wpAny_take (i := 13) (v := ?_) rfl (by kernel_rfl) (by kernel_rfl) (by kernel_rfl) (fun _ _ _ h => h) (Or.inl ⟨by rfl, ?_⟩) ?_
            rotate_left
            · intro w
              go_simp
              try with_reducible rfl
            refine wpAny_take (i := 14) (v := ?_) rfl (by kernel_rfl) (by kernel_rfl) (by kernel_rfl) (fun _ _ _ h => h) (Or.inl ⟨by rfl, ?_⟩) ?_
            rotate_left
            · intro w
              go_simp
              try with_reducible rfl
            refine wpAny_done (by kernel_rfl) ?_ _
            go_wp2; go_ret; exact ⟨rfl, hB⟩
        · skip
          go_simp
          refine hK _ _ ?_
          clear hK K
          refine wpAny_ready (rs := [3, 8]) (by kernel_rfl) (by simp) ?_
          refine AllReady.cons rfl (fun K hK => ?_) (AllReady.cons rfl (fun K hK => ?_) AllReady.nil)
          · skip
            go_simp
            go_wp2_with (go_at_call 10; ((with_reducible refine (HP2.out _ ?_).mono ?_)); assumption; rintro e w' ⟨rfl, hb⟩; have hB := below_on hB hb (Nat.le_refl _); have kA := HKA.out _ hB; have kB := HKB.out _ hB; clear hb)
            refine wpAny_take (i := 4) (v := ?_) rfl (by kernel_rfl) (by kernel_rfl) (by kernel_rfl) (fun _ _ _ h => h) (Or.inl ⟨by rfl, ?_⟩) ?_
            rotate_left
            · intro w
              go_simp
              try with_reducible rfl
            refine wpAny_ready (rs := [8]) (by kernel_rfl) (by simp) ?_
            refine AllReady.cons rfl (fun K hK => ?_) AllReady.nil
            go_simp
            refine hK _ _ ?_
            clear hK K
            refine wpAny_take (i := 9) (v := ?_) rfl (by kernel_rfl) (by kernel_rfl) (by kernel_rfl) (fun _ _ _ h => h) (Or.inl ⟨by rfl, ?_⟩) ?_
            rotate_left
            · intro w
              go_simp
              try with_reducible rfl
            refine wpAny_take (i := 10) (v := ?_) rfl (by kernel_rfl) (by kernel_rfl) (by kernel_rfl) (fun _ _ _ h => h) (Or.inl ⟨by rfl, ?_⟩) ?_
            rotate_left
            · intro w
              go_simp
              try with_reducible rfl
            refine wpAny_take (i := 11) (v := ?_) rfl (by kernel_rfl) (by kernel_rfl) (by kernel_rfl) (fun _ _ _ h => h) (Or.inl ⟨by rfl, ?_⟩) ?_
            rotate_left
            · intro w
              go_simp
              try with_reducible rfl
            refine wpAny_ready (rs := [12]) (by kernel_rfl) (by simp) ?_
            refine AllReady.cons rfl (fun K hK => ?_) AllReady.nil
            go_simp
            go_wp2_with (go_at_call 9; ((with_reducible refine (HAW.out _ ?_).mono ?_)); assumption; rintro e w' ⟨rfl, hb⟩; have hB := below_on hB hb (Nat.le_refl _); clear hb)
            refine wpAny_take (i := 13) (v := ?_) rfl (by kernel_rfl) (by kernel_rfl) (by kernel_rfl) (fun _ _ _ h => h) (Or.inl ⟨by rfl, ?_⟩) ?_
            rotate_left
            · intro w
              go_simp
              try with_reducible rfl
            refine wpAny_take (i := 14) (v := ?_) rfl (by kernel_rfl) (by kernel_rfl) (by kernel_rfl) (fun _ _ _ h => h) (Or.inl ⟨by rfl, ?_⟩) ?_
            rotate_left
            · intro w
              go_simp
              try with_reducible rfl
            refine wpAny_done (by kernel_rfl) ?_ _
            go_wp2; go_ret; exact ⟨rfl, hB⟩
          · skip
            go_simp
            refine hK _ _ ?_
            clear hK K
            refine wpAny_take (i := 9) (v := ?_) rfl (by kernel_rfl) (by kernel_rfl) (by kernel_rfl) (fun _ _ _ h => h) (Or.inl ⟨by rfl, ?_⟩) ?_
            rotate_left
            · intro w
              go_simp
              try with_reducible rfl
            refine wpAny_ready (rs := [3]) (by kernel_rfl) (by simp) ?_
            refine AllReady.cons rfl (fun K hK => ?_) AllReady.nil
            go_simp
            go_wp2_with (go_at_call 10; ((with_reducible refine (HP2.out _ ?_).mono ?_)); assumption; rintro e w' ⟨rfl, hb⟩; have hB := below_on hB hb (Nat.le_refl _); have kA := HKA.out _ hB; have kB := HKB.out _ hB; clear hb)
            refine wpAny_take (i := 4) (v := ?_) rfl (by kernel_rfl) (by kernel_rfl) (by kernel_rfl) (fun _ _ _ h => h) (Or.inl ⟨by rfl, ?_⟩) ?_
            rotate_left
            · intro w
              go_simp
              try with_reducible rfl
            refine wpAny_take (i := 10) (v := ?_) rfl (by kernel_rfl) (by kernel_rfl) (by kernel_rfl) (fun _ _ _ h => h) (Or.inl ⟨by rfl, ?_⟩) ?_
            rotate_left
            · intro w
              go_simp
              try with_reducible rfl
            refine wpAny_take (i := 11) (v := ?_) rfl (by kernel_rfl) (by kernel_rfl) (by kernel_rfl) (fun _ _ _ h => h) (Or.inl ⟨by rfl, ?_⟩) ?_
            rotate_left
            · intro w
              go_simp
              try with_reducible rfl
            refine wpAny_ready (rs := [12]) (by kernel_rfl) (by simp) ?_
            refine AllReady.cons rfl (fun K hK => ?_) AllReady.nil
            go_simp
            go_wp2_with (go_at_call 9; ((with_reducible refine (HAW.out _ ?_).mono ?_)); assumption; rintro e w' ⟨rfl, hb⟩; have hB := below_on hB hb (Nat.le_refl _); clear hb)
            refine wpAny_take (i := 13) (v := ?_) rfl (by kernel_rfl) (by kernel_rfl) (by kernel_rfl) (fun _ _ _ h => h) (Or.inl ⟨by rfl, ?_⟩) ?_
            rotate_left
            · intro w
              go_simp
              try with_reducible rfl
            refine wpAny_take (i := 14) (v := ?_) rfl (by kernel_rfl) (by kernel_rfl) (by kernel_rfl) (fun _ _ _ h => h) (Or.inl ⟨by rfl, ?_⟩) ?_
            rotate_left
            · intro w
              go_simp
              try with_reducible rfl
            refine wpAny_done (by kernel_rfl) ?_ _
            go_wp2; go_ret; exact ⟨rfl, hB⟩
        · skip
          go_simp
          refine hK _ _ ?_
          clear hK K
          refine wpAny_ready (rs := [3, 6]) (by kernel_rfl) (by simp) ?_
          refine AllReady.cons rfl (fun K hK => ?_) (AllReady.cons rfl (fun K hK => ?_) AllReady.nil)
          · skip
            go_simp
            go_wp2_with (go_at_call 10; ((with_reducible refine (HP2.out _ ?_).mono ?_)); assumption; rintro e w' ⟨rfl, hb⟩; have hB := below_on hB hb (Nat.le_refl _); have kA := HKA.out _ hB; have kB := HKB.out _ hB; clear hb)
            refine wpAny_take (i := 4) (v := ?_) rfl (by kernel_rfl) (by kernel_rfl) (by kernel_rfl) (fun _ _ _ h => h) (Or.inl ⟨by rfl, ?_⟩) ?_
            rotate_left
            · intro w
              go_simp
              try with_reducible rfl
            refine wpAny_ready (rs := [6]) (by kernel_rfl) (by simp) ?_
            refine AllReady.cons rfl (fun K hK => ?_) AllReady.nil
            go_simp
            refine hK _ _ ?_
            clear hK K
            refine wpAny_take (i := 9) (v := ?_) rfl (by kernel_rfl) (by kernel_rfl) (by kernel_rfl) (fun _ _ _ h => h) (Or.inl ⟨by rfl, ?_⟩) ?_
            rotate_left
            · intro w
              go_simp
              try with_reducible rfl
            refine wpAny_take (i := 10) (v := ?_) rfl (by kernel_rfl) (by kernel_rfl) (by kernel_rfl) (fun _ _ _ h => h) (Or.inl ⟨by rfl, ?_⟩) ?_
            rotate_left
            · intro w
              go_simp
              try with_reducible rfl
            refine wpAny_take (i := 11) (v := ?_) rfl (by kernel_rfl) (by kernel_rfl) (by kernel_rfl) (fun _ _ _ h => h) (Or.inl ⟨by rfl, ?_⟩) ?_
            rotate_left
            · intro w
              go_simp
              try with_reducible rfl
            refine wpAny_ready (rs := [12]) (by kernel_rfl) (by simp) ?_
            refine AllReady.cons rfl (fun K hK => ?_) AllReady.nil
            go_simp
            go_wp2_with (go_at_call 9; ((with_reducible refine (HAW.out _ ?_).mono ?_)); assumption; rintro e w' ⟨rfl, hb⟩; have hB := below_on hB hb (Nat.le_refl _); clear hb)
            refine wpAny_take (i := 13) (v := ?_) rfl (by kernel_rfl) (by kernel_rfl) (by kernel_rfl) (fun _ _ _ h => h) (Or.inl ⟨by rfl, ?_⟩) ?_
            rotate_left
            · intro w
              go_simp
              try with_reducible rfl
            refine wpAny_take (i := 14) (v := ?_) rfl (by kernel_rfl) (by kernel_rfl) (by kernel_rfl) (fun _ _ _ h => h) (Or.inl ⟨by rfl, ?_⟩) ?_
            rotate_left
            · intro w
              go_simp
              try with_reducible rfl
            refine wpAny_done (by kernel_rfl) ?_ _
            go_wp2; go_ret; exact ⟨rfl, hB⟩
          · skip
            go_simp
            refine hK _ _ ?_
            clear hK K
            refine wpAny_take (i := 9) (v := ?_) rfl (by kernel_rfl) (by kernel_rfl) (by kernel_rfl) (fun _ _ _ h => h) (Or.inl ⟨by rfl, ?_⟩) ?_
            rotate_left
            · intro w
              go_simp
              try with_reducible rfl
            refine wpAny_ready (rs := [3]) (by kernel_rfl) (by simp) ?_
            refine AllReady.cons rfl (fun K hK => ?_) AllReady.nil
            go_simp
            go_wp2_with (go_at_call 10; ((with_reducible refine (HP2.out _ ?_).mono ?_)); assumption; rintro e w' ⟨rfl, hb⟩; have hB := below_on hB hb (Nat.le_refl _); have kA := HKA.out _ hB; have kB := HKB.out _ hB; clear hb)
            refine wpAny_take (i := 4) (v := ?_) rfl (by kernel_rfl) (by kernel_rfl) (by kernel_rfl) (fun _ _ _ h => h) (Or.inl ⟨by rfl, ?_⟩) ?_
            rotate_left
            · intro w
              go_simp
              try with_reducible rfl
            refine wpAny_take (i := 10) (v := ?_) rfl (by kernel_rfl) (by kernel_rfl) (by kernel_rfl) (fun _ _ _ h => h) (Or.inl ⟨by rfl, ?_⟩) ?_
            rotate_left
            · intro w
              go_simp
              try with_reducible rfl
            refine wpAny_take (i := 11) (v := ?_) rfl (by kernel_rfl) (by kernel_rfl) (by kernel_rfl) (fun _ _ _ h => h) (Or.inl ⟨by rfl, ?_⟩) ?_
            rotate_left
            · intro w
              go_simp
              try with_reducible rfl
            refine wpAny_ready (rs := [12]) (by kernel_rfl) (by simp) ?_
            refine AllReady.cons rfl (fun K hK => ?_) AllReady.nil
            go_simp
            go_wp2_with (go_at_call 9; ((with_reducible refine (HAW.out _ ?_).mono ?_)); assumption; rintro e w' ⟨rfl, hb⟩; have hB := below_on hB hb (Nat.le_refl _); clear hb)
            refine wpAny_take (i := 13) (v := ?_) rfl (by kernel_rfl) (by kernel_rfl) (by kernel_rfl) (fun _ _ _ h => h) (Or.inl ⟨by rfl, ?_⟩) ?_
            rotate_left
            · intro w
              go_simp
              try with_reducible rfl
            refine wpAny_take (i := 14) (v := ?_) rfl (by kernel_rfl) (by kernel_rfl) (by kernel_rfl) (fun _ _ _ h => h) (Or.inl ⟨by rfl, ?_⟩) ?_
            rotate_left
            · intro w
              go_simp
              try with_reducible rfl
            refine wpAny_done (by kernel_rfl) ?_ _
            go_wp2; go_ret; exact ⟨rfl, hB⟩
      · skip
        go_simp
        refine hK _ _ ?_
        clear hK K
        refine wpAny_ready (rs := [1, 8]) (by kernel_rfl) (by simp) ?_
        refine AllReady.cons rfl (fun K hK => ?_) (AllReady.cons rfl (fun K hK => ?_) AllReady.nil)
        · skip
          go_simp
          go_wp2_with (go_at_call 10; ((with_reducible refine (HP1.out _ ?_).mono ?_)); assumption; rintro e w' ⟨rfl, hb⟩; have hB := below_on hB hb (Nat.le_refl _); have kA := HKA.out _ hB; have kB := HKB.out _ hB; clear hb)
          refine wpAny_ready (rs := [3, 8]) (by kernel_rfl) (by simp) ?_
          refine AllReady.cons rfl (fun K hK => ?_) (AllReady.cons rfl (fun K hK => ?_) AllReady.nil)
          · skip
            go_simp
            go_wp2_with (go_at_call 10; ((with_reducible refine (HP2.out _ ?_).mono ?_)); assumption; rintro e w' ⟨rfl, hb⟩; have hB := below_on hB hb (Nat.le_refl _); have kA := HKA.out _ hB; have kB := HKB.out _ hB; clear hb)
            refine wpAny_take (i := 4) (v := ?_) rfl (by kernel_rfl) (by kernel_rfl) (by kernel_rfl) (fun _ _ _ h => h) (Or.inl ⟨by rfl, ?_⟩) ?_
            rotate_left
            · intro w
              go_simp
              try with_reducible rfl
            refine wpAny_ready (rs := [8]) (by kernel_rfl) (by simp) ?_
            refine AllReady.cons rfl (fun K hK => ?_) AllReady.nil
            go_simp
            refine hK _ _ ?_
            clear hK K
            refine wpAny_take (i := 9) (v := ?_) rfl (by kernel_rfl) (by kernel_rfl) (by kernel_rfl) (fun _ _ _ h => h) (Or.inl ⟨by rfl, ?_⟩) ?_
            rotate_left
            · intro w
              go_simp
              try with_reducible rfl
            refine wpAny_take (i := 10) (v := ?_) rfl (by kernel_rfl) (by kernel_rfl) (by kernel_rfl) (fun _ _ _ h => h) (Or.inl ⟨by rfl, ?_⟩) ?_
            rotate_left
            · intro w
              go_simp
              try with_reducible rfl
            refine wpAny_take (i := 11) (v := ?_) rfl (by kernel_rfl) (by kernel_rfl) (by kernel_rfl) (fun _ _ _ h => h) (Or.inl ⟨by rfl, ?_⟩) ?_
            rotate_left
            · intro w
              go_simp
              try with_reducible rfl
            refine wpAny_ready (rs := [12]) (by kernel_rfl) (by simp) ?_
            refine AllReady.cons rfl (fun K hK => ?_) AllReady.nil
            go_simp
            go_wp2_with (go_at_call 9; ((with_reducible refine (HAW.out _ ?_).mono ?_)); assumption; rintro e w' ⟨rfl, hb⟩; have hB := below_on hB hb (Nat.le_refl _); clear hb)
            refine wpAny_take (i := 13) (v := ?_) rfl (by kernel_rfl) (by kernel_rfl) (by kernel_rfl) (fun _ _ _ h => h) (Or.inl ⟨by rfl, ?_⟩) ?_
            rotate_left
            · intro w
              go_simp
              try with_reducible rfl
            refine wpAny_take (i := 14) (v := ?_) rfl (by kernel_rfl) (by kernel_rfl) (by kernel_rfl) (fun _ _ _ h => h) (Or.inl ⟨by rfl, ?_⟩) ?_
            rotate_left
            · intro w
              go_simp
              try with_reducible rfl
            refine wpAny_done (by kernel_rfl) ?_ _
            go_wp2; go_ret; exact ⟨rfl, hB⟩
          · skip
            go_simp
            refine hK _ _ ?_
            clear hK K
            refine wpAny_take (i := 9) (v := ?_) rfl (by kernel_rfl) (by kernel_rfl) (by kernel_rfl) (fun _ _ _ h => h) (Or.inl ⟨by rfl, ?_⟩) ?_
            rotate_left
            · intro w
              go_simp
              try with_reducible rfl
            refine wpAny_ready (rs := [3]) (by kernel_rfl) (by simp) ?_
            refine AllReady.cons rfl (fun K hK => ?_) AllReady.nil
            go_simp
            go_wp2_with (go_at_call 10; ((with_reducible refine (HP2.out _ ?_).mono ?_)); assumption; rintro e w' ⟨rfl, hb⟩; have hB := below_on hB hb (Nat.le_refl _); have kA := HKA.out _ hB; have kB := HKB.out _ hB; clear hb)
            refine wpAny_take (i := 4) (v := ?_) rfl (by kernel_rfl) (by kernel_rfl) (by kernel_rfl) (fun _ _ _ h => h) (Or.inl ⟨by rfl, ?_⟩) ?_
            rotate_left
            · intro w
              go_simp
              try with_reducible rfl
            refine wpAny_take (i := 10) (v := ?_) rfl (by kernel_rfl) (by kernel_rfl) (by kernel_rfl) (fun _ _ _ h => h) (Or.inl ⟨by rfl, ?_⟩) ?_
            rotate_left
            · intro w
              go_simp
              try with_reducible rfl
            refine wpAny_take (i := 11) (v := ?_) rfl (by kernel_rfl) (by kernel_rfl) (by kernel_rfl) (fun _ _ _ h => h) (Or.inl ⟨by rfl, ?_⟩) ?_
            rotate_left
            · intro w
              go_simp
              try with_reducible rfl
            refine wpAny_ready (rs := [12]) (by kernel_rfl) (by simp) ?_
            refine AllReady.cons rfl (fun K hK => ?_) AllReady.nil
            go_simp
            go_wp2_with (go_at_call 9; ((with_reducible refine (HAW.out _ ?_).mono ?_)); assumption; rintro e w' ⟨rfl, hb⟩; have hB := below_on hB hb (Nat.le_refl _); clear hb)
            refine wpAny_take (i := 13) (v := ?_) rfl (by kernel_rfl) (by kernel_rfl) (by kernel_rfl) (fun _ _ _ h => h) (Or.inl ⟨by rfl, ?_⟩) ?_
            rotate_left
            · intro w
              go_simp
              try with_reducible rfl
            refine wpAny_take (i := 14) (v := ?_) rfl (by kernel_rfl) (by kernel_rfl) (by kernel_rfl) (fun _ _ _ h => h) (Or.inl ⟨by rfl, ?_⟩) ?_
            rotate_left
            · intro w
              go_simp
              try with_reducible rfl
            refine wpAny_done (by kernel_rfl) ?_ _
            go_wp2; go_ret; exact ⟨rfl, hB⟩
        · skip
          go_simp
          refine hK _ _ ?_
          clear hK K
          refine wpAny_take (i := 9) (v := ?_) rfl (by kernel_rfl) (by kernel_rfl) (by kernel_rfl) (fun _ _ _ h => h) (Or.inl ⟨by rfl, ?_⟩) ?_
          rotate_left
          · intro w
            go_simp
            try with_reducible rfl
          refine wpAny_ready (rs := [1]) (by kernel_rfl) (by simp) ?_
          refine AllReady.cons rfl (fun K hK => ?_) AllReady.nil
          go_simp
          go_wp2_with (go_at_call 10; ((with_reducible refine (HP1.out _ ?_).mono ?_)); assumption; rintro e w' ⟨rfl, hb⟩; have hB := below_on hB hb (Nat.le_refl _); have kA := HKA.out _ hB; have kB := HKB.out _ hB; clear hb)
          refine wpAny_ready (rs := [3]) (by kernel_rfl) (by simp) ?_
          refine AllReady.cons rfl (fun K hK => ?_) AllReady.nil
          go_simp
          go_wp2_with (go_at_call 10; ((with_reducible refine (HP2.out _ ?_).mono ?_)); assumption; rintro e w' ⟨rfl, hb⟩; have hB := below_on hB hb (Nat.le_refl _); have kA := HKA.out _ hB; have kB := HKB.out _ hB; clear hb)
          refine wpAny_take (i := 4) (v := ?_) rfl (by kernel_rfl) (by kernel_rfl) (by kernel_rfl) (fun _ _ _ h => h) (Or.inl ⟨by rfl, ?_⟩) ?_
          rotate_left
          · intro w
            go_simp
            try with_reducible rfl
          refine wpAny_take (i := 10) (v := ?_) rfl (by kernel_rfl) (by kernel_rfl) (by kernel_rfl) (fun _ _ _ h => h) (Or.inl ⟨by rfl, ?_⟩) ?_
          rotate_left
          · intro w
            go_simp
            try with_reducible rfl
          refine wpAny_take (i := 11) (v := ?_) rfl (by kernel_rfl) (by kernel_rfl) (by kernel_rfl) (fun _ _ _ h => h) (Or.inl ⟨by rfl, ?_⟩) ?_
          rotate_left
          · intro w
            go_simp
            try with_reducible rfl
          refine wpAny_ready (rs := [12]) (by kernel_rfl) (by simp) ?_
          refine AllReady.cons rfl (fun K hK => ?_) AllReady.nil
          go_simp
          go_wp2_with (go_at_call 9; ((with_reducible refine (HAW.out _ ?_).mono ?_)); assumption; rintro e w' ⟨rfl, hb⟩; have hB := below_on hB hb (Nat.le_refl _); clear hb)
          refine wpAny_take (i := 13) (v := ?_) rfl (by kernel_rfl) (by kernel_rfl) (by kernel_rfl) (fun _ _ _ h => h) (Or.inl ⟨by rfl, ?_⟩) ?_
          rotate_left
          · intro w
            go_simp
            try with_reducible rfl
          refine wpAny_take (i := 14) (v := ?_) rfl (by kernel_rfl) (by kernel_rfl) (by kernel_rfl) (fun _ _ _ h => h) (Or.inl ⟨by rfl, ?_⟩) ?_
          rotate_left
          · intro w
            go_simp
            try with_reducible rfl
          refine wpAny_done (by kernel_rfl) ?_ _
          go_wp2; go_ret; exact ⟨rfl, hB⟩
      · skip
        go_simp
        refine hK _ _ ?_
        clear hK K
        refine wpAny_ready (rs := [1, 6]) (by kernel_rfl) (by simp) ?_
        refine AllReady.cons rfl (fun K hK => ?_) (AllReady.cons rfl (fun K hK => ?_) AllReady.nil)
        · skip
          go_simp
          go_wp2_with (go_at_call 10; ((with_reducible refine (HP1.out _ ?_).mono ?_)); assumption; rintro e w' ⟨rfl, hb⟩; have hB := below_on hB hb (Nat.le_refl _); have kA := HKA.out _ hB; have kB := HKB.out _ hB; clear hb)
          refine wpAny_ready (rs := [3, 6]) (by kernel_rfl) (by simp) ?_
          refine AllReady.cons rfl (fun K hK => ?_) (AllReady.cons rfl (fun K hK => ?_) AllReady.nil)
          · skip
            go_simp
            go_wp2_with (go_at_call 10; ((with_reducible refine (HP2.out _ ?_).mono ?_)); assumption; rintro e w' ⟨rfl, hb⟩; have hB := below_on hB hb (Nat.le_refl _); have kA := HKA.out _ hB; have kB := HKB.out _ hB; clear hb)
            refine wpAny_take (i := 4) (v := ?_) rfl (by kernel_rfl) (by kernel_rfl) (by kernel_rfl) (fun _ _ _ h => h) (Or.inl ⟨by rfl, ?_⟩) ?_
            rotate_left
            · intro w
              go_simp
              try with_reducible rfl
            refine wpAny_ready (rs := [6]) (by kernel_rfl) (by simp) ?_
            refine AllReady.cons rfl (fun K hK => ?_) AllReady.nil
            go_simp
            refine hK _ _ ?_
            clear hK K
            refine wpAny_take (i := 9) (v := ?_) rfl (by kernel_rfl) (by kernel_rfl) (by kernel_rfl) (fun _ _ _ h => h) (Or.inl ⟨by rfl, ?_⟩) ?_
            rotate_left
            · intro w
              go_simp
              try with_reducible rfl
            refine wpAny_take (i := 10) (v := ?_) rfl (by kernel_rfl) (by kernel_rfl) (by kernel_rfl) (fun _ _ _ h => h) (Or.inl ⟨by rfl, ?_⟩) ?_
            rotate_left
            · intro w
              go_simp
              try with_reducible rfl
            refine wpAny_take (i := 11) (v := ?_) rfl (by kernel_rfl) (by kernel_rfl) (by kernel_rfl) (fun _ _ _ h => h) (Or.inl ⟨by rfl, ?_⟩) ?_
            rotate_left
            · intro w
              go_simp
              try with_reducible rfl
            refine wpAny_ready (rs := [12]) (by kernel_rfl) (by simp) ?_
            refine AllReady.cons rfl (fun K hK => ?_) AllReady.nil
            go_simp
            go_wp2_with (go_at_call 9; ((with_reducible refine (HAW.out _ ?_).mono ?_)); assumption; rintro e w' ⟨rfl, hb⟩; have hB := below_on hB hb (Nat.le_refl _); clear hb)
            refine wpAny_take (i := 13) (v := ?_) rfl (by kernel_rfl) (by kernel_rfl) (by kernel_rfl) (fun _ _ _ h => h) (Or.inl ⟨by rfl, ?_⟩) ?_
            rotate_left
            · intro w
              go_simp
              try with_reducible rfl
            refine wpAny_take (i := 14) (v := ?_) rfl (by kernel_rfl) (by kernel_rfl) (by kernel_rfl) (fun _ _ _ h => h) (Or.inl ⟨by rfl, ?_⟩) ?_
            rotate_left
            · intro w
              go_simp
              try with_reducible rfl
            refine wpAny_done (by kernel_rfl) ?_ _
            go_wp2; go_ret; exact ⟨rfl, hB⟩
          · skip
            go_simp
            refine hK _ _ ?_
            clear hK K
            refine wpAny_take (i := 9) (v := ?_) rfl (by kernel_rfl) (by kernel_rfl) (by kernel_rfl) (fun _ _ _ h => h) (Or.inl ⟨by rfl, ?_⟩) ?_
            rotate_left
            · intro w
              go_simp
              try with_reducible rfl
            refine wpAny_ready (rs := [3]) (by kernel_rfl) (by simp) ?_
            refine AllReady.cons rfl (fun K hK => ?_) AllReady.nil
            go_simp
            go_wp2_with (go_at_call 10; ((with_reducible refine (HP2.out _ ?_).mono ?_)); assumption; rintro e w' ⟨rfl, hb⟩; have hB := below_on hB hb (Nat.le_refl _); have kA := HKA.out _ hB; have kB := HKB.out _ hB; clear hb)
            refine wpAny_take (i := 4) (v := ?_) rfl (by kernel_rfl) (by kernel_rfl) (by kernel_rfl) (fun _ _ _ h => h) (Or.inl ⟨by rfl, ?_⟩) ?_
            rotate_left
            · intro w
              go_simp
              try with_reducible rfl
            refine wpAny_take (i := 10) (v := ?_) rfl (by kernel_rfl) (by kernel_rfl) (by kernel_rfl) (fun _ _ _ h => h) (Or.inl ⟨by rfl, ?_⟩) ?_
            rotate_left
            · intro w
              go_simp
              try with_reducible rfl
            refine wpAny_take (i := 11) (v := ?_) rfl (by kernel_rfl) (by kernel_rfl) (by kernel_rfl) (fun _ _ _ h => h) (Or.inl ⟨by rfl, ?_⟩) ?_
            rotate_left
            · intro w
              go_simp
              try with_reducible rfl
            refine wpAny_ready (rs := [12]) (by kernel_rfl) (by simp) ?_
            refine AllReady.cons rfl (fun K hK => ?_) AllReady.nil
            go_simp
            go_wp2_with (go_at_call 9; ((with_reducible refine (HAW.out _ ?_).mono ?_)); assumption; rintro e w' ⟨rfl, hb⟩; have hB := below_on hB hb (Nat.le_refl _); clear hb)
            refine wpAny_take (i := 13) (v := ?_) rfl (by kernel_rfl) (by kernel_rfl) (by kernel_rfl) (fun _ _ _ h => h) (Or.inl ⟨by rfl, ?_⟩) ?_
            rotate_left
            · intro w
              go_simp
              try with_reducible rfl
            refine wpAny_take (i := 14) (v := ?_) rfl (by kernel_rfl) (by kernel_rfl) (by kernel_rfl) (fun _ _ _ h => h) (Or.inl ⟨by rfl, ?_⟩) ?_
            rotate_left
            · intro w
              go_simp
              try with_reducible rfl
            refine wpAny_done (by kernel_rfl) ?_ _
            go_wp2; go_ret; exact ⟨rfl, hB⟩
        · skip
          go_simp
          refine hK _ _ ?_
          clear hK K
          refine wpAny_take (i := 9) (v := ?_) rfl (by kernel_rfl) (by kernel_rfl) (by kernel_rfl) (fun _ _ _ h => h) (Or.inl ⟨by rfl, ?_⟩) ?_
          rotate_left
          · intro w
            go_simp
            try with_reducible rfl
          refine wpAny_ready (rs := [1]) (by kernel_rfl) (by simp) ?_
          refine AllReady.cons rfl (fun K hK => ?_) AllReady.nil
          go_simp
          go_wp2_with (go_at_call 10; ((with_reducible refine (HP1.out _ ?_).mono ?_)); assumption; rintro e w' ⟨rfl, hb⟩; have hB := below_on hB hb (Nat.le_refl _); have kA := HKA.out _ hB; have kB := HKB.out _ hB; clear hb)
          refine wpAny_ready (rs := [3]) (by kernel_rfl) (by simp) ?_
          refine AllReady.cons rfl (fun K hK => ?_) AllReady.nil
          go_simp
          go_wp2_with (go_at_call 10; ((with_reducible refine (HP2.out _ ?_).mono ?_)); assumption; rintro e w' ⟨rfl, hb⟩; have hB := below_on hB hb (Nat.le_refl _); have kA := HKA.out _ hB; have kB := HKB.out _ hB; clear hb)
          refine wpAny_take (i := 4) (v := ?_) rfl (by kernel_rfl) (by kernel_rfl) (by kernel_rfl) (fun _ _ _ h => h) (Or.inl ⟨by rfl, ?_⟩) ?_
          rotate_left
          · intro w
            go_simp
            try with_reducible rfl
          refine wpAny_take (i := 10) (v := ?_) rfl (by kernel_rfl) (by kernel_rfl) (by kernel_rfl) (fun _ _ _ h => h) (Or.inl ⟨by rfl, ?_⟩) ?_
          rotate_left
          · intro w
            go_simp
            try with_reducible rfl
          refine wpAny_take (i := 11) (v := ?_) rfl (by kernel_rfl) (by kernel_rfl) (by kernel_rfl) (fun _ _ _ h => h) (Or.inl ⟨by rfl, ?_⟩) ?_
          rotate_left
          · intro w
            go_simp
            try with_reducible rfl
          refine wpAny_ready (rs := [12]) (by kernel_rfl) (by simp) ?_
          refine AllReady.cons rfl (fun K hK => ?_) AllReady.nil
          go_simp
          go_wp2_with (go_at_call 9; ((with_reducible refine (HAW.out _ ?_).mono ?_)); assumption; rintro e w' ⟨rfl, hb⟩; have hB := below_on hB hb (Nat.le_refl _); clear hb)
          refine wpAny_take (i := 13) (v := ?_) rfl (by kernel_rfl) (by kernel_rfl) (by kernel_rfl) (fun _ _ _ h => h) (Or.inl ⟨by rfl, ?_⟩) ?_
          rotate_left
          · intro w
            go_simp
            try with_reducible rfl
          refine wpAny_take (i := 14) (v := ?_) rfl (by kernel_rfl) (by kernel_rfl) (by kernel_rfl) (fun _ _ _ h => h) (Or.inl ⟨by rfl, ?_⟩) ?_
          rotate_left
          · intro w
            go_simp
            try with_reducible rfl
          refine wpAny_done (by kernel_rfl) ?_ _
          go_wp2; go_ret; exact ⟨rfl, hB⟩
    · have g1 : (200 : Int) < (l2.length : Int) := by omega
      go_enter Tryd.func4, Tryd.ntmps4
      go_wp2_with fail
      refine (HAW.out _ (Below.refl _ _)).mono ?_
      rintro e w2 ⟨rfl, hb2⟩
      have B2 := Lib.hid hb2
      clear hb2
      go_wp2
      go_ret
      exact ⟨rfl, B2.out⟩
  · have g0 : (200 : Int) < (l.length : Int) := by omega
    go_enter Tryd.func4, Tryd.ntmps4
    go_wp2_with fail
    refine (HAW.out _ (Below.refl _ _)).mono ?_
    rintro e w2 ⟨rfl, hb2⟩
    have B2 := Lib.hid hb2
    clear hb2
    go_wp2
    go_ret
    exact ⟨rfl, B2.out⟩
end Go.Proofs.YtgbdoccgdkifjaaDoor
