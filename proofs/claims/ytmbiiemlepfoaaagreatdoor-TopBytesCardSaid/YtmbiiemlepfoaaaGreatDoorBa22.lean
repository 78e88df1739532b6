/- The walks of take, at the letters h, k, v. -/
import Derived.Test.YtmbiiemlepfoaaaGreatDoorBa21

/-! The walks of take, at the letters h, k, v. -/
namespace Go.Proofs.YtmbiiemlepfoaaaGreatDoor
open Go.RowKit
set_option linter.unusedVariables false

theorem tabs5 {w w' : World} (h : Lib.Utf8Tabs 3 4 w) (hb : Below 5 w w') : Lib.Utf8Tabs 3 4 w' :=
  ⟨fun c hc => (hb.cell (by simp)).trans (h.1 c hc), fun i hi => ⟨(hb.cell (by simp)).trans (h.2 i hi).1, (hb.cell (by simp)).trans (h.2 i hi).2⟩⟩
theorem prefYes (w : World) (s : List UInt8) : Calls Tryz.prog 271 #[.string (str (32 :: s)), .string ⟨#[32]⟩] w fun e w' => e = .returned (.bool true) ∧ w' = w := by
  have := Tryz.strings_HasPrefix (str (32 :: s)) ⟨#[32]⟩ w
  rw [str_data] at this
  have hp : Lib.hasPrefix (32 :: s) [32] = true := by simp [Lib.hasPrefix]
  rw [show (⟨#[32]⟩ : ByteArray).data.toList = [32] from rfl, hp] at this
  exact this
set_option maxHeartbeats 4000000 in
set_option maxRecDepth 100000 in
theorem takeH {W w : World} {b : Nat} {s : List UInt8} {cs : List Value} (h : Ln W b (32 :: s) cs w) (hm : GM w) (hB : 2 ≤ b) (hs : s.length ≤ 10000) {d : UInt8} (hd0 : 48 ≤ d.toNat) (hd1 : d.toNat ≤ 57) {r : List UInt8} (f : Bool) (hc : Lib.cut s [32] = ([d], r, f)) (ht : 1 ≤ s.length) (hv : cs[1]? = some (.int .i64 0)) :
    Calls Tryz.prog 228 #[.pointer (some ⟨b, 0, none⟩), .int .i32 104] w fun e w' => e = .returned (.tuple #[]) ∧ Ln W b (s.drop 1) (cs.set 1 (.int .i64 ((d.toNat : Int) - 48))) w' ∧ Kp b w w' := by
  have c0 := h.c0
  have f0 := h.f 0
  have hcut : (str (32 :: s)).extract 1 (str (32 :: s)).size = str s := ends_str _ (32 :: s) 1 rfl
  have hsz : (1 : Int) ≤ ((str (32 :: s)).size : Int) := by rw [str_size, List.length_cons]; omega
  have CH := Lib.hid (prefYes w s)
  have CM := Lib.hid mustYes
  have l1 : Ln W b s cs (w.setCell ⟨b, 0, none⟩ (.string (str s))) := h.rest s
  have g1 : GM (w.setCell ⟨b, 0, none⟩ (.string (str s))) := hm.keep (by exact Below.heap_setCell _ _ _ _ (fun e => by simp at e; omega))
  have k1 : Kp b w (w.setCell ⟨b, 0, none⟩ (.string (str s))) := h.keeps 0 _
  have CN := Lib.hid (lineNumber l1 g1 (by omega) hd0 hd1 f hc ht)
  have K1 := Lib.hid k1
  obtain ⟨S, hS⟩ : ∃ S, S = str (32 :: s) := ⟨_, rfl⟩
  rw [← hS] at c0 hcut hsz CH
  clear h hm hc g1 l1 hS k1
  go_enter Tryz.func228, Tryz.ntmps228
  go_wp2_with first
    | (go_at_call 271; ((with_reducible refine (CH.out).mono ?_)); rintro e w1 ⟨rfl, rfl⟩)
    | (go_at_call 227; ((with_reducible refine (CM.out _).mono ?_)); rintro e w2 ⟨rfl, rfl⟩)
    | (go_at_call 272; ((with_reducible refine (CN.out).mono ?_)); rintro e w3 ⟨rfl, l3, k3⟩; have f3 : w3.frozen? ⟨b, 2, none⟩ = false := l3.f 2; have c3 : w3.cell? ⟨b, 2, none⟩ = some (.int .i64 0) := (cell_of_row w3 b 2 _ _ (0, 0) l3.row).trans (by simp [hv]); have L3 := Lib.hid l3; have K3 := Lib.hid k3; clear l3 k3)
  go_end0
  exact ⟨rfl, L3.out.cell 1 _, (K1.out.trans K3.out).trans (L3.out.keeps _ _)⟩

set_option maxHeartbeats 4000000 in
set_option maxRecDepth 100000 in
theorem takeK {W w : World} {b : Nat} {t : List UInt8} {c : UInt8} {cs : List Value} (h : Ln W b (32 :: 34 :: c :: 34 :: t) cs w) (hc0 : c ≠ 34) (hc1 : c ≠ 92) (hc2 : c.toNat < 128) (hT : Lib.Utf8Tabs 3 4 w) (hB : 5 ≤ b) (hp : pars [34, c, 34] = some [c]) (hv : cs[5]? = some (.slice none 0 0)) :
    Calls Tryz.prog 228 #[.pointer (some ⟨b, 0, none⟩), .int .i32 107] w fun e w' => e = .returned (.tuple #[]) ∧ ∃ q d, Ln W b t (cs.set 5 (.slice q 1 d)) w' ∧ OB w' q d [c] ∧ Kp b w w' := by
  have c0 := h.c0
  have f0 := h.f 0
  obtain ⟨s, hs⟩ : ∃ s, s = 34 :: c :: 34 :: t := ⟨_, rfl⟩
  rw [← hs] at h c0
  have hcut : (str (32 :: s)).extract 1 (str (32 :: s)).size = str s := ends_str _ (32 :: s) 1 rfl
  have hsz : (1 : Int) ≤ ((str (32 :: s)).size : Int) := by rw [str_size, List.length_cons]; omega
  have CH := Lib.hid (prefYes w s)
  have CM := Lib.hid mustYes
  have l1 : Ln W b s cs (w.setCell ⟨b, 0, none⟩ (.string (str s))) := h.rest s
  have g1 : Lib.Utf8Tabs 3 4 (w.setCell ⟨b, 0, none⟩ (.string (str s))) := tabs5 hT ((Below.refl 5 w).setCell (p := ⟨b, 0, none⟩) hB _)
  have k1 : Kp b w (w.setCell ⟨b, 0, none⟩ (.string (str s))) := h.keeps 0 _
  have CN := Lib.hid (lineText l1 hc0 hc1 hc2 hs g1 hp)
  have K1 := Lib.hid k1
  obtain ⟨S, hS⟩ : ∃ S, S = str (32 :: s) := ⟨_, rfl⟩
  rw [← hS] at c0 hcut hsz CH
  clear h hT g1 l1 hS k1 hs hp
  go_enter Tryz.func228, Tryz.ntmps228
  go_wp2_with first
    | (go_at_call 271; ((with_reducible refine (CH.out).mono ?_)); rintro e w1 ⟨rfl, rfl⟩)
    | (go_at_call 227; ((with_reducible refine (CM.out _).mono ?_)); rintro e w2 ⟨rfl, rfl⟩)
    | (go_at_call 273; ((with_reducible refine (CN.out).mono ?_)); rintro e w3 ⟨q, d, rfl, hib, l3, k3⟩; have f3 : w3.frozen? ⟨b, 6, none⟩ = false := l3.f 6; have c3 : w3.cell? ⟨b, 6, none⟩ = some (.slice none 0 0) := (cell_of_row w3 b 6 _ _ (0, 0) l3.row).trans (by simp [hv]); have L3 := Lib.hid l3; have K3 := Lib.hid k3; have HIB := Lib.hid hib; clear l3 k3 hib)
  go_end0
  exact ⟨rfl, q, d, L3.out.cell 5 _, L3.out.keeps _ _ |>.bytes _ _ _ HIB.out, (K1.out.trans K3.out).trans (L3.out.keeps _ _)⟩

set_option maxHeartbeats 4000000 in
set_option maxRecDepth 100000 in
theorem takeV {W w : World} {b : Nat} {t : List UInt8} {c : UInt8} {cs : List Value} (h : Ln W b (32 :: 34 :: c :: 34 :: t) cs w) (hc0 : c ≠ 34) (hc1 : c ≠ 92) (hc2 : c.toNat < 128) (hT : Lib.Utf8Tabs 3 4 w) (hB : 5 ≤ b) (hp : pars [34, c, 34] = some [c]) (hv : cs[6]? = some (.slice none 0 0)) :
    Calls Tryz.prog 228 #[.pointer (some ⟨b, 0, none⟩), .int .i32 118] w fun e w' => e = .returned (.tuple #[]) ∧ ∃ q d, Ln W b t (cs.set 6 (.slice q 1 d)) w' ∧ OB w' q d [c] ∧ Kp b w w' := by
  have c0 := h.c0
  have f0 := h.f 0
  obtain ⟨s, hs⟩ : ∃ s, s = 34 :: c :: 34 :: t := ⟨_, rfl⟩
  rw [← hs] at h c0
  have hcut : (str (32 :: s)).extract 1 (str (32 :: s)).size = str s := ends_str _ (32 :: s) 1 rfl
  have hsz : (1 : Int) ≤ ((str (32 :: s)).size : Int) := by rw [str_size, List.length_cons]; omega
  have CH := Lib.hid (prefYes w s)
  have CM := Lib.hid mustYes
  have l1 : Ln W b s cs (w.setCell ⟨b, 0, none⟩ (.string (str s))) := h.rest s
  have g1 : Lib.Utf8Tabs 3 4 (w.setCell ⟨b, 0, none⟩ (.string (str s))) := tabs5 hT ((Below.refl 5 w).setCell (p := ⟨b, 0, none⟩) hB _)
  have k1 : Kp b w (w.setCell ⟨b, 0, none⟩ (.string (str s))) := h.keeps 0 _
  have CN := Lib.hid (lineText l1 hc0 hc1 hc2 hs g1 hp)
  have K1 := Lib.hid k1
  obtain ⟨S, hS⟩ : ∃ S, S = str (32 :: s) := ⟨_, rfl⟩
  rw [← hS] at c0 hcut hsz CH
  clear h hT g1 l1 hS k1 hs hp
  go_enter Tryz.func228, Tryz.ntmps228
  go_wp2_with first
    | (go_at_call 271; ((with_reducible refine (CH.out).mono ?_)); rintro e w1 ⟨rfl, rfl⟩)
    | (go_at_call 227; ((with_reducible refine (CM.out _).mono ?_)); rintro e w2 ⟨rfl, rfl⟩)
    | (go_at_call 273; ((with_reducible refine (CN.out).mono ?_)); rintro e w3 ⟨q, d, rfl, hib, l3, k3⟩; have f3 : w3.frozen? ⟨b, 7, none⟩ = false := l3.f 7; have c3 : w3.cell? ⟨b, 7, none⟩ = some (.slice none 0 0) := (cell_of_row w3 b 7 _ _ (0, 0) l3.row).trans (by simp [hv]); have L3 := Lib.hid l3; have K3 := Lib.hid k3; have HIB := Lib.hid hib; clear l3 k3 hib)
  go_end0
  exact ⟨rfl, q, d, L3.out.cell 6 _, L3.out.keeps _ _ |>.bytes _ _ _ HIB.out, (K1.out.trans K3.out).trans (L3.out.keeps _ _)⟩
end Go.Proofs.YtmbiiemlepfoaaaGreatDoor
