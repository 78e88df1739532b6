/- The walks of number, at one digit, and of HasPrefix. The walks of take, at the letters h, k, v. -/
import Derived.Test.YtmbiiemlepfoaaaGreatDoorFl24

namespace Go.Proofs.YtmbiiemlepfoaaaGreatDoor
open Go.RowKit
set_option linter.unusedVariables false
theorem dec_asc (l : List UInt8) (pos n : Nat) (h : bA l pos = n) (hn : n < 128) : Utf8.decode (str l) pos = (n, 1) := by
  rw [decode_dec, str_data]
  unfold decq
  have : bA (l.drop pos) 0 = n := by rw [← h]; unfold bA; simp
  rw [this]
  unfold Lib.decodeN
  rw [if_pos hn]
set_option maxHeartbeats 2000000 in
set_option maxRecDepth 100000 in
theorem lineNumber {W w : World} {b : Nat} {s : List UInt8} {cs : List Value} (h : Ln W b s cs w) (hm : GM w) (hs : s.length ≤ 100000) {d : UInt8} (hd0 : 48 ≤ d.toNat) (hd1 : d.toNat ≤ 57) {r : List UInt8} (f : Bool) (hc : Lib.cut s [32] = ([d], r, f)) (ht : 1 ≤ s.length) :
    Calls Tryz.prog 272 #[.pointer (some ⟨b, 0, none⟩)] w fun e w' => e = .returned (.int .i64 ((d.toNat : Int) - 48)) ∧ Ln W b (s.drop 1) cs w' ∧ Kp b w w' := by
  have CW := Lib.hid (lineWord h hm hs f hc ht)
  have CM := Lib.hid mustYes
  have hdec : Utf8.decode (str [d]) 0 = (d.toNat, 1) := dec_asc [d] 0 d.toNat rfl (by omega)
  have hne : (!(str [d]).toList.isEmpty) = true := by rw [ByteArray.toList_eq, str_data]; rfl
  have hsz : (str [d]).size = 1 := by rw [str_size]; rfl
  clear h hm hc
  have h1 : (48 : Int) ≤ (d.toNat : Int) := by omega
  have h2 : (d.toNat : Int) ≤ 57 := by omega
  go_enter Tryz.func272, Tryz.ntmps272
  go_wp2_with (go_at_call 225; ((with_reducible refine (CW.out).mono ?_)); rintro e w1 ⟨rfl, hl, hkb⟩; have HL := Lib.hid hl; have HKB := Lib.hid hkb; clear hl hkb)
  have P1 := Lib.hid (It.start w1 (str [d]))
  go_loopw [4, 5, 6] (fun v4 _ _ wr => ∃ pos : Nat, (pos = 0 ∧ v4 = .int .i64 0 ∨ pos = 1 ∧ v4 = .int .i64 ((d.toNat : Int) - 48)) ∧ It w1 w1.heap.size (str [d]) pos wr)
    (fun _ _ _ wr => 1 - wr.iterPos w1.heap.size)
  case atStart => exact ⟨0, .inl ⟨rfl, rfl⟩, P1.out⟩
  case round =>
    obtain ⟨pos, hv, hp⟩ := hrel
    rcases hv with ⟨rfl, rfl⟩ | ⟨rfl, rfl⟩
    · have hnx := fun ty => Lib.run_next_any_at (P := Tryz.prog) wr w1.heap.size (str [d]) 0 ty hp.it (by rw [hsz]; omega)
      rw [hdec] at hnx
      dsimp only at hnx
      have hpn2 := hp.next (0 + 1)
      obtain ⟨wI, hwI⟩ : ∃ x, x = wr.iterAt w1.heap.size (str [d]) (0 + 1) := ⟨_, rfl⟩
      rw [← hwI] at hpn2 hnx
      have PI := Lib.hid hpn2
      have HPOS := Lib.hid hp.pos
      clear hp hdec hpn2 hwI hsz
      go_wp2_with (go_at_call 227; ((with_reducible refine (CM.out _).mono ?_)); rintro e w2 ⟨rfl, rfl⟩)
      refine ⟨⟨1, .inr ⟨rfl, rfl⟩, PI.out⟩, ?_⟩
      rw [PI.out.pos, HPOS.out]
      omega
    · have kn := fun ty => Lib.run_next_end_at (P := Tryz.prog) wr w1.heap.size (str [d]) 1 ty hp.it (by rw [hsz]; omega)
      have HP := Lib.hid hp
      clear hp
      go_wp2_with (go_at_call 227; ((with_reducible refine (CM.out _).mono ?_)); rintro e w2 ⟨rfl, rfl⟩)
      go_ret
      exact ⟨rfl, HL.out.world HP.out.below, HKB.out.trans (Kp.below HP.out.below)⟩
set_option maxHeartbeats 4000000 in
set_option maxRecDepth 100000 in
theorem lineText {W w : World} {b : Nat} {s : List UInt8} {cs : List Value} (h : Ln W b s cs w) {c : UInt8} (hc0 : c ≠ 34) (hc1 : c ≠ 92) (hc2 : c.toNat < 128) {t : List UInt8} (hs : s = 34 :: c :: 34 :: t) (hT : Lib.Utf8Tabs 3 4 w) (hp : pars [34, c, 34] = some [c]) :
    Calls Tryz.prog 273 #[.pointer (some ⟨b, 0, none⟩)] w fun e w' => ∃ q d, e = .returned (.slice q 1 d) ∧ OB w' q d [c] ∧ Ln W b t cs w' ∧ Kp b w w' := by
  have CM := Lib.hid mustYes
  have hd0 : Utf8.decode (str s) 0 = (34, 1) := dec_asc _ _ _ (by rw [hs]; rfl) (by omega)
  have hd1 : Utf8.decode (str s) 1 = (c.toNat, 1) := dec_asc _ _ _ (by rw [hs]; rfl) (by omega)
  have hd2 : Utf8.decode (str s) 2 = (34, 1) := dec_asc _ _ _ (by rw [hs]; rfl) (by omega)
  have hsz : 3 ≤ (str s).size := by rw [str_size, hs]; simp
  have q0 : ((c.toNat : Int) == 34) = false := by
    have : c.toNat ≠ 34 := fun e => hc0 (UInt8.toNat_inj.1 e)
    simp; omega
  have q1 : ((c.toNat : Int) == 92) = false := by
    have : c.toNat ≠ 92 := fun e => hc1 (UInt8.toNat_inj.1 e)
    simp; omega
  have c0 := h.c0
  have f0 := h.f 0
  have hsz' : (3 : Int) ≤ ((str s).size : Int) := by omega
  have hcut : (str s).extract 3 (str s).size = str t := by rw [ends_str _ s 3 rfl, hs]; rfl
  have hcut0 : (str s).extract 0 3 = str [34, c, 34] := by rw [cut_str, hs]; rfl
  have HL := Lib.hid h
  have HT := Lib.hid hT
  have HP := Lib.hid hp
  obtain ⟨S, hS⟩ : ∃ S, S = str s := ⟨_, rfl⟩
  rw [← hS] at hd0 hd1 hd2 hsz c0 hsz' hcut hcut0
  have HS := Lib.hid hS
  clear h hT hp hS hs
  go_enter Tryz.func273, Tryz.ntmps273
  go_wp2
  have P1 := Lib.hid (It.start w S)
  go_loopw [3, 4, 5, 6] (fun v3 v4 _ _ wr => ∃ pos : Nat, v3 = .int .i64 0 ∧ v4 = .bool false ∧ pos ≤ 2 ∧ It w w.heap.size S pos wr)
    (fun _ _ _ _ wr => 3 - wr.iterPos w.heap.size)
  case atStart => exact ⟨0, rfl, rfl, by omega, P1.out⟩
  case round =>
    obtain ⟨pos, rfl, rfl, hle, hp⟩ := hrel
    have hnx := fun ty => Lib.run_next_any_at (P := Tryz.prog) wr w.heap.size S pos ty hp.it (by omega)
    have hpn2 := hp.next (pos + 1)
    obtain ⟨wI, hwI⟩ : ∃ x, x = wr.iterAt w.heap.size S (pos + 1) := ⟨_, rfl⟩
    have HPOS := Lib.hid hp.pos
    have h3 : pos = 0 ∨ pos = 1 ∨ pos = 2 := by omega
    rcases h3 with rfl | rfl | rfl
    · rw [hd0] at hnx
      dsimp only at hnx
      rw [← hwI] at hpn2 hnx
      have PI := Lib.hid hpn2
      clear hp hd0 hd1 hd2 hpn2 hwI hsz
      go_wp2
      refine ⟨⟨0 + 1, rfl, rfl, by omega, PI.out⟩, ?_⟩
      rw [PI.out.pos, HPOS.out]
      omega
    · rw [hd1] at hnx
      dsimp only at hnx
      rw [← hwI] at hpn2 hnx
      have PI := Lib.hid hpn2
      clear hp hd0 hd1 hd2 hpn2 hwI hsz
      go_wp2
      refine ⟨⟨1 + 1, rfl, rfl, by omega, PI.out⟩, ?_⟩
      rw [PI.out.pos, HPOS.out]
      omega
    · rw [hd2] at hnx
      dsimp only at hnx
      rw [← hwI] at hpn2 hnx
      have PI := Lib.hid hpn2
      clear hp hd0 hd1 hd2 hpn2 hwI hsz
      have hlI : Ln W b s cs wI := HL.out.world PI.out.below
      have cI : wI.cell? ⟨b, 0, none⟩ = some (.string S) := by rw [HS.out]; exact hlI.c0
      have CP : Hid (Calls Tryz.prog 308 #[.string (str [34, c, 34])] wI fun e w' => (∃ q d, e = .returned (.tuple #[.slice q 1 d, .int .i64 0]) ∧ OB w' q d [c]) ∧ Below wI.heap.size wI w') := Lib.hid ((parW0 wI [34, c, 34] (by simp) (Utf8Tabs_below HT.out PI.out.below)).mono fun e w' ⟨h, hb⟩ => by rw [HP.out] at h; obtain ⟨_, q, d, rfl, ho⟩ := h; exact ⟨⟨q, d, rfl, OB.of_own ho⟩, hb⟩)
      have HLI := Lib.hid hlI
      clear hlI
      go_wp2_with first
        | (go_at_call 308; ((with_reducible refine (CP.out).mono ?_)); rintro e w2 ⟨⟨q, d, rfl, hib⟩, hb⟩; have c2 : w2.cell? ⟨b, 0, none⟩ = some (.string S) := (by rw [HS.out]; exact (HLI.out.world hb).c0); have f2 : w2.frozen? ⟨b, 0, none⟩ = false := (HLI.out.world hb).f 0; have HIB := Lib.hid hib; have HB := Lib.hid hb; clear hib hb)
        | (go_at_call 227; ((with_reducible refine (CM.out _).mono ?_)); rintro e w2 ⟨rfl, rfl⟩)
      go_ret
      refine ⟨q, d, rfl, ((HLI.out.world HB.out).keeps 0 _).bytes _ _ _ HIB.out, ?_⟩
      refine ⟨(HLI.out.world HB.out).rest t, ((Kp.below PI.out.below).trans (Kp.below HB.out)).trans ((HLI.out.world HB.out).keeps 0 _)⟩
theorem tabs5 {w w' : World} (h : Lib.Utf8Tabs 3 4 w) (hb : Below 5 w w') : Lib.Utf8Tabs 3 4 w' :=
  ⟨fun c hc => (hb.cell (by simp)).trans (h.1 c hc), fun i hi => ⟨(hb.cell (by simp)).trans (h.2 i hi).1, (hb.cell (by simp)).trans (h.2 i hi).2⟩⟩
theorem prefYes (w : World) (s : List UInt8) : Calls Tryz.prog 271 #[.string (str (32 :: s)), .string ⟨#[32]⟩] w fun e w' => e = .returned (.bool true) ∧ w' = w := by
  have := Tryz.strings_HasPrefix (str (32 :: s)) ⟨#[32]⟩ w
  rw [str_data] at this
  have hp : Lib.hasPrefix (32 :: s) [32] = true := by simp [Lib.hasPrefix]
  rw [show (⟨#[32]⟩ : ByteArray).data.toList = [32] from rfl, hp] at this
  exact this
set_option maxHeartbeats 4000000 in
set_option maxRecDepth 100000 in
theorem takeH {W w : World} {b : Nat} {s : List UInt8} {cs : List Value} (h : Ln W b (32 :: s) cs w) (hm : GM w) (hB : 2 ≤ b) (hs : s.length ≤ 10000) {d : UInt8} (hd0 : 48 ≤ d.toNat) (hd1 : d.toNat ≤ 57) {r : List UInt8} (f : Bool) (hc : Lib.cut s [32] = ([d], r, f)) (ht : 1 ≤ s.length) (hv : cs[1]? = some (.int .i64 0)) :
    Calls Tryz.prog 228 #[.pointer (some ⟨b, 0, none⟩), .int .i32 104] w fun e w' => e = .returned (.tuple #[]) ∧ Ln W b (s.drop 1) (cs.set 1 (.int .i64 ((d.toNat : Int) - 48))) w' ∧ Kp b w w' := by
  have c0 := h.c0
  have f0 := h.f 0
  have hcut : (str (32 :: s)).extract 1 (str (32 :: s)).size = str s := ends_str _ (32 :: s) 1 rfl
  have hsz : (1 : Int) ≤ ((str (32 :: s)).size : Int) := by rw [str_size, List.length_cons]; omega
  have CH := Lib.hid (prefYes w s)
  have CM := Lib.hid mustYes
  have l1 : Ln W b s cs (w.setCell ⟨b, 0, none⟩ (.string (str s))) := h.rest s
  have g1 : GM (w.setCell ⟨b, 0, none⟩ (.string (str s))) := hm.keep (by exact Below.heap_setCell _ _ _ _ (fun e => by simp at e; omega))
  have k1 : Kp b w (w.setCell ⟨b, 0, none⟩ (.string (str s))) := h.keeps 0 _
  have CN := Lib.hid (lineNumber l1 g1 (by omega) hd0 hd1 f hc ht)
  have K1 := Lib.hid k1
  obtain ⟨S, hS⟩ : ∃ S, S = str (32 :: s) := ⟨_, rfl⟩
  rw [← hS] at c0 hcut hsz CH
  clear h hm hc g1 l1 hS k1
  go_enter Tryz.func228, Tryz.ntmps228
  go_wp2_with first
    | (go_at_call 271; ((with_reducible refine (CH.out).mono ?_)); rintro e w1 ⟨rfl, rfl⟩)
    | (go_at_call 227; ((with_reducible refine (CM.out _).mono ?_)); rintro e w2 ⟨rfl, rfl⟩)
    | (go_at_call 272; ((with_reducible refine (CN.out).mono ?_)); rintro e w3 ⟨rfl, l3, k3⟩; have f3 : w3.frozen? ⟨b, 2, none⟩ = false := l3.f 2; have c3 : w3.cell? ⟨b, 2, none⟩ = some (.int .i64 0) := (cell_of_row w3 b 2 _ _ (0, 0) l3.row).trans (by simp [hv]); have L3 := Lib.hid l3; have K3 := Lib.hid k3; clear l3 k3)
  go_end0
  exact ⟨rfl, L3.out.cell 1 _, (K1.out.trans K3.out).trans (L3.out.keeps _ _)⟩
set_option maxHeartbeats 4000000 in
set_option maxRecDepth 100000 in
theorem takeK {W w : World} {b : Nat} {t : List UInt8} {c : UInt8} {cs : List Value} (h : Ln W b (32 :: 34 :: c :: 34 :: t) cs w) (hc0 : c ≠ 34) (hc1 : c ≠ 92) (hc2 : c.toNat < 128) (hT : Lib.Utf8Tabs 3 4 w) (hB : 5 ≤ b) (hp : pars [34, c, 34] = some [c]) (hv : cs[5]? = some (.slice none 0 0)) :
    Calls Tryz.prog 228 #[.pointer (some ⟨b, 0, none⟩), .int .i32 107] w fun e w' => e = .returned (.tuple #[]) ∧ ∃ q d, Ln W b t (cs.set 5 (.slice q 1 d)) w' ∧ OB w' q d [c] ∧ Kp b w w' := by
  have c0 := h.c0
  have f0 := h.f 0
  obtain ⟨s, hs⟩ : ∃ s, s = 34 :: c :: 34 :: t := ⟨_, rfl⟩
  rw [← hs] at h c0
  have hcut : (str (32 :: s)).extract 1 (str (32 :: s)).size = str s := ends_str _ (32 :: s) 1 rfl
  have hsz : (1 : Int) ≤ ((str (32 :: s)).size : Int) := by rw [str_size, List.length_cons]; omega
  have CH := Lib.hid (prefYes w s)
  have CM := Lib.hid mustYes
  have l1 : Ln W b s cs (w.setCell ⟨b, 0, none⟩ (.string (str s))) := h.rest s
  have g1 : Lib.Utf8Tabs 3 4 (w.setCell ⟨b, 0, none⟩ (.string (str s))) := tabs5 hT ((Below.refl 5 w).setCell (p := ⟨b, 0, none⟩) hB _)
  have k1 : Kp b w (w.setCell ⟨b, 0, none⟩ (.string (str s))) := h.keeps 0 _
  have CN := Lib.hid (lineText l1 hc0 hc1 hc2 hs g1 hp)
  have K1 := Lib.hid k1
  obtain ⟨S, hS⟩ : ∃ S, S = str (32 :: s) := ⟨_, rfl⟩
  rw [← hS] at c0 hcut hsz CH
  clear h hT g1 l1 hS k1 hs hp
  go_enter Tryz.func228, Tryz.ntmps228
  go_wp2_with first
    | (go_at_call 271; ((with_reducible refine (CH.out).mono ?_)); rintro e w1 ⟨rfl, rfl⟩)
    | (go_at_call 227; ((with_reducible refine (CM.out _).mono ?_)); rintro e w2 ⟨rfl, rfl⟩)
    | (go_at_call 273; ((with_reducible refine (CN.out).mono ?_)); rintro e w3 ⟨q, d, rfl, hib, l3, k3⟩; have f3 : w3.frozen? ⟨b, 6, none⟩ = false := l3.f 6; have c3 : w3.cell? ⟨b, 6, none⟩ = some (.slice none 0 0) := (cell_of_row w3 b 6 _ _ (0, 0) l3.row).trans (by simp [hv]); have L3 := Lib.hid l3; have K3 := Lib.hid k3; have HIB := Lib.hid hib; clear l3 k3 hib)
  go_end0
  exact ⟨rfl, q, d, L3.out.cell 5 _, L3.out.keeps _ _ |>.bytes _ _ _ HIB.out, (K1.out.trans K3.out).trans (L3.out.keeps _ _)⟩
set_option maxHeartbeats 4000000 in
set_option maxRecDepth 100000 in
theorem takeV {W w : World} {b : Nat} {t : List UInt8} {c : UInt8} {cs : List Value} (h : Ln W b (32 :: 34 :: c :: 34 :: t) cs w) (hc0 : c ≠ 34) (hc1 : c ≠ 92) (hc2 : c.toNat < 128) (hT : Lib.Utf8Tabs 3 4 w) (hB : 5 ≤ b) (hp : pars [34, c, 34] = some [c]) (hv : cs[6]? = some (.slice none 0 0)) :
    Calls Tryz.prog 228 #[.pointer (some ⟨b, 0, none⟩), .int .i32 118] w fun e w' => e = .returned (.tuple #[]) ∧ ∃ q d, Ln W b t (cs.set 6 (.slice q 1 d)) w' ∧ OB w' q d [c] ∧ Kp b w w' := by
  have c0 := h.c0
  have f0 := h.f 0
  obtain ⟨s, hs⟩ : ∃ s, s = 34 :: c :: 34 :: t := ⟨_, rfl⟩
  rw [← hs] at h c0
  have hcut : (str (32 :: s)).extract 1 (str (32 :: s)).size = str s := ends_str _ (32 :: s) 1 rfl
  have hsz : (1 : Int) ≤ ((str (32 :: s)).size : Int) := by rw [str_size, List.length_cons]; omega
  have CH := Lib.hid (prefYes w s)
  have CM := Lib.hid mustYes
  have l1 : Ln W b s cs (w.setCell ⟨b, 0, none⟩ (.string (str s))) := h.rest s
  have g1 : Lib.Utf8Tabs 3 4 (w.setCell ⟨b, 0, none⟩ (.string (str s))) := tabs5 hT ((Below.refl 5 w).setCell (p := ⟨b, 0, none⟩) hB _)
  have k1 : Kp b w (w.setCell ⟨b, 0, none⟩ (.string (str s))) := h.keeps 0 _
  have CN := Lib.hid (lineText l1 hc0 hc1 hc2 hs g1 hp)
  have K1 := Lib.hid k1
  obtain ⟨S, hS⟩ : ∃ S, S = str (32 :: s) := ⟨_, rfl⟩
  rw [← hS] at c0 hcut hsz CH
  clear h hT g1 l1 hS k1 hs hp
  go_enter Tryz.func228, Tryz.ntmps228
  go_wp2_with first
    | (go_at_call 271; ((with_reducible refine (CH.out).mono ?_)); rintro e w1 ⟨rfl, rfl⟩)
    | (go_at_call 227; ((with_reducible refine (CM.out _).mono ?_)); rintro e w2 ⟨rfl, rfl⟩)
    | (go_at_call 273; ((with_reducible refine (CN.out).mono ?_)); rintro e w3 ⟨q, d, rfl, hib, l3, k3⟩; have f3 : w3.frozen? ⟨b, 7, none⟩ = false := l3.f 7; have c3 : w3.cell? ⟨b, 7, none⟩ = some (.slice none 0 0) := (cell_of_row w3 b 7 _ _ (0, 0) l3.row).trans (by simp [hv]); have L3 := Lib.hid l3; have K3 := Lib.hid k3; have HIB := Lib.hid hib; clear l3 k3 hib)
  go_end0
  exact ⟨rfl, q, d, L3.out.cell 6 _, L3.out.keeps _ _ |>.bytes _ _ _ HIB.out, (K1.out.trans K3.out).trans (L3.out.keeps _ _)⟩
end Go.Proofs.YtmbiiemlepfoaaaGreatDoor
