/- The walk of DrawsPlays. -/
import Derived.Test.YtkcijbljgcgdmaaDrRef
import Derived.Test.YtkcijbljgcgdmaaDrOps
import Derived.Deep.DeepCutAuto
import Derived.Lib.IndexBytes
namespace Go.Proofs.Ytkcijbljgcgdmaa
open Go.RowKit
set_option linter.unusedVariables false

theorem owns_below {w w' : World} {base : Nat} {e : TypeId} {s n : Nat} {v : Value} {xs : List Value} (h : w.ownsRow base e s v n xs) (hb : Below w.heap.size w w') : w'.ownsRow base e s v n xs :=
  ⟨h.1, h.2.imp id fun ⟨g, cap, cur, h1, h2, h3, h4⟩ => ⟨g, cap, cur, h1, h2, (hb.block g (row_lt h3)).trans h3, h4⟩⟩
theorem owns_kept {w w' : World} {T : Nat → Prop} {base : Nat} {e : TypeId} {s n : Nat} {v : Value} {xs : List Value} (h : w.ownsRow base e s v n xs) (hk : Kept w w' T) (hT : ∀ k, base ≤ k → k < w.heap.size → ¬ T k) : w'.ownsRow base e s v n xs :=
  ⟨h.1, h.2.imp id fun ⟨g, cap, cur, h1, h2, h3, h4⟩ => ⟨g, cap, cur, h1, h2, (hk.block g (row_lt h3) (hT g h2 (row_lt h3))).trans h3, h4⟩⟩
theorem wp_append_fresh (w : World) {ops : Array Oper} {rest : List Oper} {o : Oper} {a : Act} {Q : Exit → Act → World → Prop} (hgd : o.guard = none) (s x : Operand)
    (ho : o.op = .call { callee := .builtin .append, args := #[s, x], argTypes := #[22, 22] })
    (base : Nat) (v : Value) (hs : a.eval s = v) (hown : w.ownsRow base 5 1 v 0 []) (hbase : base ≤ w.heap.size)
    {p : Option Addr} {c : Nat} {l : List UInt8} (hB : IsB w p c l) (hx : a.eval x = .slice p l.length c) (hbytes : l.length ≤ 140737488355328)
    (h : ∀ q d w', w'.ownsRow base 5 1 (.slice q l.length d) l.length (l.map bv) → Below base w w' → wpList Try.prog ops Q rest (a.put o.dst (.slice q l.length d)) w') : wpList Try.prog ops Q (o :: rest) a w := by
  refine wp_append_bytes w hgd s x ho base v 0 [] hs hown hbase hB l.length rfl hx (by omega) fun v' w' ho' hb' => ?_
  rw [Nat.zero_add, List.nil_append] at ho'
  obtain ⟨q, d, rfl⟩ := own_slice ho'
  exact h q d w' ho' hb'
theorem made_at (w : World) (o : Obj) : ((w.alloc o).alloc (.cells #[] 5)).ownsRow (w.heap.size + 1) 5 1 (.slice (some ⟨w.heap.size + 1, 0, none⟩) 0 0) 0 [] := by
  have := World.ownsRow_made (e := 5) (size := 1) (w.alloc o) #[] 0 (Nat.le_refl _) (Nat.zero_le _) rfl
  rwa [World.size_alloc] at this
def u8 (n : Nat) : UInt8 := UInt8.ofNat n
theorem bv_u8 {n : Nat} (h : n < 256) : bv (u8 n) = .int .u8 (n : Int) := by
  unfold bv u8
  rw [UInt8.toNat_ofNat', Nat.mod_eq_of_lt h]

theorem srcLeft3 (w : World) {S : Nat → Prop} {g : Nat} {s : ByteArray} {t : Nat} (h : Src w S g s.data.toList t) : Calls Try.prog 11 #[.pointer (some ⟨g, 0, none⟩)] w fun en w' => en = .returned (.int .i64 (s.size : Int)) ∧ w' = w := by
  have := srcLeft2 w h
  rwa [show s.data.toList.length = s.size from by simp] at this
/-- The source, and the reference's, behind the same calls. -/
structure Pl (B : Nat) (w : World) (S : Nat → Prop) (g gx : Nat) (l : List UInt8) (t : Nat) (s : ByteArray) (t' : Nat) : Prop where
  src : Src w S g l t
  x : w.heap[gx]? = some (.cells #[.string s, .int .i64 (t' : Int)] 28 (0, 0))
  inS : ∀ k, S k → B ≤ k ∧ k < w.heap.size
  xB : B ≤ gx
  xS : ¬ S gx
section
variable {B : Nat} {w w1 : World} {S T : Nat → Prop} {g gx : Nat} {l l' : List UInt8} {t t' : Nat} {s s' : ByteArray}
theorem Pl.below (h : Pl B w S g gx l t s t') (hb : Below w.heap.size w w1) : Pl B w1 S g gx l t s t' :=
  ⟨h.src.below hb, (hb.block gx (row_lt h.x)).trans h.x, fun k hk => ⟨(h.inS k hk).1, Nat.lt_of_lt_of_le (h.inS k hk).2 hb.size⟩, h.xB, h.xS⟩
theorem below_dn {B : Nat} {w w' : World} (h : Below B w w') : ∀ n, Below B w (w'.drewN n)
  | 0 => h
  | n + 1 => (below_dn h n).drew
theorem Pl.dn (h : Pl B w S g gx l t s t') (n : Nat) : Pl B (w.drewN n) S g gx l t s t' := h.below (below_dn (Below.refl _ _) n)
theorem Pl.kept (h : Pl B w S g gx l t s t') (hk : Kept w w1 T) (hS : ∀ k, S k → ¬ T k) (hx : ¬ T gx) : Pl B w1 S g gx l t s t' :=
  ⟨h.src.kept hk hS, (hk.block gx (row_lt h.x) hx).trans h.x, fun k hs => ⟨(h.inS k hs).1, Nat.lt_of_lt_of_le (h.inS k hs).2 hk.size⟩, h.xB, h.xS⟩
theorem Pl.fed (h : Pl B w S g gx l t s t') (hB : B ≤ w.heap.size) (hf : FedS w w1 S g l' t) : Pl B w1 (fun k => (S k ∨ w.heap.size ≤ k) ∧ k < w1.heap.size) g gx l' t s t' :=
  ⟨hf.src.mono fun k hk hs => ⟨hs, hk⟩, (hf.kept.block gx (row_lt h.x) h.xS).trans h.x, fun k hs => ⟨by rcases hs.1 with h1 | h1; exact (h.inS k h1).1; omega, hs.2⟩, h.xB, fun hs => by
    rcases hs.1 with h1 | h1
    · exact h.xS h1
    · have := row_lt h.x; omega⟩
theorem Pl.seeded (h : Pl B w S g gx l t s t') (hs : SeedS w w1 S g l t) : Pl B w1 S g gx (l.drop 16) (t + 1) s t' :=
  ⟨hs.src, (hs.kept.block gx (row_lt h.x) (fun e => h.xS (by rw [e]; exact h.src.inS))).trans h.x, fun k hk => ⟨(h.inS k hk).1, Nat.lt_of_lt_of_le (h.inS k hk).2 hs.kept.size⟩, h.xB, h.xS⟩
theorem set_kept (w : World) (b o : Nat) (v : Value) : Kept w (w.setCell ⟨b, o, none⟩ v) (fun k => k = b) :=
  ⟨rfl, rfl, rfl, by simp [World.setCell], fun k _ hk => Below.heap_setCell w _ _ k (fun e => hk e)⟩
theorem Pl.set (h : Pl B w S g gx l t s t') (s2 : ByteArray) : Pl B (w.setCell ⟨gx, 0, none⟩ (.string s2)) S g gx l t s2 t' :=
  ⟨h.src.kept (set_kept w gx 0 _) fun k hk e => h.xS (by rw [← e]; exact hk), by simp [World.setCell, Array.getElem?_modify, h.x], fun k hk => ⟨(h.inS k hk).1, by have := (h.inS k hk).2; simpa [World.setCell] using this⟩, h.xB, h.xS⟩
theorem Pl.set2 (h : Pl B w S g gx l t s t') (s2 : ByteArray) (t2 : Nat) (v : Int) (hv : (t2 : Int) = v) : Pl B ((w.setCell ⟨gx, 0, none⟩ (.string s2)).setCell ⟨gx, 1, none⟩ (.int .i64 v)) S g gx l t s2 t2 := by
  subst hv
  have h1 := h.set s2
  exact ⟨h1.src.kept (set_kept _ gx 1 _) fun k hk e => h.xS (by rw [← e]; exact hk), by simp [World.setCell, Array.getElem?_modify, h.x], fun k hk => ⟨(h.inS k hk).1, by have := (h.inS k hk).2; simpa [World.setCell] using this⟩, h.xB, h.xS⟩
theorem below_B {B : Nat} (h : Pl B w S g gx l t s t') (hf : FedS w w1 S g l' t) (hB : B ≤ w.heap.size) : Below B w w1 := hf.kept.to_below (fun k hk => (h.inS k hk).1) hB
theorem below_seed {B : Nat} (h : Pl B w S g gx l t s t') (hf : SeedS w w1 S g l t) (hB : B ≤ w.heap.size) : Below B w w1 := hf.kept.to_below (fun k hk => by subst hk; exact (h.inS k h.src.inS).1) hB
theorem Pl.cells (h : Pl B w S g gx l t s t') : w.cell? ⟨gx, 0, none⟩ = some (.string s) ∧ w.cell? ⟨gx, 1, none⟩ = some (.int .i64 (t' : Int)) ∧ w.frozen? ⟨gx, 0, none⟩ = false ∧ w.frozen? ⟨gx, 1, none⟩ = false :=
  ⟨cell_of_row w gx 0 _ _ (0, 0) h.x, cell_of_row w gx 1 _ _ (0, 0) h.x, frozen_of_row w gx 0 _ _ h.x, frozen_of_row w gx 1 _ _ h.x⟩
end

set_option maxHeartbeats 4000000 in
set_option maxRecDepth 100000 in
theorem drawsPlays_few (w : World) {p : Option Addr} {c : Nat} {l : List UInt8} (h : IsB w p c l) (hl : l.length ≤ 200) {po : Option Addr} {co : Nat} {L : List (Bool × Option Addr × Nat × List UInt8)} (ho : IsP w po co L) (hL : L.length ≤ 40) :
    Calls Try.prog 3 #[.slice p l.length c, .slice po L.length co] w fun e w' => e = .returned (.bool true) ∧ Below w.heap.size w w' := by
  have g0 : ¬ (200 : Int) < (l.length : Int) := by omega
  have g1 : ¬ (40 : Int) < (L.length : Int) := by omega
  have H := Lib.hid h
  have HO := Lib.hid ho
  clear h ho
  go_enter Try.func3, Try.ntmps3
  go_wp2_with (at_builtin; refine wp_append_fresh _ rfl _ _ rfl w.heap.size _ rfl (World.ownsRow_made w #[] 0 (Nat.le_refl _) (Nat.zero_le _) rfl) (by simp) (H.out.alloc _) rfl ?rb ?_)
  case rb => omega
  intro q d w1 hown hb1
  have HO1 := Lib.hid hown
  have B1 : Hid (Below w.heap.size w w1) := ((Below.refl _ w).alloc (Nat.le_refl _) _).trans hb1
  have hq : ∀ x, q = some x → x.block < w1.heap.size := fun x hx => by subst hx; exact (hown.lt _ rfl).2
  have HQ := Lib.hid hq
  clear hown hb1 hq
  go_wp2_with fail
  refine (srcNew w1 (IsB.own HO1.out)).mono ?_
  rintro e w2 ⟨g, rfl, hnew⟩
  rw [List.take_of_length_le (by omega)] at hnew
  obtain ⟨S, hS, hsrc⟩ : ∃ S : Nat → Prop, (∀ k, S k → w1.heap.size ≤ k ∧ k < w2.heap.size) ∧ Src w2 S g l 0 := ⟨_, fun k hk => hk, hnew.src.mono fun k hk hs => ⟨hs, hk⟩⟩
  have HS := Lib.hid hS
  have SR := Lib.hid hsrc
  have HO2 := Lib.hid (owns_below HO1.out hnew.below)
  have B2 : Hid (Below w.heap.size w w2) := B1.out.trans (hnew.below.mono B1.out.size)
  clear hS hsrc hnew HO1
  go_wp2
  go_loopw [7, 36] (fun _ v36 wr => ∃ (j : Nat) (Bs : List UInt8), v36 = .int .i64 j ∧ j ≤ l.length ∧ Bs.length = l.length ∧ wr.ownsRow w.heap.size 5 1 (.slice q l.length d) l.length (Bs.map bv) ∧ Src wr S g l 0 ∧ w2.heap.size ≤ wr.heap.size ∧ Below w.heap.size w wr)
    (fun _ v36 _ => l.length - (intOf v36).toNat)
  case atStart => exact ⟨0, l, rfl, Nat.zero_le _, rfl, HO2.out, SR.out, Nat.le_refl _, B2.out⟩
  case round =>
    obtain ⟨j, Bs, rfl, hj, hBl, hown, hsrc, hsz, hbel⟩ := hrel
    by_cases h1 : j < l.length
    · as_aux_lemma =>
        have g2 : (j : Int) < (l.length : Int) := by omega
        rcases hown.2 with ⟨_, hn⟩ | ⟨gq, cap, cur, hv, hgq, _⟩
        · omega
        · injection hv with hv1 hv2 hv3
          subst hv1; subst hv3
          obtain ⟨y, hy⟩ : ∃ y, Bs[j]? = some y := ⟨_, List.getElem?_eq_getElem (by omega)⟩
          have hcell : wr.cell? ⟨gq, j, none⟩ = some (.int .u8 (y.toNat : Int)) := by
            rw [hown.cellAt j (by omega), List.getElem?_map, hy]
            rfl
          have hfr : wr.frozen? ⟨gq, j, none⟩ = false := hown.frozenAt j
          have hst := (hown.stored j (bv (u8 ((y.toNat + 1) % 256)))).1
          rw [← List.map_set, bv_u8 (by omega)] at hst
          have hb2 := hbel.setCell (p := ⟨gq, j, none⟩) hgq (.int .u8 (((y.toNat + 1) % 256 : Nat) : Int))
          have hs2 := hsrc.kept (set_kept wr gq j (.int .u8 (((y.toNat + 1) % 256 : Nat) : Int))) (fun k hk e => by have := (HS.out k hk).1; have := HQ.out _ rfl; simp at this; omega)
          have hz2 : w2.heap.size ≤ (wr.setCell ⟨gq, j, none⟩ (.int .u8 (((y.toNat + 1) % 256 : Nat) : Int))).heap.size := by simpa [World.setCell] using hsz
          generalize hzz : (y.toNat + 1) % 256 = z at *
          have ez : ((y.toNat : Int) + 1) % 256 = (z : Int) := by omega
          have HST := Lib.hid hst
          have HB3 := Lib.hid hb2
          have HS3 := Lib.hid hs2
          have HZ3 := Lib.hid hz2
          clear hst hb2 hs2 hz2 hown hbel hsrc hsz hy hzz
          go_wp2
          go_roundw
          case rel => exact ⟨j + 1, Bs.set j (u8 z), by go_num, by omega, by simpa using hBl, HST.out, HS3.out, HZ3.out, HB3.out⟩
          case measure => simp [intOf]; omega
    · obtain rfl : j = l.length := by omega
      have g2 : ¬ (l.length : Int) < (l.length : Int) := by omega
      obtain ⟨wX, rfl⟩ : ∃ x, x = wr := ⟨_, rfl⟩
      have kb := conv_of (H.out.below hbel)
      have P0 : Hid (Pl w.heap.size (wX.alloc (.cells #[.string (str l), .int .i64 0] 28)) S g wX.heap.size (str l).data.toList 0 (str l) 0) :=
        ⟨hsrc.below ((Below.refl _ _).alloc (Nat.le_refl _) _), heap_alloc_new wX _, fun k hk => ⟨by have := (HS.out k hk).1; have := B1.out.size; omega, by have := (HS.out k hk).2; simp; omega⟩, hbel.size, fun hk => by have := (HS.out _ hk).2; omega⟩
      have B3 : Hid (Below w.heap.size w (wX.alloc (.cells #[.string (str l), .int .i64 0] 28))) := hbel.alloc hbel.size _
      clear hown hbel hsrc hsz hBl HO2 SR B2
      go_wp2
      go_loopw [10, 11, 12, 13, 14, 15, 16, 17, 51] (fun _ _ _ _ _ _ _ _ v51 wr => ∃ (i : Nat) (s : ByteArray) (t : Nat) (S : Nat → Prop), v51 = .int .i64 i ∧ i ≤ L.length ∧ s.size ≤ 200 * (i + 1) ∧ t ≤ i ∧ Pl w.heap.size wr S g wX.heap.size s.data.toList t s t ∧ Below w.heap.size w wr)
        (fun _ _ _ _ _ _ _ _ v51 _ => L.length - (intOf v51).toNat)
      case atStart => exact ⟨0, str l, 0, S, rfl, Nat.zero_le _, by rw [str_size]; omega, Nat.le_refl _, P0.out, B3.out⟩
      case round =>
        clear HS HQ B1 P0 B3
        obtain ⟨i, s, t, S, rfl, hi, hsz, hti, hp, hbel⟩ := hrel
        by_cases h1 : i < L.length
        · have g3 : (i : Int) < (L.length : Int) := by omega
          obtain ⟨wA, rfl⟩ : ∃ x, x = wr := ⟨_, rfl⟩
          obtain ⟨b, o, rfl, hb, hc⟩ := HO.out.cells (by omega)
          obtain ⟨⟨f, qa, ca, a⟩, hxa⟩ : ∃ x, L[i]? = some x := ⟨_, List.getElem?_eq_getElem h1⟩
          have HIA : Hid (∀ W, Below w.heap.size w W → IsB W qa ca a) := fun W hW => (HO.out.bytes _ (List.mem_of_getElem? hxa)).below hW
          have hc2 := hc _ _ hxa
          have k1 : wA.cell? ⟨b, o + i * 2, none⟩ = some (.bool f) := (hbel.cell (p := ⟨b, o + i * 2, none⟩) hb).trans hc2.1
          have k2 : wA.cell? ⟨b, o + i * 2 + 1, none⟩ = some (.slice qa a.length ca) := (hbel.cell (p := ⟨b, o + i * 2 + 1, none⟩) hb).trans hc2.2
          have HP := Lib.hid hp
          have HB := Lib.hid hbel
          clear hc hc2 hxa hp hbel HO
          by_cases h2 : a.length ≤ 200
          · have g4 : ¬ (200 : Int) < (a.length : Int) := by omega
            cases f
            · by_cases hs16 : s.size < 16
              · as_aux_lemma =>
                  have hP1 := HP.out.below ((Below.refl wA.heap.size wA).alloc (Nat.le_refl _) (.cells #[.bool false, .slice qa a.length ca] 30))
                  obtain ⟨c0, c1, f0, f1⟩ := hP1.cells
                  have P1 := Lib.hid hP1
                  have B1 : Hid (Below w.heap.size w (wA.alloc (.cells #[.bool false, .slice qa a.length ca] 30))) := HB.out.alloc HB.out.size _
                  clear hP1
                  go_wp2_with fail
                  refine (refDry _ s t hs16).mono ?_
                  rintro e w2 ⟨rfl, hb2⟩
                  have hP2 := P1.out.below hb2
                  have B2 : Hid (Below w.heap.size w w2) := B1.out.trans (hb2.mono B1.out.size)
                  clear c0 c1 f0 f1
                  obtain ⟨c0, c1, f0, f1⟩ := hP2.cells
                  have PX : Hid (∀ o, Pl w.heap.size (w2.alloc o) S g wX.heap.size s.data.toList t s t) := fun o => hP2.below ((Below.refl _ _).alloc (Nat.le_refl _) _)
                  have cx : ∀ o, (w2.alloc o).cell? ⟨wX.heap.size, 0, none⟩ = some (.string s) := fun o => (PX.out o).cells.1
                  have cy : ∀ o, (w2.alloc o).cell? ⟨wX.heap.size, 1, none⟩ = some (.int .i64 (t : Int)) := fun o => (PX.out o).cells.2.1
                  have fx : ∀ o, (w2.alloc o).frozen? ⟨wX.heap.size, 0, none⟩ = false := fun o => (PX.out o).cells.2.2.1
                  have fy : ∀ o, (w2.alloc o).frozen? ⟨wX.heap.size, 1, none⟩ = false := fun o => (PX.out o).cells.2.2.2
                  have P3 := Lib.hid ((PX.out (.cells #[.string s, .int .i64 (t : Int)] 28)).set2 s t _ rfl)
                  have B3 : Hid (Below w.heap.size w (((w2.alloc (.cells #[.string s, .int .i64 (t : Int)] 28)).setCell ⟨wX.heap.size, 0, none⟩ (.string s)).setCell ⟨wX.heap.size, 1, none⟩ (.int .i64 (t : Int)))) := ((B2.out.alloc B2.out.size _).setCell (p := ⟨wX.heap.size, 0, none⟩) hP2.xB _).setCell (p := ⟨wX.heap.size, 1, none⟩) hP2.xB _
                  have hl16 : s.data.toList.length < 16 := by simpa using hs16
                  have kn : ∀ W, (binOp .neq 36 (.agg #[.int .u8 0, .int .u8 0, .int .u8 0, .int .u8 0, .int .u8 0, .int .u8 0, .int .u8 0, .int .u8 0, .int .u8 0, .int .u8 0, .int .u8 0, .int .u8 0, .int .u8 0, .int .u8 0, .int .u8 0, .int .u8 0]) (.agg #[.int .u8 0, .int .u8 0, .int .u8 0, .int .u8 0, .int .u8 0, .int .u8 0, .int .u8 0, .int .u8 0, .int .u8 0, .int .u8 0, .int .u8 0, .int .u8 0, .int .u8 0, .int .u8 0, .int .u8 0, .int .u8 0])).run Try.prog W = .ok (.bool false) W := fun W => neq_seed W [0, 0, 0, 0, 0, 0, 0, 0, 0, 0, 0, 0, 0, 0, 0, 0] [0, 0, 0, 0, 0, 0, 0, 0, 0, 0, 0, 0, 0, 0, 0, 0] rfl rfl
                  clear hb2 hP2
                  go_wp2_with fail
                  refine (srcDry _ P3.out.src hl16).mono ?_
                  rintro e w4 ⟨rfl, hb4⟩
                  unfold zeroB
                  have hb5 := hb4.trans ((Below.refl _ w4).alloc hb4.size (.cells #[.int .u8 0, .int .u8 0, .int .u8 0, .int .u8 0, .int .u8 0, .int .u8 0, .int .u8 0, .int .u8 0, .int .u8 0, .int .u8 0, .int .u8 0, .int .u8 0, .int .u8 0, .int .u8 0, .int .u8 0, .int .u8 0] 36))
                  have hp5 := P3.out.below hb5
                  obtain ⟨d0, d1, _, _⟩ := hp5.cells
                  have PF := Lib.hid hp5
                  have BF : Hid (Below w.heap.size w (w4.alloc (.cells #[.int .u8 0, .int .u8 0, .int .u8 0, .int .u8 0, .int .u8 0, .int .u8 0, .int .u8 0, .int .u8 0, .int .u8 0, .int .u8 0, .int .u8 0, .int .u8 0, .int .u8 0, .int .u8 0, .int .u8 0, .int .u8 0] 36))) := B3.out.trans (hb5.mono B3.out.size)
                  clear hb4 hb5 hp5 hl16 PX P3 B3
                  go_upto_region 33 with fail
                  go_quiet (first | (go_at_call 11; exact Calls.quiet_of_same (srcLeft3 _ (PF.out.dn _).src)) | (go_at_call 12; exact Calls.quiet_of_same (srcTaken2 _ (PF.out.dn _).src)))
                  go_wp2
                  go_roundw
                  case rel => exact ⟨i + 1, s, t, S, by go_num, by omega, by omega, by omega, PF.out.dn _, below_dn BF.out _⟩
                  case measure => simp [intOf]; omega
              · as_aux_lemma =>
                  have hP1 := HP.out.below ((Below.refl wA.heap.size wA).alloc (Nat.le_refl _) (.cells #[.bool false, .slice qa a.length ca] 30))
                  obtain ⟨c0, c1, f0, f1⟩ := hP1.cells
                  have P1 := Lib.hid hP1
                  have B1 : Hid (Below w.heap.size w (wA.alloc (.cells #[.bool false, .slice qa a.length ca] 30))) := HB.out.alloc HB.out.size _
                  clear hP1
                  go_wp2_with fail
                  refine (refSeed _ s t (by omega) (by omega) (by omega)).mono ?_
                  rintro e w2 ⟨rfl, hb2⟩
                  have hP2 := P1.out.below hb2
                  have B2 : Hid (Below w.heap.size w w2) := B1.out.trans (hb2.mono B1.out.size)
                  clear c0 c1 f0 f1
                  obtain ⟨c0, c1, f0, f1⟩ := hP2.cells
                  have PX : Hid (∀ o, Pl w.heap.size (w2.alloc o) S g wX.heap.size s.data.toList t s t) := fun o => hP2.below ((Below.refl _ _).alloc (Nat.le_refl _) _)
                  have cx : ∀ o, (w2.alloc o).cell? ⟨wX.heap.size, 0, none⟩ = some (.string s) := fun o => (PX.out o).cells.1
                  have cy : ∀ o, (w2.alloc o).cell? ⟨wX.heap.size, 1, none⟩ = some (.int .i64 (t : Int)) := fun o => (PX.out o).cells.2.1
                  have fx : ∀ o, (w2.alloc o).frozen? ⟨wX.heap.size, 0, none⟩ = false := fun o => (PX.out o).cells.2.2.1
                  have fy : ∀ o, (w2.alloc o).frozen? ⟨wX.heap.size, 1, none⟩ = false := fun o => (PX.out o).cells.2.2.2
                  have P3 := Lib.hid ((PX.out (.cells #[.string (s.extract 16 s.size), .int .i64 ((t : Int) + 1)] 28)).set2 (s.extract 16 s.size) (t + 1) ((t : Int) + 1) (by omega))
                  have B3 : Hid (Below w.heap.size w (((w2.alloc (.cells #[.string (s.extract 16 s.size), .int .i64 ((t : Int) + 1)] 28)).setCell ⟨wX.heap.size, 0, none⟩ (.string (s.extract 16 s.size))).setCell ⟨wX.heap.size, 1, none⟩ (.int .i64 ((t : Int) + 1)))) := ((B2.out.alloc B2.out.size _).setCell (p := ⟨wX.heap.size, 0, none⟩) hP2.xB _).setCell (p := ⟨wX.heap.size, 1, none⟩) hP2.xB _
                  have hl16 : 16 ≤ s.data.toList.length := by simp; omega
                  obtain ⟨x0, x1, x2, x3, x4, x5, x6, x7, x8, x9, xa, xb, xc, xd, xe, xf, hx⟩ := sixteenB (s.data.toList.take 16) (by rw [List.length_take]; omega)
                  have hagg : ((s.data.toList.take 16).map bv).toArray = #[.int .u8 (x0.toNat : Int), .int .u8 (x1.toNat : Int), .int .u8 (x2.toNat : Int), .int .u8 (x3.toNat : Int), .int .u8 (x4.toNat : Int), .int .u8 (x5.toNat : Int), .int .u8 (x6.toNat : Int), .int .u8 (x7.toNat : Int), .int .u8 (x8.toNat : Int), .int .u8 (x9.toNat : Int), .int .u8 (xa.toNat : Int), .int .u8 (xb.toNat : Int), .int .u8 (xc.toNat : Int), .int .u8 (xd.toNat : Int), .int .u8 (xe.toNat : Int), .int .u8 (xf.toNat : Int)] := by rw [hx]; rfl
                  have hsd := srcSeed _ P3.out.src hl16 (by omega)
                  rw [hagg] at hsd
                  have HSD := Lib.hid hsd
                  have hex : str (s.data.toList.take 16) = s.extract 0 16 := by
                    apply ByteArray.ext
                    apply Array.toList_inj.1
                    rw [str_data]
                    simp
                  have HCV : Hid (∀ W : World, (Go.convert 22 9 (.slice (some ⟨W.heap.size, 0, none⟩) 16 16)).run Try.prog (W.alloc (.cells #[.int .u8 (x0.toNat : Int), .int .u8 (x1.toNat : Int), .int .u8 (x2.toNat : Int), .int .u8 (x3.toNat : Int), .int .u8 (x4.toNat : Int), .int .u8 (x5.toNat : Int), .int .u8 (x6.toNat : Int), .int .u8 (x7.toNat : Int), .int .u8 (x8.toNat : Int), .int .u8 (x9.toNat : Int), .int .u8 (xa.toNat : Int), .int .u8 (xb.toNat : Int), .int .u8 (xc.toNat : Int), .int .u8 (xd.toNat : Int), .int .u8 (xe.toNat : Int), .int .u8 (xf.toNat : Int)] 36)) = .ok (.string (s.extract 0 16)) (W.alloc (.cells #[.int .u8 (x0.toNat : Int), .int .u8 (x1.toNat : Int), .int .u8 (x2.toNat : Int), .int .u8 (x3.toNat : Int), .int .u8 (x4.toNat : Int), .int .u8 (x5.toNat : Int), .int .u8 (x6.toNat : Int), .int .u8 (x7.toNat : Int), .int .u8 (x8.toNat : Int), .int .u8 (x9.toNat : Int), .int .u8 (xa.toNat : Int), .int .u8 (xb.toNat : Int), .int .u8 (xc.toNat : Int), .int .u8 (xd.toNat : Int), .int .u8 (xe.toNat : Int), .int .u8 (xf.toNat : Int)] 36))) := fun W => by
                    have := conv_of (IsB.lit W [x0, x1, x2, x3, x4, x5, x6, x7, x8, x9, xa, xb, xc, xd, xe, xf] 36 (0, 0) (by show 16 ≤ maxLen; unfold maxLen; decide))
                    rw [← hx, hex] at this
                    rw [hx] at this
                    exact this
                  clear hb2 hP2 hagg hsd hx hex hl16
                  go_wp2_with fail
                  refine HSD.out.mono ?_
                  rintro e w4 ⟨rfl, hse⟩
                  have kx := HCV.out w4
                  have hp4 := P3.out.seeded hse
                  have hb4 := below_seed P3.out hse B3.out.size
                  have e5 : s.data.toList.drop 16 = (s.extract 16 s.size).data.toList := (Lib.extract_to_end _ _).symm
                  rw [e5] at hp4
                  have hp5 := hp4.below ((Below.refl _ w4).alloc (Nat.le_refl _) (.cells #[.int .u8 (x0.toNat : Int), .int .u8 (x1.toNat : Int), .int .u8 (x2.toNat : Int), .int .u8 (x3.toNat : Int), .int .u8 (x4.toNat : Int), .int .u8 (x5.toNat : Int), .int .u8 (x6.toNat : Int), .int .u8 (x7.toNat : Int), .int .u8 (x8.toNat : Int), .int .u8 (x9.toNat : Int), .int .u8 (xa.toNat : Int), .int .u8 (xb.toNat : Int), .int .u8 (xc.toNat : Int), .int .u8 (xd.toNat : Int), .int .u8 (xe.toNat : Int), .int .u8 (xf.toNat : Int)] 36))
                  obtain ⟨d0, d1, _, _⟩ := hp5.cells
                  have d1' : (w4.alloc (.cells #[.int .u8 (x0.toNat : Int), .int .u8 (x1.toNat : Int), .int .u8 (x2.toNat : Int), .int .u8 (x3.toNat : Int), .int .u8 (x4.toNat : Int), .int .u8 (x5.toNat : Int), .int .u8 (x6.toNat : Int), .int .u8 (x7.toNat : Int), .int .u8 (x8.toNat : Int), .int .u8 (x9.toNat : Int), .int .u8 (xa.toNat : Int), .int .u8 (xb.toNat : Int), .int .u8 (xc.toNat : Int), .int .u8 (xd.toNat : Int), .int .u8 (xe.toNat : Int), .int .u8 (xf.toNat : Int)] 36)).cell? ⟨wX.heap.size, 1, none⟩ = some (.int .i64 ((t : Int) + 1)) := by rw [d1]; rfl
                  have PF := Lib.hid hp5
                  have BF : Hid (Below w.heap.size w (w4.alloc (.cells #[.int .u8 (x0.toNat : Int), .int .u8 (x1.toNat : Int), .int .u8 (x2.toNat : Int), .int .u8 (x3.toNat : Int), .int .u8 (x4.toNat : Int), .int .u8 (x5.toNat : Int), .int .u8 (x6.toNat : Int), .int .u8 (x7.toNat : Int), .int .u8 (x8.toNat : Int), .int .u8 (x9.toNat : Int), .int .u8 (xa.toNat : Int), .int .u8 (xb.toNat : Int), .int .u8 (xc.toNat : Int), .int .u8 (xd.toNat : Int), .int .u8 (xe.toNat : Int), .int .u8 (xf.toNat : Int)] 36))) := (B3.out.trans hb4).alloc (B3.out.trans hb4).size _
                  clear hse hp4 hb4 e5 hp5 HSD HCV PX P3 B3 d1
                  go_upto_region 33 with fail
                  go_quiet (first | (go_at_call 11; exact Calls.quiet_of_same (srcLeft3 _ (PF.out.dn _).src)) | (go_at_call 12; exact Calls.quiet_of_same (srcTaken2 _ (PF.out.dn _).src)))
                  go_wp2
                  go_roundw
                  case rel => exact ⟨i + 1, s.extract 16 s.size, t + 1, S, by go_num, by omega, by simp; omega, by omega, PF.out.dn _, below_dn BF.out _⟩
                  case measure => simp [intOf]; omega
            · as_aux_lemma =>
                go_wp2_with (at_builtin; (refine wp_append_fresh _ rfl _ _ rfl (wA.heap.size + 1) _ rfl (made_at wA _) ?bas (HIA.out _ ?bel) rfl ?len ?_))
                case len => omega
                case bel => exact ((HB.out.alloc HB.out.size _).alloc (by have := HB.out.size; simp; omega) _)
                intro q2 d2 w2 hown hb2
                have hb0 : Below (wA.heap.size + 1) (wA.alloc (.cells #[.bool true, .slice qa a.length ca] 30)) w2 := ((Below.refl _ _).alloc (by simp) _).trans hb2
                have hz2 := hb0.size
                have hb01 : Below wA.heap.size wA w2 := ((Below.refl _ _).alloc (Nat.le_refl _) _).trans (hb0.mono (Nat.le_succ _))
                have P2 := Lib.hid (HP.out.below hb01)
                have B2 : Hid (Below w.heap.size w w2) := HB.out.trans (hb01.mono HB.out.size)
                have ho2 : w2.heap[wA.heap.size]? = some (.cells #[.bool true, .slice qa a.length ca] 30 (0, 0)) := (hb0.block wA.heap.size (Nat.lt_succ_self _)).trans (heap_alloc_new wA _)
                have HO2 := Lib.hid ho2
                have HW2 := Lib.hid hown
                clear hb2 hb0 hb01 ho2 hown
                go_wp2_with fail
                refine (srcFeed w2 P2.out.src (IsB.own HW2.out) (by rw [Array.length_toList]; show s.size + _ ≤ _; omega)).mono ?_
                rintro e w3 ⟨rfl, hfed⟩
                have P3 := Lib.hid (P2.out.fed B2.out.size hfed)
                have B3 : Hid (Below w.heap.size w w3) := B2.out.trans (below_B P2.out hfed B2.out.size)
                have HO3 : Hid (w3.heap[wA.heap.size]? = some (.cells #[.bool true, .slice qa a.length ca] 30 (0, 0))) := (hfed.kept.block wA.heap.size (row_lt HO2.out) (fun hk => by have := (HP.out.inS _ hk).2; omega)).trans HO2.out
                have HW3 := Lib.hid (owns_kept HW2.out hfed.kept fun k hk _ hs => by have := (HP.out.inS _ hs).2; omega)
                have hq2 : ∀ x, q2 = some x → wA.heap.size < x.block ∧ x.block < w2.heap.size := fun x hx => by subst hx; exact HW2.out.lt _ rfl
                have HXA := row_lt HP.out.x
                have HNS : ∀ x, q2 = some x → ¬ ((S x.block ∨ w2.heap.size ≤ x.block) ∧ x.block < w3.heap.size) ∧ x.block ≠ wX.heap.size ∧ x.block ≠ wA.heap.size ∧ w.heap.size ≤ x.block := fun x hx => by
                  obtain ⟨q1, q3⟩ := hq2 x hx
                  refine ⟨fun ⟨hs, _⟩ => ?_, by omega, by omega, by have := HB.out.size; omega⟩
                  rcases hs with hs | hs
                  · have := (HP.out.inS _ hs).2; omega
                  · omega
                have HN := Lib.hid HNS
                obtain ⟨S3, HS3⟩ : ∃ S3 : Nat → Prop, S3 = (fun k => (S k ∨ w2.heap.size ≤ k) ∧ k < w3.heap.size) := ⟨_, rfl⟩
                have P3' : Hid (Pl w.heap.size w3 S3 g wX.heap.size (s.data.toList ++ a) t s t) := by rw [HS3]; exact P3.out
                have HN' : Hid (∀ x, q2 = some x → ¬ S3 x.block ∧ x.block ≠ wX.heap.size ∧ x.block ≠ wA.heap.size ∧ w.heap.size ≤ x.block) := by rw [HS3]; exact HN.out
                clear hfed hq2 HNS HN HXA HS3 P3 HO2 HW2 P2 B2 HP HB hz2
                go_wp2
                go_loopw [12, 72] (fun _ v72 w4 => ∃ (j : Nat) (Bs : List UInt8), v72 = .int .i64 j ∧ j ≤ a.length ∧ Bs.length = a.length ∧ w4.ownsRow (wA.heap.size + 1) 5 1 (.slice q2 a.length d2) a.length (Bs.map bv) ∧ Pl w.heap.size w4 S3 g wX.heap.size (s.data.toList ++ a) t s t ∧ Below w.heap.size w w4 ∧ w4.heap[wA.heap.size]? = some (.cells #[.bool true, .slice qa a.length ca] 30 (0, 0)))
                  (fun _ v72 _ => a.length - (intOf v72).toNat)
                case atStart => exact ⟨0, a, rfl, Nat.zero_le _, rfl, HW3.out, P3'.out, B3.out, HO3.out⟩
                case round =>
                  obtain ⟨j, Bs, rfl, hj, hBl, hown, hp, hbel, ho4⟩ := hrel
                  obtain ⟨w4, rfl⟩ : ∃ x, x = wr := ⟨_, rfl⟩
                  clear HW3 P3' B3 HO3
                  by_cases h3 : j < a.length
                  · as_aux_lemma =>
                      have g5 : (j : Int) < (a.length : Int) := by omega
                      rcases hown.2 with ⟨_, hn⟩ | ⟨gq, cap, cur, hv, hgq, _⟩
                      · omega
                      · injection hv with hv1 hv2 hv3
                        subst hv1; subst hv3
                        obtain ⟨y, hy⟩ : ∃ y, Bs[j]? = some y := ⟨_, List.getElem?_eq_getElem (by omega)⟩
                        obtain ⟨n1, n2, n3, n4⟩ := HN'.out _ rfl
                        have hcell : w4.cell? ⟨gq, j, none⟩ = some (.int .u8 (y.toNat : Int)) := by
                          rw [hown.cellAt j (by omega), List.getElem?_map, hy]
                          rfl
                        have hfr : w4.frozen? ⟨gq, j, none⟩ = false := hown.frozenAt j
                        have hst := (hown.stored j (bv (u8 ((y.toNat + 1) % 256)))).1
                        rw [← List.map_set, bv_u8 (by omega)] at hst
                        have hk2 := set_kept w4 gq j (.int .u8 (((y.toNat + 1) % 256 : Nat) : Int))
                        have HB5 : Hid (Below w.heap.size w (w4.setCell ⟨gq, j, none⟩ (.int .u8 (((y.toNat + 1) % 256 : Nat) : Int)))) := hbel.setCell (p := ⟨gq, j, none⟩) n4 _
                        have HP5 := Lib.hid (hp.kept hk2 (fun k hk e => n1 (by rw [← e]; exact hk)) (fun e => n2 e.symm))
                        have HO5 := Lib.hid ((hk2.block wA.heap.size (row_lt ho4) (fun e => n3 e.symm)).trans ho4)
                        generalize hzz : (y.toNat + 1) % 256 = z at *
                        have ez : ((y.toNat : Int) + 1) % 256 = (z : Int) := by omega
                        have HST := Lib.hid hst
                        clear hst hk2 hown hbel hp ho4 hy hzz n1 n2 n3
                        go_wp2
                        go_roundw
                        case rel => exact ⟨j + 1, Bs.set j (u8 z), by go_num, by omega, by simpa using hBl, HST.out, HP5.out, HB5.out, HO5.out⟩
                        case measure => simp [intOf]; omega
                  · as_aux_lemma =>
                      obtain rfl : j = a.length := by omega
                      have g5 : ¬ (a.length : Int) < (a.length : Int) := by omega
                      obtain ⟨c0, c1, f0, f1⟩ := hp.cells
                      have e1 : w4.cell? ⟨wA.heap.size, 1, none⟩ = some (.slice qa a.length ca) := cell_of_row w4 _ 1 _ _ (0, 0) ho4
                      have kb2 := conv_of (HIA.out _ hbel)
                      have hp6 := hp.set (s ++ str a)
                      have hl6 : (s ++ str a).data.toList = s.data.toList ++ a := by simp [str]
                      rw [← hl6] at hp6
                      have PF := Lib.hid hp6
                      have hb6 := hbel.setCell (p := ⟨wX.heap.size, 0, none⟩) hp.xB (.string (s ++ str a))
                      have BF := Lib.hid hb6
                      obtain ⟨d0, d1, _, _⟩ := hp6.cells
                      have hsl : ((s ++ str a).data.toList.length : Int) = ((s ++ str a).size : Int) := by simp
                      have hsz6 : (s ++ str a).size ≤ 200 * (i + 1 + 1) := by rw [ByteArray.size_append, str_size]; omega
                      clear hp hbel hown ho4 hp6 hb6 hl6
                      have hcat : ¬ 9223372036854775807 < s.size + (str a).size := by rw [str_size]; omega
                      go_upto_region 33 with fail
                      clear hcat
                      go_quiet (first | (go_at_call 11; exact Calls.quiet_of_same (srcLeft3 _ (PF.out.dn _).src)) | (go_at_call 12; exact Calls.quiet_of_same (srcTaken2 _ (PF.out.dn _).src)))
                      go_wp2
                      go_roundw
                      case rel => exact ⟨i + 1, s ++ str a, t, S3, by go_num, by omega, hsz6, by omega, PF.out.dn _, below_dn BF.out _⟩
                      case measure => simp [intOf]; omega
          · as_aux_lemma =>
              have g4 : (200 : Int) < (a.length : Int) := by omega
              go_wp2_with fail
              refine (awake _).mono ?_
              rintro e w5 ⟨rfl, hb5⟩
              have hz := hb5.size
              have B5 : Hid (Below w.heap.size w w5) := (HB.out.alloc HB.out.size _).trans (hb5.mono (by have := HB.out.size; simp; omega))
              clear hb5 hz
              go_wp2
              go_ret
              exact ⟨rfl, B5.out⟩
        · as_aux_lemma =>
            have g3 : ¬ (i : Int) < (L.length : Int) := by omega
            have HB := Lib.hid hbel
            clear hp hbel
            go_wp2_with fail
            refine (awake _).mono ?_
            rintro e w5 ⟨rfl, hb5⟩
            have B5 : Hid (Below w.heap.size w w5) := HB.out.trans (hb5.mono HB.out.size)
            clear hb5
            go_wp2
            go_ret
            exact ⟨rfl, B5.out⟩

set_option maxHeartbeats 1000000 in
set_option maxRecDepth 100000 in
theorem drawsPlays_law (w : World) {p : Option Addr} {c : Nat} {l : List UInt8} (h : IsB w p c l) {po : Option Addr} {co : Nat} {L : List (Bool × Option Addr × Nat × List UInt8)} (ho : IsP w po co L) :
    Calls Try.prog 3 #[.slice p l.length c, .slice po L.length co] w fun e w' => e = .returned (.bool true) ∧ Below w.heap.size w w' := by
  by_cases hl : l.length ≤ 200
  · by_cases hL : L.length ≤ 40
    · exact drawsPlays_few w h hl ho hL
    · have g0 : ¬ (200 : Int) < (l.length : Int) := by omega
      have g1 : (40 : Int) < (L.length : Int) := by omega
      go_enter Try.func3, Try.ntmps3
      go_wp2_with fail
      refine (awake _).mono ?_
      rintro e w' ⟨rfl, hbel⟩
      have HB := Lib.hid hbel
      clear hbel
      go_wp2
      go_ret
      exact ⟨rfl, HB.out⟩
  · have g0 : (200 : Int) < (l.length : Int) := by omega
    go_enter Try.func3, Try.ntmps3
    go_wp2_with fail
    refine (awake _).mono ?_
    rintro e w' ⟨rfl, hbel⟩
    have HB := Lib.hid hbel
    clear hbel
    go_wp2
    go_ret
    exact ⟨rfl, HB.out⟩
end Go.Proofs.Ytkcijbljgcgdmaa
