/- The walk of DrawsParts. -/
import Derived.Test.YtkcijbljgcgdmaaDrFull
import Derived.Test.YtkcijbljgcgdmaaList
import Derived.Laws.Rows
import Derived.Stop.BytesEq
namespace Go.Proofs.Ytkcijbljgcgdmaa
open Go.RowKit

/-- A source, and bytes beside it that lie apart. -/
structure Two (B : Nat) (w : World) (S : Nat → Prop) (g : Nat) (l : List UInt8) (t : Nat) (q : Option Addr) (d : Nat) (A : List UInt8) : Prop where
  src : Src w S g l t
  apart : ∀ k, S k → B ≤ k ∧ k < w.heap.size ∧ ¬ Lies q d k
  own : OR w 0 q d A
  base : ∀ k, Lies q d k → B ≤ k
theorem OR.lies {w : World} {B : Nat} {q : Option Addr} {d : Nat} {l : List UInt8} (h : OR w B q d l) : ∀ k, Lies q d k → k < w.heap.size := fun k ⟨x, hx, hd, e⟩ => by
  obtain ⟨b, o, rfl, _, hlt, _⟩ := h.row x hx hd
  rw [← e]; exact hlt
theorem Two.append {B : Nat} {w w1 : World} {S : Nat → Prop} {g : Nat} {l : List UInt8} {t : Nat} {q q' : Option Addr} {d d' : Nat} {A A' : List UInt8} (h : Two B w S g l t q d A) (hB : B ≤ w.heap.size)
    (ho : OR w1 0 q' d' A') (hk : Kept w w1 (Lies q d)) (hl : ∀ k, Lies q' d' k → Lies q d k ∨ w.heap.size ≤ k) : Two B w1 S g l t q' d' A' :=
  ⟨h.src.kept hk fun k hs => (h.apart k hs).2.2, fun k hs => ⟨(h.apart k hs).1, Nat.lt_of_lt_of_le (h.apart k hs).2.1 hk.size, fun hx => by
    rcases hl k hx with h1 | h1
    · exact (h.apart k hs).2.2 h1
    · have := (h.apart k hs).2.1; omega⟩, ho, fun k hx => by
    rcases hl k hx with h1 | h1
    · exact h.base k h1
    · omega⟩
theorem Two.below {B : Nat} {w w1 : World} {S : Nat → Prop} {g : Nat} {l : List UInt8} {t : Nat} {q : Option Addr} {d : Nat} {A : List UInt8} (h : Two B w S g l t q d A) (hb : Below w.heap.size w w1) : Two B w1 S g l t q d A :=
  ⟨h.src.below hb, fun k hs => ⟨(h.apart k hs).1, Nat.lt_of_lt_of_le (h.apart k hs).2.1 hb.size, (h.apart k hs).2.2⟩, h.own.below hb, h.base⟩
theorem Two.feed {B : Nat} {w w1 : World} {S : Nat → Prop} {g : Nat} {l l' : List UInt8} {t : Nat} {q : Option Addr} {d : Nat} {A : List UInt8} (h : Two B w S g l t q d A) (hB : B ≤ w.heap.size) (hf : FedS w w1 S g l' t) :
    Two B w1 (fun k => (S k ∨ w.heap.size ≤ k) ∧ k < w1.heap.size) g l' t q d A := by
  have hl := h.own.lies
  refine ⟨hf.src.mono fun k hk hs => ⟨hs, hk⟩, fun k hs => ⟨?_, hs.2, fun hx => ?_⟩, ?_, h.base⟩
  · rcases hs.1 with h1 | h1
    · exact (h.apart k h1).1
    · omega
  · rcases hs.1 with h1 | h1
    · exact (h.apart k h1).2.2 hx
    · have := hl k hx; omega
  · refine h.own.same hf.kept.size fun x hx hd => hf.kept.block _ (hl _ ⟨x, hx, hd, rfl⟩) fun hs => (h.apart _ hs).2.2 ⟨x, hx, hd, rfl⟩
theorem Two.belowFeed {B : Nat} {w w1 : World} {S : Nat → Prop} {g : Nat} {l l' : List UInt8} {t : Nat} {q : Option Addr} {d : Nat} {A : List UInt8} (h : Two B w S g l t q d A) (hB : B ≤ w.heap.size) (hf : FedS w w1 S g l' t) : Below B w w1 :=
  hf.kept.to_below (fun k hs => (h.apart k hs).1) hB
theorem Two.belowAppend {B : Nat} {w w1 : World} {S : Nat → Prop} {g : Nat} {l : List UInt8} {t : Nat} {q : Option Addr} {d : Nat} {A : List UInt8} (h : Two B w S g l t q d A) (hB : B ≤ w.heap.size) (hk : Kept w w1 (Lies q d)) : Below B w w1 :=
  hk.to_below h.base hB

/-- Two sources that lie apart. -/
structure Pair2 (B : Nat) (w : World) (S S2 : Nat → Prop) (g g2 : Nat) (l : List UInt8) (t : Nat) : Prop where
  a : Src w S g l t
  b : Src w S2 g2 l t
  ge : ∀ k, S k ∨ S2 k → B ≤ k
  apart : ∀ k, S k → ¬ S2 k
theorem Pair2.gA {B : Nat} {w : World} {S S2 : Nat → Prop} {g g2 : Nat} {l : List UInt8} {t : Nat} (h : Pair2 B w S S2 g g2 l t) : S g := h.a.inS
theorem Pair2.gB {B : Nat} {w : World} {S S2 : Nat → Prop} {g g2 : Nat} {l : List UInt8} {t : Nat} (h : Pair2 B w S S2 g g2 l t) : S2 g2 := h.b.inS
theorem Pair2.below {B : Nat} {w w1 : World} {S S2 : Nat → Prop} {g g2 : Nat} {l : List UInt8} {t : Nat} (h : Pair2 B w S S2 g g2 l t) (hb : Below w.heap.size w w1) : Pair2 B w1 S S2 g g2 l t :=
  ⟨h.a.below hb, h.b.below hb, h.ge, h.apart⟩
def allP : List (Option Addr × Nat × List UInt8) → List UInt8
  | [] => []
  | x :: L => x.2.2 ++ allP L
theorem allP_append : ∀ a b, allP (a ++ b) = allP a ++ allP b
  | [], _ => rfl
  | x :: a, b => by simp [allP, allP_append a b]
theorem allP_step {L : List (Option Addr × Nat × List UInt8)} {i : Nat} {x} (h : L[i]? = some x) : allP (L.take (i + 1)) = allP (L.take i) ++ x.2.2 := by
  rw [List.take_add_one, h, allP_append]
  simp [allP]
theorem taken_val {w : World} {S : Nat → Prop} {g : Nat} {l : List UInt8} {t : Nat} (h : Src w S g l t) (n : Int) (hn : (t : Int) = n) : Calls Try.prog 12 #[.pointer (some ⟨g, 0, none⟩)] w fun en w' => en = .returned (.int .i64 n) ∧ w = w' := by
  subst hn; exact srcTaken w h

theorem neq_seed (W : World) (xs ys : List UInt8) (hx : xs.length = 16) (hy : ys.length = 16) :
    (binOp .neq 36 (.agg (xs.map bv).toArray) (.agg (ys.map bv).toArray)).run Try.prog W = .ok (.bool (!(xs == ys))) W := by
  rw [run_neq_struct]
  have := run_equalIn_bytes (P := Try.prog) W 9998 36 5 16 Try.underlying36 Try.underlying5 (fun w => by kernel_rfl) xs ys hx hy
  rw [show bv = Extern.Stop.cell from rfl, this]
  rfl

set_option maxHeartbeats 4000000 in
set_option maxRecDepth 100000 in
theorem drawsParts_few (w : World) {p : Option Addr} {c : Nat} {L : List (Option Addr × Nat × List UInt8)} (h : IsL w p c L) (hl : L.length ≤ 30) :
    Calls Try.prog 4 #[.slice p L.length c] w fun e w' => e = .returned (.bool true) ∧ Below w.heap.size w w' := by
  have g0 : ¬ (30 : Int) < (L.length : Int) := by omega
  have H := Lib.hid h
  have HN := Lib.hid (srcNew w (IsB.none_ w))
  clear h
  go_enter Try.func4, Try.ntmps4
  go_wp2_with fail
  refine HN.out.mono ?_
  rintro e w1 ⟨g, rfl, hnew⟩
  have hb := hnew.below
  have T1 : Hid (Two w.heap.size w1 (fun k => w.heap.size ≤ k ∧ k < w1.heap.size) g [] 0 none 0 []) :=
    ⟨hnew.src.mono fun k hk hs => ⟨hs, hk⟩, fun k hs => ⟨hs.1, hs.2, fun ⟨x, hx, _⟩ => by cases hx⟩, OR.none_ _ _, fun k ⟨x, hx, _⟩ => by cases hx⟩
  have B1 := Lib.hid hb
  clear hnew hb HN
  go_wp2
  go_loopw [3, 6, 27] (fun v3 _ v27 wr => ∃ (i : Nat) (q : Option Addr) (d : Nat) (A : List UInt8) (S : Nat → Prop), v3 = .slice q A.length d ∧ v27 = .int .i64 i ∧ i ≤ L.length ∧ A.length ≤ i * 100 ∧ Two w.heap.size wr S g A 0 q d A ∧ Below w.heap.size w wr)
    (fun _ _ v27 _ => L.length - (intOf v27).toNat)
  case atStart => exact ⟨0, none, 0, [], _, rfl, rfl, Nat.zero_le _, Nat.le_refl _, T1.out, B1.out⟩
  case round =>
    obtain ⟨i, q, d, A, S, rfl, rfl, hi, hAl, htwo, hbel⟩ := hrel
    have HT := Lib.hid htwo
    have HB := Lib.hid hbel
    clear htwo hbel
    by_cases h1 : i < L.length
    · have g1 : (i : Int) < (L.length : Int) := by omega
      obtain ⟨b, o, rfl, hb, hc⟩ := H.out.cells (by omega)
      obtain ⟨⟨qa, ca, a⟩, hxa⟩ : ∃ x, L[i]? = some x := ⟨_, List.getElem?_eq_getElem h1⟩
      have k1 : wr.cell? ⟨b, o + i, none⟩ = some (.slice qa a.length ca) := (HB.out.cell (p := ⟨b, o + i, none⟩) hb).trans (hc _ _ hxa)
      have HIA : Hid (∀ W, Below w.heap.size w W → IsB W qa ca a) := fun W hW => (H.out.bytes _ (List.mem_of_getElem? hxa)).below hW
      clear hc hxa
      by_cases h2 : a.length ≤ 100
      · have g2 : ¬ (100 : Int) < (a.length : Int) := by omega
        have hs := HB.out.size
        go_wp2_with (at_builtin; refine wp_append_or _ rfl _ _ rfl HT.out.own _ rfl rfl (HIA.out _ HB.out) _ rfl rfl ?rb ?_)
        case rb => omega
        intro q2 d2 w2 hor hk hl2
        have T2 := Lib.hid (HT.out.append hs hor hk hl2)
        have hb2 := HT.out.belowAppend hs hk
        have B2 : Hid (Below w.heap.size w w2) := HB.out.trans hb2
        clear hor hk hl2 hb2 hs
        go_wp2_with fail
        refine (srcFeed _ T2.out.src (HIA.out _ B2.out) (by omega)).mono ?_
        rintro e w3 ⟨rfl, hfed⟩
        have T3 := Lib.hid (T2.out.feed B2.out.size hfed)
        have B3 : Hid (Below w.heap.size w w3) := B2.out.trans (T2.out.belowFeed B2.out.size hfed)
        have hlen : A.length + a.length = (A ++ a).length := by simp
        have HLEN := Lib.hid hlen
        clear hfed hlen
        go_wp2
        go_roundw
        case rel => exact ⟨i + 1, q2, d2, A ++ a, _, by rw [HLEN.out], by go_num, by omega, by rw [List.length_append]; omega, T3.out, B3.out⟩
        case measure => simp [intOf]; omega
      · have g2 : (100 : Int) < (a.length : Int) := by omega
        go_wp2_with fail
        refine (awake _).mono ?_
        rintro e w' ⟨rfl, hb⟩
        have B2 : Hid (Below w.heap.size w w') := HB.out.trans (hb.mono HB.out.size)
        clear hb
        go_wp2
        go_ret
        exact ⟨rfl, B2.out⟩
    · obtain rfl : i = L.length := by omega
      obtain ⟨wL, rfl⟩ : ∃ x, x = wr := ⟨_, rfl⟩
      have g1 : ¬ (L.length : Int) < (L.length : Int) := by omega
      go_wp2_with fail
      refine (srcNew wL HT.out.own.isB).mono ?_
      rintro e w2 ⟨g2, rfl, hnew⟩
      rw [List.take_of_length_le (by omega)] at hnew
      have P2 : Hid (Pair2 w.heap.size w2 S (fun k => wL.heap.size ≤ k) g g2 A 0) := ⟨HT.out.src.below hnew.below, hnew.src, fun k hk => by
        rcases hk with hk | hk
        · exact (HT.out.apart k hk).1
        · have := HB.out.size; omega, fun k hk => by have := (HT.out.apart k hk).2.1; omega⟩
      have B2 : Hid (Below w.heap.size w w2) := HB.out.trans (hnew.below.mono HB.out.size)
      generalize (fun k => wL.heap.size ≤ k) = S2 at P2
      clear hnew HT HB
      go_wp2
      go_loopw [8, 9, 10, 11, 50] (fun _ _ _ _ v50 wr => ∃ i : Nat, v50 = .int .i64 i ∧ i ≤ A.length / 16 + 1 ∧ Pair2 w.heap.size wr S S2 g g2 (A.drop (16 * min i (A.length / 16))) (min i (A.length / 16)) ∧ Below w.heap.size w wr)
        (fun _ _ _ _ v50 _ => A.length / 16 + 1 - (intOf v50).toNat)
      case atStart => exact ⟨0, rfl, Nat.zero_le _, by simpa using P2.out, B2.out⟩
      case round =>
        obtain ⟨i, rfl, hi, hp, hbel⟩ := hrel
        by_cases h1 : i < A.length / 16
        · as_aux_lemma =>
            have g3 : (i : Int) < (A.length : Int) / 16 + 1 := by omega
            rw [Nat.min_eq_left (by omega)] at hp
            have hl16 : 16 ≤ (A.drop (16 * i)).length := by rw [List.length_drop]; omega
            obtain ⟨x0, x1, x2, x3, x4, x5, x6, x7, x8, x9, xa, xb, xc, xd, xe, xf, hx⟩ := sixteenB ((A.drop (16 * i)).take 16) (by rw [List.length_take]; omega)
            have hagg : (((A.drop (16 * i)).take 16).map bv).toArray = #[.int .u8 (x0.toNat : Int), .int .u8 (x1.toNat : Int), .int .u8 (x2.toNat : Int), .int .u8 (x3.toNat : Int), .int .u8 (x4.toNat : Int), .int .u8 (x5.toNat : Int), .int .u8 (x6.toNat : Int), .int .u8 (x7.toNat : Int), .int .u8 (x8.toNat : Int), .int .u8 (x9.toNat : Int), .int .u8 (xa.toNat : Int), .int .u8 (xb.toNat : Int), .int .u8 (xc.toNat : Int), .int .u8 (xd.toNat : Int), .int .u8 (xe.toNat : Int), .int .u8 (xf.toNat : Int)] := by rw [hx]; rfl
            have hs1 : ∀ W S g, Src W S g (A.drop (16 * i)) i → Calls Try.prog 10 #[.pointer (some ⟨g, 0, none⟩)] W fun e w' => e = .returned (.tuple #[.agg #[.int .u8 (x0.toNat : Int), .int .u8 (x1.toNat : Int), .int .u8 (x2.toNat : Int), .int .u8 (x3.toNat : Int), .int .u8 (x4.toNat : Int), .int .u8 (x5.toNat : Int), .int .u8 (x6.toNat : Int), .int .u8 (x7.toNat : Int), .int .u8 (x8.toNat : Int), .int .u8 (x9.toNat : Int), .int .u8 (xa.toNat : Int), .int .u8 (xb.toNat : Int), .int .u8 (xc.toNat : Int), .int .u8 (xd.toNat : Int), .int .u8 (xe.toNat : Int), .int .u8 (xf.toNat : Int)], .int .i64 0]) ∧ SeedS W w' S g (A.drop (16 * i)) i := fun W S g hs => by
              have := srcSeed W hs hl16 (by omega)
              rw [hagg] at this
              exact this
            have HS1 := Lib.hid hs1
            have HP := Lib.hid hp
            have HB := Lib.hid hbel
            clear hs1 hagg hx hl16 hp hbel
            go_wp2_with fail
            refine (HS1.out _ _ _ HP.out.a).mono ?_
            rintro e w3 ⟨rfl, hsd⟩
            have B3 : Hid (Below w.heap.size w w3) := HB.out.trans (hsd.kept.to_below (fun k hk => by subst hk; exact HP.out.ge _ (.inl HP.out.gA)) HB.out.size)
            have SA := Lib.hid hsd.src
            have SB : Hid (Src w3 S2 g2 (A.drop (16 * i)) i) := HP.out.b.kept hsd.kept fun k hk he => by subst he; exact HP.out.apart _ HP.out.gA hk
            clear hsd
            go_wp2_with fail
            refine (HS1.out _ _ _ (SB.out.below ?_)).mono ?_
            · exact (Below.refl _ _).alloc (Nat.le_refl _) _
            rintro e w4 ⟨rfl, hsd⟩
            have hb := (Below.refl w3.heap.size w3).alloc (Nat.le_refl _) (.cells #[.int .u8 (x0.toNat : Int), .int .u8 (x1.toNat : Int), .int .u8 (x2.toNat : Int), .int .u8 (x3.toNat : Int), .int .u8 (x4.toNat : Int), .int .u8 (x5.toNat : Int), .int .u8 (x6.toNat : Int), .int .u8 (x7.toNat : Int), .int .u8 (x8.toNat : Int), .int .u8 (x9.toNat : Int), .int .u8 (xa.toNat : Int), .int .u8 (xb.toNat : Int), .int .u8 (xc.toNat : Int), .int .u8 (xd.toNat : Int), .int .u8 (xe.toNat : Int), .int .u8 (xf.toNat : Int)] 36)
            have B4 : Hid (Below w.heap.size w w4) := (B3.out.trans (hb.mono B3.out.size)).trans (hsd.kept.to_below (fun k hk => by subst hk; exact HP.out.ge _ (.inr HP.out.gB)) (by have := B3.out.size; have := hb.size; omega))
            have P4 : Hid (Pair2 w.heap.size w4 S S2 g g2 (A.drop (16 * min (i + 1) (A.length / 16))) (min (i + 1) (A.length / 16))) := by
              have e1 : (A.drop (16 * i)).drop 16 = A.drop (16 * min (i + 1) (A.length / 16)) := by rw [List.drop_drop]; congr 1; omega
              have e2 : min (i + 1) (A.length / 16) = i + 1 := by omega
              have ha : Src w4 S g (A.drop (16 * min (i + 1) (A.length / 16))) (i + 1) := by
                have := (SA.out.below hb).kept hsd.kept fun k hk he => by subst he; exact HP.out.apart _ hk HP.out.gB
                rwa [e1] at this
              have hb2 : Src w4 S2 g2 (A.drop (16 * min (i + 1) (A.length / 16))) (i + 1) := by
                have := hsd.src
                rwa [e1] at this
              rw [e2] at ha hb2 ⊢
              exact ⟨ha, hb2, HP.out.ge, HP.out.apart⟩
            have hrow : w4.heap[w3.heap.size]? = some (.cells #[.int .u8 (x0.toNat : Int), .int .u8 (x1.toNat : Int), .int .u8 (x2.toNat : Int), .int .u8 (x3.toNat : Int), .int .u8 (x4.toNat : Int), .int .u8 (x5.toNat : Int), .int .u8 (x6.toNat : Int), .int .u8 (x7.toNat : Int), .int .u8 (x8.toNat : Int), .int .u8 (x9.toNat : Int), .int .u8 (xa.toNat : Int), .int .u8 (xb.toNat : Int), .int .u8 (xc.toNat : Int), .int .u8 (xd.toNat : Int), .int .u8 (xe.toNat : Int), .int .u8 (xf.toNat : Int)] 36 (0, 0)) :=
              (hsd.kept.block w3.heap.size (by simp) (fun e => by have := SB.out.lt; omega)).trans (heap_alloc_new w3 _)
            have hrow2 : ∀ o, (w4.alloc o).heap[w3.heap.size]? = some (.cells #[.int .u8 (x0.toNat : Int), .int .u8 (x1.toNat : Int), .int .u8 (x2.toNat : Int), .int .u8 (x3.toNat : Int), .int .u8 (x4.toNat : Int), .int .u8 (x5.toNat : Int), .int .u8 (x6.toNat : Int), .int .u8 (x7.toNat : Int), .int .u8 (x8.toNat : Int), .int .u8 (x9.toNat : Int), .int .u8 (xa.toNat : Int), .int .u8 (xb.toNat : Int), .int .u8 (xc.toNat : Int), .int .u8 (xd.toNat : Int), .int .u8 (xe.toNat : Int), .int .u8 (xf.toNat : Int)] 36 (0, 0)) := fun o =>
              (((Below.refl w4.heap.size w4).alloc (Nat.le_refl _) o).block w3.heap.size (row_lt hrow)).trans hrow
            have HROW := Lib.hid hrow2
            have kn : ∀ W, (binOp .neq 36 (.agg #[.int .u8 (x0.toNat : Int), .int .u8 (x1.toNat : Int), .int .u8 (x2.toNat : Int), .int .u8 (x3.toNat : Int), .int .u8 (x4.toNat : Int), .int .u8 (x5.toNat : Int), .int .u8 (x6.toNat : Int), .int .u8 (x7.toNat : Int), .int .u8 (x8.toNat : Int), .int .u8 (x9.toNat : Int), .int .u8 (xa.toNat : Int), .int .u8 (xb.toNat : Int), .int .u8 (xc.toNat : Int), .int .u8 (xd.toNat : Int), .int .u8 (xe.toNat : Int), .int .u8 (xf.toNat : Int)]) (.agg #[.int .u8 (x0.toNat : Int), .int .u8 (x1.toNat : Int), .int .u8 (x2.toNat : Int), .int .u8 (x3.toNat : Int), .int .u8 (x4.toNat : Int), .int .u8 (x5.toNat : Int), .int .u8 (x6.toNat : Int), .int .u8 (x7.toNat : Int), .int .u8 (x8.toNat : Int), .int .u8 (x9.toNat : Int), .int .u8 (xa.toNat : Int), .int .u8 (xb.toNat : Int), .int .u8 (xc.toNat : Int), .int .u8 (xd.toNat : Int), .int .u8 (xe.toNat : Int), .int .u8 (xf.toNat : Int)])).run Try.prog W = .ok (.bool false) W := fun W => by
              have := neq_seed W [x0, x1, x2, x3, x4, x5, x6, x7, x8, x9, xa, xb, xc, xd, xe, xf] [x0, x1, x2, x3, x4, x5, x6, x7, x8, x9, xa, xb, xc, xd, xe, xf] rfl rfl
              rw [beq_self_eq_true] at this
              exact this
            clear hsd hb hrow hrow2
            go_wp2_with (refine wpList_load_row rfl 36 (.tmp 8) rfl w3.heap.size rfl 36 #[.int .u8 (x0.toNat : Int), .int .u8 (x1.toNat : Int), .int .u8 (x2.toNat : Int), .int .u8 (x3.toNat : Int), .int .u8 (x4.toNat : Int), .int .u8 (x5.toNat : Int), .int .u8 (x6.toNat : Int), .int .u8 (x7.toNat : Int), .int .u8 (x8.toNat : Int), .int .u8 (x9.toNat : Int), .int .u8 (xa.toNat : Int), .int .u8 (xb.toNat : Int), .int .u8 (xc.toNat : Int), .int .u8 (xd.toNat : Int), .int .u8 (xe.toNat : Int), .int .u8 (xf.toNat : Int)] (0, 0) _ (HROW.out _) Try.underlying36 rfl (by kernel_rfl) ?_)
            go_roundw
            case rel => exact ⟨i + 1, by go_num, by omega, P4.out.below ((Below.refl _ _).alloc (Nat.le_refl _) _), B4.out.alloc B4.out.size _⟩
            case measure => simp [intOf]; omega
        · by_cases h2 : i = A.length / 16
          · as_aux_lemma =>
              subst h2
              have g3 : ((A.length / 16 : Nat) : Int) < (A.length : Int) / 16 + 1 := by omega
              rw [Nat.min_self] at hp
              have HP := Lib.hid hp
              have HB := Lib.hid hbel
              have hdl : (A.drop (16 * (A.length / 16))).length < 16 := by rw [List.length_drop]; omega
              have HDL := Lib.hid hdl
              clear hp hbel hdl
              go_wp2_with fail
              refine (srcDry _ HP.out.a HDL.out).mono ?_
              rintro e w3 ⟨rfl, hb3⟩
              have P3 := Lib.hid (HP.out.below hb3)
              have B3 : Hid (Below w.heap.size w w3) := HB.out.trans (hb3.mono HB.out.size)
              unfold zeroB
              clear hb3
              go_wp2_with fail
              refine (srcDry _ (P3.out.b.below ?_) HDL.out).mono ?_
              · exact (Below.refl _ _).alloc (Nat.le_refl _) _
              rintro e w4 ⟨rfl, hb4⟩
              unfold zeroB
              have hb := (Below.refl w3.heap.size w3).alloc (Nat.le_refl _) (.cells #[.int .u8 0, .int .u8 0, .int .u8 0, .int .u8 0, .int .u8 0, .int .u8 0, .int .u8 0, .int .u8 0, .int .u8 0, .int .u8 0, .int .u8 0, .int .u8 0, .int .u8 0, .int .u8 0, .int .u8 0, .int .u8 0] 36)
              have B4 : Hid (Below w.heap.size w w4) := (B3.out.trans (hb.mono B3.out.size)).trans (hb4.mono (by have := B3.out.size; have := hb.size; omega))
              have P4 : Hid (Pair2 w.heap.size w4 S S2 g g2 (A.drop (16 * min (A.length / 16 + 1) (A.length / 16))) (min (A.length / 16 + 1) (A.length / 16))) := by
                show Pair2 _ _ _ _ _ _ _ _
                rw [Nat.min_eq_right (Nat.le_succ _)]
                exact (P3.out.below hb).below hb4
              have hrow : w4.heap[w3.heap.size]? = some (.cells #[.int .u8 0, .int .u8 0, .int .u8 0, .int .u8 0, .int .u8 0, .int .u8 0, .int .u8 0, .int .u8 0, .int .u8 0, .int .u8 0, .int .u8 0, .int .u8 0, .int .u8 0, .int .u8 0, .int .u8 0, .int .u8 0] 36 (0, 0)) :=
                (hb4.block w3.heap.size (by simp)).trans (heap_alloc_new w3 _)
              have hrow2 : ∀ o, (w4.alloc o).heap[w3.heap.size]? = some (.cells #[.int .u8 0, .int .u8 0, .int .u8 0, .int .u8 0, .int .u8 0, .int .u8 0, .int .u8 0, .int .u8 0, .int .u8 0, .int .u8 0, .int .u8 0, .int .u8 0, .int .u8 0, .int .u8 0, .int .u8 0, .int .u8 0] 36 (0, 0)) := fun o =>
                (((Below.refl w4.heap.size w4).alloc (Nat.le_refl _) o).block w3.heap.size (row_lt hrow)).trans hrow
              have HROW := Lib.hid hrow2
              have kn : ∀ W, (binOp .neq 36 (.agg #[.int .u8 0, .int .u8 0, .int .u8 0, .int .u8 0, .int .u8 0, .int .u8 0, .int .u8 0, .int .u8 0, .int .u8 0, .int .u8 0, .int .u8 0, .int .u8 0, .int .u8 0, .int .u8 0, .int .u8 0, .int .u8 0]) (.agg #[.int .u8 0, .int .u8 0, .int .u8 0, .int .u8 0, .int .u8 0, .int .u8 0, .int .u8 0, .int .u8 0, .int .u8 0, .int .u8 0, .int .u8 0, .int .u8 0, .int .u8 0, .int .u8 0, .int .u8 0, .int .u8 0])).run Try.prog W = .ok (.bool false) W := fun W => neq_seed W [0, 0, 0, 0, 0, 0, 0, 0, 0, 0, 0, 0, 0, 0, 0, 0] [0, 0, 0, 0, 0, 0, 0, 0, 0, 0, 0, 0, 0, 0, 0, 0] rfl rfl
              clear hb4 hb hrow hrow2
              go_wp2_with (refine wpList_load_row rfl 36 (.tmp 8) rfl w3.heap.size rfl 36 #[.int .u8 0, .int .u8 0, .int .u8 0, .int .u8 0, .int .u8 0, .int .u8 0, .int .u8 0, .int .u8 0, .int .u8 0, .int .u8 0, .int .u8 0, .int .u8 0, .int .u8 0, .int .u8 0, .int .u8 0, .int .u8 0] (0, 0) _ (HROW.out _) Try.underlying36 rfl (by kernel_rfl) ?_)
              go_roundw
              case rel => exact ⟨A.length / 16 + 1, by go_num, by omega, P4.out.below ((Below.refl _ _).alloc (Nat.le_refl _) _), B4.out.alloc B4.out.size _⟩
              case measure => simp [intOf]; omega
          · as_aux_lemma =>
              have g3 : ¬ (i : Int) < (A.length : Int) / 16 + 1 := by omega
              rw [Nat.min_eq_right (by omega)] at hp
              have hdl : ((A.drop (16 * (A.length / 16))).length : Int) = (A.length : Int) % 16 := by rw [List.length_drop]; omega
              have HL1 := Lib.hid (left_val hp.a _ hdl)
              have HL2 := Lib.hid (left_val hp.b _ hdl)
              have HT1 := Lib.hid (taken_val hp.a ((A.length : Int) / 16) (by omega))
              have HB := Lib.hid hbel
              clear hp hbel hdl
              go_wp2_with fail
              refine HL1.out.mono ?_
              rintro e w' ⟨rfl, rfl⟩
              go_wp2_with fail
              refine HL2.out.mono ?_
              rintro e w' ⟨rfl, rfl⟩
              go_wp2_with fail
              refine HL1.out.mono ?_
              rintro e w' ⟨rfl, rfl⟩
              go_wp2_with fail
              refine HT1.out.mono ?_
              rintro e w' ⟨rfl, rfl⟩
              go_wp2_with fail
              refine (awake _).mono ?_
              rintro e w5 ⟨rfl, hb5⟩
              have B5 : Hid (Below w.heap.size w w5) := HB.out.trans (hb5.mono HB.out.size)
              clear hb5
              go_wp2
              go_ret
              exact ⟨rfl, B5.out⟩

set_option maxHeartbeats 1000000 in
set_option maxRecDepth 100000 in
theorem drawsParts_law (w : World) {p : Option Addr} {c : Nat} {L : List (Option Addr × Nat × List UInt8)} (h : IsL w p c L) :
    Calls Try.prog 4 #[.slice p L.length c] w fun e w' => e = .returned (.bool true) ∧ Below w.heap.size w w' := by
  by_cases hl : L.length ≤ 30
  · exact drawsParts_few w h hl
  · have g0 : (30 : Int) < (L.length : Int) := by omega
    have HN := Lib.hid (srcNew w (IsB.none_ w))
    go_enter Try.func4, Try.ntmps4
    go_wp2_with fail
    refine HN.out.mono ?_
    rintro e w1 ⟨g, rfl, hnew⟩
    have B1 := Lib.hid hnew.below
    clear hnew
    go_wp2_with fail
    refine (awake _).mono ?_
    rintro e w' ⟨rfl, hb⟩
    have B2 : Hid (Below w.heap.size w w') := B1.out.trans (hb.mono B1.out.size)
    clear hb
    go_wp2
    go_ret
    exact ⟨rfl, B2.out⟩
end Go.Proofs.Ytkcijbljgcgdmaa
