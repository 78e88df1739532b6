/- The walk of script.Play, for alive's text. The walk of alive. -/
import Derived.Test.YtmbiiemlepfoaaaGreatDoorBa01
import Derived.Test.YtmbiiemlepfoaaaGreatDoorBa32

/-! The walk of script.Play, for alive's text. -/
namespace Go.Proofs.YtmbiiemlepfoaaaGreatDoor
open Go.RowKit
set_option linter.unusedVariables false

def playOut : List UInt8 := handleLine 1 ++ handleLine 2 ++ bytesLine bytesKV
theorem parsed {w w1 : World} {q : Option Addr} {c : Nat} {vs : List Value} (ho : w1.ownsRow w.heap.size 180 10 (.slice q 3 c) 3 vs) (hc : CallsM 3 vs w1) :
    ∃ gl q1 d1 q2 d2, q = some ⟨gl, 0, none⟩ ∧ 3 ≤ c ∧ ∀ o, ListAt w1.heap.size gl q1 d1 q2 d2 (w1.alloc o) := by
  obtain ⟨ws2, l2, rfl, ⟨ws1, l1, rfl, ⟨ws0, l0, rfl, h0, h00⟩, h11⟩, h22⟩ := hc
  have e0 : ws0 = [] := h0
  have e00 : l0 = cs0 2 := h00
  obtain ⟨q1, d1, q2, d2, e11, hk, hv⟩ := h11
  have e22 : l2 = csEnc := h22
  subst e0 e00 e11 e22
  rcases ho.2 with ⟨hv', hn⟩ | ⟨gl, cap, cur, hv', hg, hh, hnc, hcm, hcs, ht⟩
  · omega
  · injection hv' with a1 a2 a3
    subst a1 a3
    refine ⟨gl, q1, d1, q2, d2, rfl, hnc, fun o => ⟨⟨cur, (haOld w1 o (row_ltT hh)).trans hh, by simpa using ht⟩, row_ltT hh, hk.below (below1 w1 o), hv.below (below1 w1 o), fun a ha => ?_, fun a ha => ?_⟩⟩
    · obtain ⟨b', o', cs', hq, hb', _⟩ := hk.row (by decide)
      rw [ha] at hq
      cases hq
      exact row_ltT hb'
    · obtain ⟨b', o', cs', hq, hb', _⟩ := hv.row (by decide)
      rw [ha] at hq
      cases hq
      exact row_ltT hb'

set_option maxHeartbeats 4000000 in
set_option maxRecDepth 100000 in
theorem scriptPlay (w : World) (hS : Stat w) {S D : Nat → Prop} (hD : ∀ j, w.heap.size ≤ j → D j) {B0 mp g sb r : Nat} {l : List UInt8} (hm : MapsAt w S D mp g sb r l 0 [] 0) (hl : 16 ≤ l.length) (hlow : 7 ≤ B0) (hge : B0 ≤ g ∧ B0 ≤ sb ∧ B0 ≤ r) (hB : B0 ≤ w.heap.size) (hT : TabAt 2 Lib.deBruijn32tab w) (hSA : StartAt w) :
    Calls Tryz.prog 29 #[.pointer (some ⟨mp, 0, none⟩), .string (str (restM 0))] w fun e w' => e = .returned (.tuple #[.string (str playOut), .int .i64 0, .int .i64 0]) ∧ Below B0 w w' := by
  have CP := Lib.hid (scriptParse w hS)
  have HC : Hid (∀ w1, Below w.heap.size w w1 → Ctx B0 w1.heap.size mp g sb r (w1.alloc (.cells #[.pointer none, .slice none 0 0] 178)) S (fun j => D j ∧ j ≠ w1.heap.size) l ∧ PlayI B0 w1.heap.size mp g sb r (w1.alloc (.cells #[.pointer none, .slice none 0 0] 178)) S (fun j => D j ∧ j ≠ w1.heap.size) l 0 (w1.alloc (.cells #[.pointer none, .slice none 0 0] 178))) := Lib.hid (fun w1 hb1 => by
    have ba := below1 w1 (.cells #[.pointer none, .slice none 0 0] 178)
    have b2 := hb1.trans (ba.mono hb1.size)
    have hz := hb1.size
    have hm1 := hm.below hb1
    have hm2 := (hm1.monoD (D' := fun j => D j ∧ j ≠ w1.heap.size) (fun k hk hd => ⟨hd, by omega⟩) (fun k h => h.1)).below ba
    obtain ⟨sq, sd, hg0, _⟩ := hm1.src
    obtain ⟨es, ck, hs0, hr0, _⟩ := hm1.shelf.row
    refine ⟨⟨hlow, hge, by omega, ⟨row_ltT hm1.row, row_ltT hg0, row_ltT hs0, row_ltT hr0⟩, fun k hk => hm1.Sb k hk, hS.keep (le7 b2 hS.big), tab_keep hT (b2.block 2 (by have := hS.big; omega)), StartAt.keep hSA (b2.block 0 (by have := hS.big; omega)), hm2, hl, fun j hj => ⟨hD j (by omega), by omega⟩, fun j h => h.2⟩, ⟨fun k _ _ _ _ => rfl, Below.refl _ _, by simp⟩, hm2, ?_⟩
    exact ⟨Nat.le_refl _, _, _, .inl rfl, heap_alloc_new w1 _, World.ownsRow_nil _ _ _ _, by simp [Value.ownBlock], rfl⟩)
  have HB0 := Lib.hid hB
  clear hS hm hT hSA hD hB
  go_enter Tryz.func29, Tryz.ntmps29
  go_wp2_with first
    | (go_at_call 76; ((with_reducible refine (CP.out).mono ?_)); rintro e w1 ⟨q, c, vs, rfl, ho, hcs, hb⟩; obtain ⟨gl, q1, d1, q2, d2, rfl, hc3, hla⟩ := parsed ho hcs; have HLA := Lib.hid hla; have HB := Lib.hid hb; have HC3 := Lib.hid hc3; clear ho hcs hla hb hc3)
    | fail
  obtain ⟨hCx, hP0⟩ := HC.out w1 HB.out
  have hL0 := HLA.out (.cells #[.pointer none, .slice none 0 0] 178)
  obtain ⟨w2, hw2⟩ : ∃ x, x = w1.alloc (.cells #[.pointer none, .slice none 0 0] 178) := ⟨_, rfl⟩
  rw [← hw2] at hCx hP0 hL0 ⊢
  have hb2 : Below w.heap.size w w2 := by rw [hw2]; exact HB.out.trans ((below1 w1 _).mono HB.out.size)
  have HCX := Lib.hid hCx
  have HP0 := Lib.hid hP0
  have HL0 := Lib.hid hL0
  have HB2 := Lib.hid hb2
  obtain ⟨b, hb⟩ : ∃ b, b = w1.heap.size := ⟨_, rfl⟩
  clear hCx hP0 hL0 hb2 hw2
  go_loopw [11, 13, 14, 15, 28] (fun v11 _ _ _ v28 wr => ∃ i : Nat, i ≤ 3 ∧ v28 = .int .i64 (i : Int) ∧ v11 = .int .i64 0 ∧ PlayI B0 w1.heap.size mp g sb r w2 S (fun j => D j ∧ j ≠ w1.heap.size) l i wr)
    (fun _ _ _ _ v28 _ => 3 - (intOf v28).toNat)
  case atStart => exact ⟨0, by omega, rfl, rfl, HP0.out⟩
  case round =>
    obtain ⟨i, hi, rfl, rfl, hI⟩ := hrel
    obtain ⟨wS, rfl⟩ : ∃ x, x = wr := ⟨_, rfl⟩
    by_cases h3 : i < 3
    · have hii : (i : Int) < 3 := by omega
      obtain ⟨a0, a1, a2, a3, a4, a5, a6, a7, a8, a9, hcall, hone⟩ := callI_ex q1 d1 q2 d2 i
      have hrg := HL0.out.range hI.pi HCX.out.maps i h3
      rw [hcall, Nat.mul_comm] at hrg
      have CR := Lib.hid (playRound HCX.out HL0.out i h3 (hI.below HCX.out (below1 wS (.cells #[a0, a1, a2, a3, a4, a5, a6, a7, a8, a9] 180))))
      rw [hcall] at CR
      have HRG := Lib.hid hrg
      have H3 := Lib.hid h3
      clear hrg hcall hI h3 hi
      go_wp2_with first
        | (refine wpList_load180 rfl _ rfl gl (i * 10) rfl [a0, a1, a2, a3, a4, a5, a6, a7, a8, a9] HRG.out rfl ?_)
        | (refine wpList_store_row rfl 180 _ _ rfl wS.heap.size rfl #[a0, a1, a2, a3, a4, a5, a6, a7, a8, a9] rfl 180 _ (heap_alloc_new wS _) (by rw [info_180]; rfl) (by rfl) hone ?_; rw [World.setRow_alloc_new])
        | (go_at_call 77; ((with_reducible refine (CR.out).mono ?_)); rintro e w3 ⟨rfl, hw3⟩; have CW := Lib.hid hw3; clear hw3)
        | (go_at_call 78; ((with_reducible refine (CW.out).mono ?_)); rintro e w4 ⟨rfl, hp4⟩; have HP4 := Lib.hid hp4; clear hp4)
        | fail
      refine ⟨⟨i + 1, by have := H3.out; omega, rfl, rfl, HP4.out⟩, ?_⟩
      have := H3.out
      show 3 - ((i : Int) + 1).toNat < 3 - (i : Int).toNat
      omega
    · obtain rfl : i = 3 := by omega
      obtain ⟨hpi, ob, hbd⟩ := hI
      have CS : Hid (Calls Tryz.prog 79 #[.pointer (some ⟨w1.heap.size, 0, none⟩)] wS fun e w' => e = .returned (.string (str playOut)) ∧ Below w1.heap.size wS w') := Lib.hid (Tryz.Builder_String_any w1.heap.size w1.heap.size _ wS hbd.bd (Nat.le_of_lt hpi.size))
      have HPI := Lib.hid hpi
      clear hpi hbd
      go_wp2_with first
        | (go_at_call 79; ((with_reducible refine (CS.out).mono ?_)); rintro e w5 ⟨rfl, hb5⟩)
        | fail
      go_ret3
      have hB := HB0.out
      have hb1 := HB.out.size
      exact ⟨rfl, ((belowLe HB2.out hB).trans HPI.out.below).trans (belowLe hb5 (by omega))⟩
end Go.Proofs.YtmbiiemlepfoaaaGreatDoor

/-! The walk of alive. -/
namespace Go.Proofs.YtmbiiemlepfoaaaGreatDoor
open Go.RowKit
set_option linter.unusedVariables false

set_option maxRecDepth 100000 in
theorem mapsOpenGe (w : World) {p : Option Addr} {c : Nat} {l : List UInt8} (h : IsB w p c l) : Calls Tryz.prog 7 #[.slice p l.length c] w fun e w' => ∃ mp g sb r S, e = .returned (.pointer (some ⟨mp, 0, none⟩)) ∧ MapsAt w' S (fun j => w'.heap.size ≤ j) mp g sb r (l.take 16777216) 0 [] 0 ∧ Below w.heap.size w w' ∧ (w.heap.size ≤ g ∧ w.heap.size ≤ sb ∧ w.heap.size ≤ r) := by
  have CN := Lib.hid (srcNew w h)
  have CS := Lib.hid shelfNew
  clear h
  go_enter Tryz.func7, Tryz.ntmps7
  go_wp2_with first
    | (go_at_call 30; ((with_reducible refine (CN.out).mono ?_)); rintro e w1 ⟨g, rfl, hn1⟩; have HN1 := Lib.hid hn1; clear hn1)
    | (go_at_call 31; ((with_reducible refine (CS.out _).mono ?_)); rintro e w2 ⟨sb, r, rfl, hs2, hsb, hr2, hb2⟩; have HS2 := Lib.hid hs2; have HB2 := Lib.hid hb2; clear hs2 hb2)
  go_ret
  have hsrc := HN1.out.src
  have hb1 := HN1.out.below
  have hs := (HS2.out (fun j => w2.heap.size + 1 ≤ j))
  obtain ⟨es, ck, q1, q2, _, hne⟩ := hs.row
  have hbx : Below w2.heap.size w2 (w2.alloc (.cells #[.pointer (some ⟨g, 0, none⟩), .pointer (some ⟨sb, 0, none⟩)] 94)) := (Below.refl _ _).alloc (Nat.le_refl _) _
  have hz1 := hb1.size
  have hz2 := HB2.out.size
  have hgx : w.heap.size ≤ g := by obtain ⟨_, _, _, _, h3, _⟩ := hsrc; exact h3
  have l1 := row_ltT q1
  have l2 := row_ltT q2
  refine ⟨w2.heap.size, g, sb, r, fun k => w.heap.size ≤ k ∧ k < w1.heap.size, rfl, ⟨heap_alloc_new _ _, ?_, ?_, ?_, ?_, ?_, ?_, ?_, ?_, ?_, ?_, ?_, ?_⟩, ?_, hgx, by omega, by omega⟩
  · exact ((hsrc.mono fun k hk hd => ⟨hd, hk⟩).below HB2.out).below hbx
  · have e : (w2.alloc (.cells #[.pointer (some ⟨g, 0, none⟩), .pointer (some ⟨sb, 0, none⟩)] 94)).heap.size = w2.heap.size + 1 := by simp
    rw [e]
    exact hs.below hbx
  · intro j hj h; simp at hj; omega
  · simp; omega
  · simp; omega
  · show ¬ (w.heap.size ≤ sb ∧ sb < w1.heap.size); omega
  · show ¬ (w.heap.size ≤ r ∧ r < w1.heap.size); omega
  · show ¬ (w.heap.size ≤ w2.heap.size ∧ w2.heap.size < w1.heap.size); omega
  · omega
  · omega
  · intro x hx; cases hx
  · intro j hj; have := hj.2; simp; omega
  · exact (hb1.trans (HB2.out.mono hz1)).trans (hbx.mono (by omega))


set_option maxRecDepth 100000 in
theorem convA (w : World) (C : Array Value) (n c : Nat) : (convert 22 22 (.slice (some ⟨w.heap.size, 0, none⟩) n c)).run Tryz.prog (w.alloc (.cells C 5)) =
    .ok (.slice (some ⟨w.heap.size, 0, none⟩) n c) (w.alloc (.cells C 5 (C.size, C.size + 1))) :=
  Lib.run_convert_bytes_const (P := Tryz.prog) w 22 5 C n c Tryz.underlying22 Tryz.underlying5
def seedL : List UInt8 := [48, 49, 50, 51, 52, 53, 54, 55, 56, 57, 97, 98, 99, 100, 101, 102]
theorem play_eq : playOut = [104, 97, 110, 100, 108, 101, 32, 49, 10, 104, 97, 110, 100, 108, 101, 32, 50, 10, 98, 121, 116, 101, 115, 32, 34, 66, 82, 87, 49, 92, 117, 48, 48, 48, 49, 92, 117, 48, 48, 48, 49, 107, 92, 117, 48, 48, 48, 49, 118, 34, 10] := by
  unfold playOut handleLine bytesLine
  rw [dd1, dd2]
  decide
set_option maxHeartbeats 2000000 in
set_option maxRecDepth 100000 in
theorem aliveW (w : World) (hS : Stat w) (hT : TabAt 2 Lib.deBruijn32tab w) (hSA : StartAt w) : Calls Tryz.prog 6 #[] w fun e w' => e = .returned (.bool true) ∧ Below w.heap.size w w' := by
  obtain ⟨o, ho⟩ : ∃ o, o = Obj.cells #[.int .u8 48, .int .u8 49, .int .u8 50, .int .u8 51, .int .u8 52, .int .u8 53, .int .u8 54, .int .u8 55, .int .u8 56, .int .u8 57, .int .u8 97, .int .u8 98, .int .u8 99, .int .u8 100, .int .u8 101, .int .u8 102] 5 (16, 17) := ⟨_, rfl⟩
  have hbo : Below w.heap.size w (w.alloc o) := below1 w o
  have hib : IsB (w.alloc o) (some ⟨w.heap.size, 0, none⟩) 16 seedL := by
    rw [ho]
    exact IsB.lit w seedL 5 (16, 17) (by show 16 ≤ maxLen; unfold maxLen; decide)
  have h0 := mapsOpenGe (w.alloc o) hib
  rw [show seedL.length = 16 from rfl] at h0
  obtain ⟨sd, hsd⟩ : ∃ sd, sd = seedL.take 16777216 := ⟨_, rfl⟩
  rw [← hsd] at h0
  have CO := Lib.hid h0
  clear h0
  have CP : Hid (∀ w1 S mp g sb r, Below (w.alloc o).heap.size (w.alloc o) w1 → MapsAt w1 S (fun j => w1.heap.size ≤ j) mp g sb r sd 0 [] 0 → ((w.alloc o).heap.size ≤ g ∧ (w.alloc o).heap.size ≤ sb ∧ (w.alloc o).heap.size ≤ r) → Calls Tryz.prog 29 #[.pointer (some ⟨mp, 0, none⟩), .string ⟨#[110, 101, 119, 10, 112, 117, 116, 32, 49, 32, 34, 107, 34, 32, 34, 118, 34, 10, 101, 110, 99, 111, 100, 101, 32, 50, 10]⟩] w1 fun e w' => e = .returned (.tuple #[.string (str playOut), .int .i64 0, .int .i64 0]) ∧ Below w.heap.size w1 w') := Lib.hid (fun w1 S mp g sb r hb hm hg => by
    have b := hbo.trans (hb.mono hbo.size)
    have hz := hbo.size
    exact scriptPlay w1 (hS.keep (le7 b hS.big)) (fun j hj => hj) hm (by rw [hsd]; decide) hS.big ⟨by omega, by omega, by omega⟩ b.size (tab_keep hT (b.block 2 (by have := hS.big; omega))) (StartAt.keep hSA (b.block 0 (by have := hS.big; omega))))
  have hcmp : ((str playOut).toList == [104, 97, 110, 100, 108, 101, 32, 49, 10, 104, 97, 110, 100, 108, 101, 32, 50, 10, 98, 121, 116, 101, 115, 32, 34, 66, 82, 87, 49, 92, 117, 48, 48, 48, 49, 92, 117, 48, 48, 48, 49, 107, 92, 117, 48, 48, 48, 49, 118, 34, 10]) = true := by
    rw [ByteArray.toList_eq, str_data, play_eq]
    decide
  obtain ⟨PO, hPO⟩ : ∃ PO, PO = str playOut := ⟨_, rfl⟩
  rw [← hPO] at CP hcmp
  clear hPO
  have HBO := Lib.hid hbo
  have hcv := convA w
  subst ho
  clear hS hT hSA hbo hib hsd
  go_enter Tryz.func6, Tryz.ntmps6
  go_wp2_with first
    | (go_at_call 7; ((with_reducible refine (CO.out).mono ?_)); rintro e w1 ⟨mp, g, sb, r, S, rfl, hm, hb, hg⟩; have CQ := Lib.hid (CP.out _ _ _ _ _ _ hb hm hg); have HB := Lib.hid hb; clear hm hb hg)
    | (go_at_call 29; ((with_reducible refine (CQ.out).mono ?_)); rintro e w2 ⟨rfl, hb2⟩; have HB2 := Lib.hid hb2; clear hb2)
    | fail
  go_ret
  exact ⟨rfl, (HBO.out.trans (HB.out.mono HBO.out.size)).trans HB2.out⟩
end Go.Proofs.YtmbiiemlepfoaaaGreatDoor
