/- The walk of alive. What the top laws ask of the world; alive there. The six listed tables of the top laws' rows: what they give a walk; a world that holds them. The walk of the reference's Read of a map's bytes. The walks of the reference's maps: Get, Without, Put, Is. The walk of the reference's Put. The walk of the reference's Is, where the pairs are the list. -/
import Derived.Test.YtmbiiemlepfoaaaGreatDoorFl33
import Derived.Test.YtmbiiemlepfoaaaGreatDoorRows
import Derived.Deep.DeepHandedRow
import Derived.Deep.DeepWitnessRowRef
import Derived.Lib.LaidIn
import Derived.Lib.LaidSlice
import Derived.PinnedBridge
import Derived.ProofKit
import Derived.SizedLaws
import Derived.Shelf.Vars
import Derived.Test.YtmbiiemlepfoaaaGreatDoorFl24
import Derived.Test.YtmbiiemlepfoaaaGreatDoorFl15
import Derived.Deep.QuietTactic
import Derived.Deep.AppendLies
import Derived.Laws.AppendOwn
import Derived.Test.YtmbiiemlepfoaaaGreatDoorFl06
import Derived.Test.YtmbiiemlepfoaaaGreatDoorFl19

namespace Go.Proofs.YtmbiiemlepfoaaaGreatDoor
open Go.RowKit
set_option linter.unusedVariables false
set_option maxRecDepth 100000 in
theorem mapsOpenGe (w : World) {p : Option Addr} {c : Nat} {l : List UInt8} (h : IsB w p c l) : Calls Tryz.prog 7 #[.slice p l.length c] w fun e w' => ∃ mp g sb r S, e = .returned (.pointer (some ⟨mp, 0, none⟩)) ∧ MapsAt w' S (fun j => w'.heap.size ≤ j) mp g sb r (l.take 16777216) 0 [] 0 ∧ Below w.heap.size w w' ∧ (w.heap.size ≤ g ∧ w.heap.size ≤ sb ∧ w.heap.size ≤ r) := by
  have CN := Lib.hid (srcNew w h)
  have CS := Lib.hid shelfNew
  clear h
  go_enter Tryz.func7, Tryz.ntmps7
  go_wp2_with first
    | (go_at_call 30; ((with_reducible refine (CN.out).mono ?_)); rintro e w1 ⟨g, rfl, hn1⟩; have HN1 := Lib.hid hn1; clear hn1)
    | (go_at_call 31; ((with_reducible refine (CS.out _).mono ?_)); rintro e w2 ⟨sb, r, rfl, hs2, hsb, hr2, hb2⟩; have HS2 := Lib.hid hs2; have HB2 := Lib.hid hb2; clear hs2 hb2)
  go_ret
  have hsrc := HN1.out.src
  have hb1 := HN1.out.below
  have hs := (HS2.out (fun j => w2.heap.size + 1 ≤ j))
  obtain ⟨es, ck, q1, q2, _, hne⟩ := hs.row
  have hbx : Below w2.heap.size w2 (w2.alloc (.cells #[.pointer (some ⟨g, 0, none⟩), .pointer (some ⟨sb, 0, none⟩)] 94)) := (Below.refl _ _).alloc (Nat.le_refl _) _
  have hz1 := hb1.size
  have hz2 := HB2.out.size
  have hgx : w.heap.size ≤ g := by obtain ⟨_, _, _, _, h3, _⟩ := hsrc; exact h3
  have l1 := row_ltT q1
  have l2 := row_ltT q2
  refine ⟨w2.heap.size, g, sb, r, fun k => w.heap.size ≤ k ∧ k < w1.heap.size, rfl, ⟨heap_alloc_new _ _, ?_, ?_, ?_, ?_, ?_, ?_, ?_, ?_, ?_, ?_, ?_, ?_⟩, ?_, hgx, by omega, by omega⟩
  · exact ((hsrc.mono fun k hk hd => ⟨hd, hk⟩).below HB2.out).below hbx
  · have e : (w2.alloc (.cells #[.pointer (some ⟨g, 0, none⟩), .pointer (some ⟨sb, 0, none⟩)] 94)).heap.size = w2.heap.size + 1 := by simp
    rw [e]
    exact hs.below hbx
  · intro j hj h; simp at hj; omega
  · simp; omega
  · simp; omega
  · show ¬ (w.heap.size ≤ sb ∧ sb < w1.heap.size); omega
  · show ¬ (w.heap.size ≤ r ∧ r < w1.heap.size); omega
  · show ¬ (w.heap.size ≤ w2.heap.size ∧ w2.heap.size < w1.heap.size); omega
  · omega
  · omega
  · intro x hx; cases hx
  · intro j hj; have := hj.2; simp; omega
  · exact (hb1.trans (HB2.out.mono hz1)).trans (hbx.mono (by omega))
set_option maxRecDepth 100000 in
theorem convA (w : World) (C : Array Value) (n c : Nat) : (convert 22 22 (.slice (some ⟨w.heap.size, 0, none⟩) n c)).run Tryz.prog (w.alloc (.cells C 5)) =
    .ok (.slice (some ⟨w.heap.size, 0, none⟩) n c) (w.alloc (.cells C 5 (C.size, C.size + 1))) :=
  Lib.run_convert_bytes_const (P := Tryz.prog) w 22 5 C n c Tryz.underlying22 Tryz.underlying5
def seedL : List UInt8 := [48, 49, 50, 51, 52, 53, 54, 55, 56, 57, 97, 98, 99, 100, 101, 102]
theorem play_eq : playOut = [104, 97, 110, 100, 108, 101, 32, 49, 10, 104, 97, 110, 100, 108, 101, 32, 50, 10, 98, 121, 116, 101, 115, 32, 34, 66, 82, 87, 49, 92, 117, 48, 48, 48, 49, 92, 117, 48, 48, 48, 49, 107, 92, 117, 48, 48, 48, 49, 118, 34, 10] := by
  unfold playOut handleLine bytesLine
  rw [dd1, dd2]
  decide
set_option maxHeartbeats 2000000 in
set_option maxRecDepth 100000 in
theorem aliveW (w : World) (hS : Stat w) (hT : TabAt 2 Lib.deBruijn32tab w) (hSA : StartAt w) : Calls Tryz.prog 6 #[] w fun e w' => e = .returned (.bool true) ∧ Below w.heap.size w w' := by
  obtain ⟨o, ho⟩ : ∃ o, o = Obj.cells #[.int .u8 48, .int .u8 49, .int .u8 50, .int .u8 51, .int .u8 52, .int .u8 53, .int .u8 54, .int .u8 55, .int .u8 56, .int .u8 57, .int .u8 97, .int .u8 98, .int .u8 99, .int .u8 100, .int .u8 101, .int .u8 102] 5 (16, 17) := ⟨_, rfl⟩
  have hbo : Below w.heap.size w (w.alloc o) := below1 w o
  have hib : IsB (w.alloc o) (some ⟨w.heap.size, 0, none⟩) 16 seedL := by
    rw [ho]
    exact IsB.lit w seedL 5 (16, 17) (by show 16 ≤ maxLen; unfold maxLen; decide)
  have h0 := mapsOpenGe (w.alloc o) hib
  rw [show seedL.length = 16 from rfl] at h0
  obtain ⟨sd, hsd⟩ : ∃ sd, sd = seedL.take 16777216 := ⟨_, rfl⟩
  rw [← hsd] at h0
  have CO := Lib.hid h0
  clear h0
  have CP : Hid (∀ w1 S mp g sb r, Below (w.alloc o).heap.size (w.alloc o) w1 → MapsAt w1 S (fun j => w1.heap.size ≤ j) mp g sb r sd 0 [] 0 → ((w.alloc o).heap.size ≤ g ∧ (w.alloc o).heap.size ≤ sb ∧ (w.alloc o).heap.size ≤ r) → Calls Tryz.prog 29 #[.pointer (some ⟨mp, 0, none⟩), .string ⟨#[110, 101, 119, 10, 112, 117, 116, 32, 49, 32, 34, 107, 34, 32, 34, 118, 34, 10, 101, 110, 99, 111, 100, 101, 32, 50, 10]⟩] w1 fun e w' => e = .returned (.tuple #[.string (str playOut), .int .i64 0, .int .i64 0]) ∧ Below w.heap.size w1 w') := Lib.hid (fun w1 S mp g sb r hb hm hg => by
    have b := hbo.trans (hb.mono hbo.size)
    have hz := hbo.size
    exact scriptPlay w1 (hS.keep (le7 b hS.big)) (fun j hj => hj) hm (by rw [hsd]; decide) hS.big ⟨by omega, by omega, by omega⟩ b.size (tab_keep hT (b.block 2 (by have := hS.big; omega))) (StartAt.keep hSA (b.block 0 (by have := hS.big; omega))))
  have hcmp : ((str playOut).toList == [104, 97, 110, 100, 108, 101, 32, 49, 10, 104, 97, 110, 100, 108, 101, 32, 50, 10, 98, 121, 116, 101, 115, 32, 34, 66, 82, 87, 49, 92, 117, 48, 48, 48, 49, 92, 117, 48, 48, 48, 49, 107, 92, 117, 48, 48, 48, 49, 118, 34, 10]) = true := by
    rw [ByteArray.toList_eq, str_data, play_eq]
    decide
  obtain ⟨PO, hPO⟩ : ∃ PO, PO = str playOut := ⟨_, rfl⟩
  rw [← hPO] at CP hcmp
  clear hPO
  have HBO := Lib.hid hbo
  have hcv := convA w
  subst ho
  clear hS hT hSA hbo hib hsd
  go_enter Tryz.func6, Tryz.ntmps6
  go_wp2_with first
    | (go_at_call 7; ((with_reducible refine (CO.out).mono ?_)); rintro e w1 ⟨mp, g, sb, r, S, rfl, hm, hb, hg⟩; have CQ := Lib.hid (CP.out _ _ _ _ _ _ hb hm hg); have HB := Lib.hid hb; clear hm hb hg)
    | (go_at_call 29; ((with_reducible refine (CQ.out).mono ?_)); rintro e w2 ⟨rfl, hb2⟩; have HB2 := Lib.hid hb2; clear hb2)
    | fail
  go_ret
  exact ⟨rfl, (HBO.out.trans (HB.out.mono HBO.out.size)).trans HB2.out⟩
structure TopW (w : World) : Prop where
  stat : Stat w
  tab : TabAt 2 Lib.deBruijn32tab w
  start : StartAt w
theorem TopW.keep {w w' : World} (h : TopW w) (hb : Below 7 w w') : TopW w' := ⟨h.stat.keep hb, tab_keep h.tab (hb.block 2 (by omega)), StartAt.keep h.start (hb.block 0 (by omega))⟩
theorem TopW.below {w w' : World} (h : TopW w) (hb : Below w.heap.size w w') : TopW w' := h.keep (le7 hb h.stat.big)
theorem TopW.alive {w : World} (h : TopW w) : Calls Tryz.prog 6 #[] w fun e w' => e = .returned (.bool true) ∧ Below w.heap.size w w' := aliveW w h.stat h.tab h.start
end Go.Proofs.YtmbiiemlepfoaaaGreatDoor
namespace Go.Proofs.YtmbiiemlepfoaaaGreatDoor
open Go.Shelf Go.ChangeShapes Go.WideShapes Go.ChangeAt Go.RowKit Go.Lib
theorem own : ownKnob Tryz.prog.godebug = none := by kernel_rfl
theorem laidOut : laidOutB Tryz.prog = true := by kernel_rfl
def tabs : List (String × DataW Unit) := [("math/bits.deBruijn32tab", Rows.laid_math_bits_deBruijn32tab), ("math/bits.deBruijn64tab", Rows.laid_math_bits_deBruijn64tab), ("brushwood/sip.start", Rows.laid_brushwood_sip_start), ("internal/strconv.uint64pow10", Rows.laid_internal_strconv_uint64pow10), ("unicode/utf8.acceptRanges", Rows.laid_unicode_utf8_acceptRanges), ("unicode/utf8.first", Rows.laid_unicode_utf8_first)]
def tab32 : List Int := Lib.deBruijn32tab.map fun (n : Nat) => (n : Int)
def tab64 : List Int := Lib.deBruijn64tab.map fun (n : Nat) => (n : Int)
def tabStart : List Int := [8317987319222330741, 7237128888997146477, 7816392313619706465, 8387220255154660723]
theorem acc_eq : (Rows.laid_unicode_utf8_acceptRanges : DataW Unit) = Lib.acceptData := by kernel_rfl
theorem first_eq : Rows.laid_unicode_utf8_first = Lib.firstData := Pinned.utf8First_eq
theorem t32_eq : (Rows.laid_math_bits_deBruijn32tab : DataW Unit) = Lib.tabData .u8 tab32 := by kernel_rfl
theorem t64_eq : (Rows.laid_math_bits_deBruijn64tab : DataW Unit) = Lib.tabData .u8 tab64 := by kernel_rfl
theorem start_eq : (Rows.laid_brushwood_sip_start : DataW Unit) = Lib.tabData .u64 tabStart := by kernel_rfl
theorem pow_eq : (Rows.laid_internal_strconv_uint64pow10 : DataW Unit) = Lib.tabData .u64 Lib.pow10Tab := by kernel_rfl
theorem tabs_eq : tabs = [("math/bits.deBruijn32tab", Lib.tabData .u8 tab32), ("math/bits.deBruijn64tab", Lib.tabData .u8 tab64), ("brushwood/sip.start", Lib.tabData .u64 tabStart), ("internal/strconv.uint64pow10", Lib.tabData .u64 Lib.pow10Tab), ("unicode/utf8.acceptRanges", Lib.acceptData), ("unicode/utf8.first", Lib.firstData)] := by
  unfold tabs; rw [acc_eq, first_eq, t32_eq, t64_eq, start_eq, pow_eq]
theorem tabIs_of_reads {W : World} {name : String} {k : IntKind} {zs : List Int} {g : Nat} {t e : TypeId} {n : Nat}
    (hg : Tryz.prog.globalNamed name = some g) (hty : (Tryz.prog.globals[g]?).map (·.type) = some t) (ht : Tryz.prog.underlying t = some (.array n e)) (he : Tryz.prog.underlying e = some (.int k)) (hce : Tryz.prog.cellsOf e = 1) (hct : Tryz.prog.cellsOf t = n)
    (h : VarReads Tryz.prog W name (tabData k zs)) : TabIs Tryz.prog W name k zs := by
  obtain ⟨g', t', cs, fuel, p, hg', ht', hvar, hd⟩ := h
  obtain rfl := Option.some.inj (hg.symm.trans hg')
  obtain rfl := Option.some.inj (hty.symm.trans ht')
  unfold TabIs
  rw [hvar, ← cells_of_tab ht he hce hct hd]
theorem topW_of {W : World} (h : laidMet Tryz.prog tabs W) (hsh : W.ShapedOpen Tryz.prog) : TopW W := by
  rw [tabs_eq] at h
  have hU : Lib.Utf8Tabs 3 4 W := utf8Tabs_of_reads (ρ := Tryz.lays260_ren) Tryz.lays260 ⟨by kernel_rfl, by kernel_rfl, by kernel_rfl, by kernel_rfl, by kernel_rfl, by kernel_rfl, by kernel_rfl⟩ (Lib.laidMet.reads h (.tail _ (.tail _ (.tail _ (.tail _ (.tail _ (.head _))))))) (Lib.laidMet.reads h (.tail _ (.tail _ (.tail _ (.tail _ (.head _))))))
  have h32 := tabIs_of_reads (g := 2) (t := 439) (e := 5) (n := 32) (by kernel_rfl) (by kernel_rfl) (by kernel_rfl) (by kernel_rfl) (by kernel_rfl) (by kernel_rfl) (Lib.laidMet.reads h (n := "math/bits.deBruijn32tab") (.head _))
  have h64 := tabIs_of_reads (g := 6) (t := 449) (e := 5) (n := 64) (by kernel_rfl) (by kernel_rfl) (by kernel_rfl) (by kernel_rfl) (by kernel_rfl) (by kernel_rfl) (Lib.laidMet.reads h (n := "math/bits.deBruijn64tab") (.tail _ (.head _)))
  have hst := tabIs_of_reads (g := 0) (t := 362) (e := 48) (n := 4) (by kernel_rfl) (by kernel_rfl) (by kernel_rfl) (by kernel_rfl) (by kernel_rfl) (by kernel_rfl) (Lib.laidMet.reads h (n := "brushwood/sip.start") (.tail _ (.tail _ (.head _))))
  have c6 := h64.cell (g := 6) (by kernel_rfl) 0 (by decide)
  have hz : 7 ≤ W.heap.size := by
    rcases Nat.lt_or_ge 6 W.heap.size with h' | h'
    · exact h'
    · simp [World.cell?, Array.getElem?_eq_none h'] at c6
  refine ⟨⟨cell_of_shapedOpen_int (zero := #[.int .i64 0]) (t := 3) (g := 1) hsh (of_decide_eq_true (by kernel_rfl)) (by kernel_rfl) rfl (by kernel_rfl) (by kernel_rfl) Tryz.underlying3, hU, hz⟩, fun j hj => ?_, ?_⟩
  · have hj' : j < tab32.length := by simpa [tab32] using hj
    rw [h32.cell (g := 2) (by kernel_rfl) j hj']
    congr 2
    unfold tab32
    rw [List.getD_eq_getElem?_getD, List.getD_eq_getElem?_getD, List.getElem?_map]
    cases Lib.deBruijn32tab[j]? <;> rfl
  · exact ⟨hst.cell (g := 0) (by kernel_rfl) 0 (by decide), hst.cell (g := 0) (by kernel_rfl) 1 (by decide), hst.cell (g := 0) (by kernel_rfl) 2 (by decide), hst.cell (g := 0) (by kernel_rfl) 3 (by decide)⟩
noncomputable def laidWorld (os : Os) : World :=
  let w0 := World.holding Tryz.prog os ⟨#[], #[], []⟩
  let put (h : Array Obj) (g : Nat) (cs : Array Value) : Array Obj := h.modify g fun
    | .cells _ t frozen => .cells cs t frozen
    | o => o
  let h1 := put w0.heap 2 (tab32.map fun z => Value.int .u8 z).toArray
  let h2 := put h1 6 (tab64.map fun z => Value.int .u8 z).toArray
  let h3 := put h2 0 (tabStart.map fun z => Value.int .u64 z).toArray
  let h4 := put h3 5 (Lib.pow10Tab.map fun z => Value.int .u64 z).toArray
  let h5 := put h4 3 (Lib.firstTab.map fun z => Value.int .u8 z).toArray
  let h6 := put h5 4 ((List.range 16).flatMap fun i => [Value.int .u8 (Lib.accLo i), Value.int .u8 (Lib.accHi i)]).toArray
  { w0 with heap := h6 }
set_option maxRecDepth 100000 in
theorem laid_met (os : Os) (args : Array Value) : laidMet Tryz.prog tabs ((laidWorld os).forCall (fun _ _ => 0) ⟨#[], args, []⟩).memory := by
  rw [tabs_eq]
  exact (LaidIn.of_run [2, 6, 0, 5, 4, 3] 8 (by kernel_rfl) (by kernel_rfl) (by kernel_rfl) (by kernel_rfl)).met
end Go.Proofs.YtmbiiemlepfoaaaGreatDoor
namespace Go.Proofs.YtmbiiemlepfoaaaGreatDoor
open Go.RowKit
set_option linter.unusedVariables false
theorem lessStr (w : World) (a b : List UInt8) (ha : a.length ≤ 1000000) (hb : b.length ≤ 1000000) : Calls Tryz.prog 34 #[.string (str a), .string (str b)] w fun e w' => e = .returned (.bool (lessB a b)) ∧ ∃ n, w' = w.drewN n :=
  (refLess (str a) (str b) w (by rw [str_size]; omega) (by rw [str_size]; omega))
def cellsS (L : List PairT) : List Value := L.flatMap fun x => [.string (str x.1), .string (str x.2)]
theorem own_sliceS {w : World} {base n e s : Nat} {v : Value} {vs : List Value} (ho : w.ownsRow base e s v n vs) : ∃ q d, v = .slice q n d := by
  rcases ho.2 with ⟨hv, hn⟩ | ⟨g, cap, cur, hv, _⟩
  · exact ⟨none, 0, by rw [hv, hn]⟩
  · exact ⟨_, _, hv⟩
theorem info100 : (Tryz.prog.info? 100).map (fun i => (i.zero, i.size, i.bytes)) = some (some (.agg #[.string ⟨#[]⟩, .string ⟨#[]⟩]), 2, 32) := by kernel_rfl
theorem cellsS_append (A B : List PairT) : cellsS (A ++ B) = cellsS A ++ cellsS B := by unfold cellsS; rw [List.flatMap_append]
structure IsRs (w : World) (D : Nat → Prop) (p : Option Addr) (c : Nat) (L : List PairT) : Prop where
  cap : L.length ≤ c
  nil : p = none → c = 0
  big : c ≤ maxLen
  cells : 0 < L.length → ∃ b o, p = some ⟨b, o, none⟩ ∧ b < w.heap.size ∧ D b ∧ ∀ i x, L[i]? = some x → w.cell? ⟨b, o + i * 2, none⟩ = some (.string (str x.1)) ∧ w.cell? ⟨b, o + i * 2 + 1, none⟩ = some (.string (str x.2))
theorem IsRs.none_ (w : World) (D : Nat → Prop) : IsRs w D none 0 [] := ⟨Nat.le_refl _, fun _ => rfl, Nat.zero_le _, fun h => absurd h (by simp)⟩
theorem IsRs.keep {w w' : World} {D : Nat → Prop} {p : Option Addr} {c : Nat} {L : List PairT} (h : IsRs w D p c L) (hz : w.heap.size ≤ w'.heap.size) (hk : ∀ k, k < w.heap.size → D k → w'.heap[k]? = w.heap[k]?) : IsRs w' D p c L :=
  ⟨h.cap, h.nil, h.big, fun hl => by
    obtain ⟨b, o, hp, hb, hd, hc⟩ := h.cells hl
    refine ⟨b, o, hp, Nat.lt_of_lt_of_le hb hz, hd, fun i x hx => ?_⟩
    obtain ⟨h1, h2⟩ := hc i x hx
    exact ⟨(cell_keep hk (a := ⟨b, o + i * 2, none⟩) hb hd).trans h1, (cell_keep hk (a := ⟨b, o + i * 2 + 1, none⟩) hb hd).trans h2⟩⟩
theorem IsRs.below {w w' : World} {D : Nat → Prop} {p : Option Addr} {c : Nat} {L : List PairT} (h : IsRs w D p c L) (hb : Below w.heap.size w w') : IsRs w' D p c L := h.keep hb.size (below_heap hb D)
theorem IsRs.grown {w w' : World} {D : Nat → Prop} {mb : Option Nat} {p : Option Addr} {c : Nat} {L : List PairT} (h : IsRs w D p c L) (ho : Off D mb) (g : w.grownBy w' mb) : IsRs w' D p c L := h.keep g.size (ho.keep g)
theorem IsRs.mono {w : World} {D D' : Nat → Prop} {p : Option Addr} {c : Nat} {L : List PairT} (h : IsRs w D p c L) (hd : ∀ k, k < w.heap.size → D k → D' k) : IsRs w D' p c L :=
  ⟨h.cap, h.nil, h.big, fun hl => by
    obtain ⟨b, o, hp, hb, hdb, hc⟩ := h.cells hl
    exact ⟨b, o, hp, hb, hd b hb hdb, hc⟩⟩
theorem IsRs.at_ {w : World} {D : Nat → Prop} {p : Option Addr} {c : Nat} {L : List PairT} (h : IsRs w D p c L) {i : Nat} {x : PairT} (hx : L[i]? = some x) : ∃ b o, p = some ⟨b, o, none⟩ ∧ b < w.heap.size ∧ D b ∧ w.cell? ⟨b, o + i * 2, none⟩ = some (.string (str x.1)) ∧ w.cell? ⟨b, o + i * 2 + 1, none⟩ = some (.string (str x.2)) := by
  have hl := (List.getElem?_eq_some_iff.1 hx).1
  obtain ⟨b, o, hp, hb, hd, hc⟩ := h.cells (by omega)
  exact ⟨b, o, hp, hb, hd, hc i x hx⟩
theorem cellsS_at : ∀ {L : List PairT} {i : Nat} {x : PairT}, L[i]? = some x → (cellsS L)[i * 2]? = some (.string (str x.1)) ∧ (cellsS L)[i * 2 + 1]? = some (.string (str x.2))
  | [], i, x, h => by simp at h
  | y :: L, 0, x, h => by
    simp at h
    subst h
    exact ⟨rfl, rfl⟩
  | y :: L, i + 1, x, h => by
    simp at h
    have := cellsS_at h
    show (Value.string (str y.1) :: Value.string (str y.2) :: cellsS L)[(i + 1) * 2]? = _ ∧ (Value.string (str y.1) :: Value.string (str y.2) :: cellsS L)[(i + 1) * 2 + 1]? = _
    rw [show (i + 1) * 2 = i * 2 + 2 from by omega]
    simpa using this
theorem IsRs.own {w : World} {base : Nat} {D : Nat → Prop} (hD : ∀ j, base ≤ j → D j) {e : TypeId} {p : Option Addr} {c : Nat} {L : List PairT} (h : w.ownsRow base e 2 (.slice p L.length c) L.length (cellsS L)) : IsRs w D p c L := by
  rcases h.2 with ⟨hv, hn⟩ | ⟨g, cap, cur, hv, hg, hh, hnc, hcm, hcs, ht⟩
  · injection hv with h1 h2 h3
    subst h1; subst h3
    obtain rfl : L = [] := List.eq_nil_of_length_eq_zero hn
    exact IsRs.none_ w D
  · injection hv with h1 h2 h3
    subst h1; subst h3
    refine ⟨hnc, fun h => by simp at h, by unfold maxLen at hcm ⊢; omega, fun _ => ⟨g, 0, rfl, row_ltT hh, hD g hg, fun i x hx => ?_⟩⟩
    obtain ⟨h1, h2⟩ := cellsS_at hx
    have a := h.cells (g := g) rfl _ _ h1
    have b := h.cells (g := g) rfl _ _ h2
    simp only [Addr.add_lit, Nat.zero_add] at a b ⊢
    exact ⟨a, b⟩
theorem strEq_t {a b : List UInt8} (h : a = b) : ((str a).toList == (str b).toList) = true := by rw [h]; simp
theorem strEq_f {a b : List UInt8} (h : a ≠ b) : ((str a).toList == (str b).toList) = false := by
  rw [beq_eq_false_iff_ne]
  intro e
  rw [str_toList, str_toList] at e
  exact h e
set_option maxHeartbeats 2000000 in
set_option maxRecDepth 100000 in
theorem ref04Get (w : World) {D : Nat → Prop} {p : Option Addr} {c : Nat} {L : List PairT} (h : IsRs w D p c L) (hn : L.length ≤ 1048576) (k : List UInt8) :
    Calls Tryz.prog 52 #[.slice p L.length c, .string (str k)] w fun e w' => ∃ v, e = .returned (.tuple #[v, .bool (hasL k L)]) ∧ Below w.heap.size w w' := by
  obtain ⟨R, hR⟩ : ∃ R, hasL k L = R := ⟨_, rfl⟩
  rw [hR]
  have HR := Lib.hid hR
  have H := Lib.hid h
  obtain ⟨N, hN⟩ : ∃ N, L.length = N := ⟨_, rfl⟩
  rw [hN] at hn ⊢
  have HN := Lib.hid hN
  clear h hN hR
  go_enter Tryz.func52, Tryz.ntmps52
  go_wp2
  go_loopw [10] (fun v10 wr => ∃ i : Nat, v10 = .int .i64 (i : Int) ∧ i ≤ N ∧ Below w.heap.size w wr ∧ Hid (hasL k (L.take i) = false)) (fun v10 _ => N - (intOf v10).toNat)
  case atStart => exact ⟨0, rfl, by omega, Below.refl _ _, rfl⟩
  case round =>
    obtain ⟨i, rfl, hi, hb, HI⟩ := hrel
    by_cases hlt : i < N
    · obtain ⟨⟨a, v⟩, hx⟩ : ∃ x, L[i]? = some x := ⟨_, List.getElem?_eq_getElem (by rw [HN.out]; exact hlt)⟩
      have hw := H.out.below hb
      obtain ⟨b, o, rfl, hbl, _, c0, c1⟩ := hw.at_ hx
      have g1 : (i : Int) < (N : Int) := by omega
      have HB := Lib.hid hb
      have hz := hb.size
      clear hw hb
      by_cases he : a = k
      · have hq := strEq_t he
        have hr : R = true := by rw [← HR.out]; exact hasL_mem.2 ⟨(a, v), List.mem_of_getElem? hx, he⟩
        have HRR := Lib.hid hr
        clear he hr hx
        go_wp2
        go_ret2
        rw [HRR.out]
        exact ⟨⟨_, rfl⟩, HB.out.alloc hz _⟩
      · have hq := strEq_f he
        have hi' : hasL k (L.take (i + 1)) = false := by
          rw [List.take_add_one, hx]
          unfold hasL at HI ⊢
          rw [List.any_append, HI.out]
          simp [he]
        have HI' := Lib.hid hi'
        clear he hi' hx
        go_wp2
        go_roundw
        case rel => exact ⟨i + 1, rfl, by omega, HB.out.alloc hz _, HI'.out⟩
        case measure => simp [intOf]; omega
    · have hiN : i = N := by omega
      subst hiN
      have g1 : ¬ (i : Int) < (i : Int) := by omega
      have hr : R = false := by
        rw [← HR.out, ← HI.out, List.take_of_length_le (by rw [HN.out]; omega)]
      have HRR := Lib.hid hr
      have HB := Lib.hid hb
      clear hb hr
      go_wp2
      go_ret2
      rw [HRR.out]
      exact ⟨⟨_, rfl⟩, HB.out⟩
def RsR (D : Nat → Prop) (L : List PairT) (w : World) (e : Ending) (w' : World) : Prop := ∃ q c, e = .returned (.slice q L.length c) ∧ IsRs w' D q c L ∧ Below w.heap.size w w'
theorem rs_end {w w' : World} {D : Nat → Prop} (hD : ∀ j, w.heap.size ≤ j → D j) {q : Option Addr} {c : Nat} {A L : List PairT} (h : w'.ownsRow w.heap.size 100 2 (.slice q A.length c) A.length (cellsS A)) (hb : Below w.heap.size w w') (e : A = L) : RsR D L w (.returned (.slice q A.length c)) w' := by
  subst e
  exact ⟨q, c, rfl, IsRs.own hD h, hb⟩
set_option maxHeartbeats 4000000 in
set_option maxRecDepth 100000 in
theorem ref04Without (w : World) {D D0 : Nat → Prop} (hD : ∀ j, w.heap.size ≤ j → D j) {p : Option Addr} {c : Nat} {L : List PairT} (h : IsRs w D0 p c L) (hn : L.length ≤ 1048576) (k : List UInt8) :
    Calls Tryz.prog 54 #[.slice p L.length c, .string (str k)] w (RsR D (withoutL k L) w) := by
  obtain ⟨R, hR⟩ : ∃ R, withoutL k L = R := ⟨_, rfl⟩
  rw [hR]
  have HR := Lib.hid hR
  have H := Lib.hid h
  have HD := Lib.hid hD
  obtain ⟨N, hN⟩ : ∃ N, L.length = N := ⟨_, rfl⟩
  rw [hN] at hn ⊢
  have HN := Lib.hid hN
  obtain ⟨i0, hi0, hz0, hz1, hz2⟩ := info_parts info100
  clear h hN hR hD
  go_enter Tryz.func54, Tryz.ntmps54
  go_wp2
  go_loopw [5, 10] (fun v5 v10 wr => ∃ (i : Nat) (A : List PairT) (q : Option Addr) (d : Nat), v5 = .slice q A.length d ∧ v10 = .int .i64 (i : Int) ∧ i ≤ N ∧ A.length ≤ i ∧ wr.ownsRow w.heap.size 100 2 (.slice q A.length d) A.length (cellsS A) ∧ Below w.heap.size w wr ∧ Hid (withoutL k (L.take i) = A)) (fun _ v10 _ => N - (intOf v10).toNat)
  case atStart => exact ⟨0, [], none, 0, rfl, rfl, by omega, Nat.le_refl _, World.ownsRow_nil _ _ _ _, Below.refl _ _, rfl⟩
  case round =>
    obtain ⟨i, A, q, d, rfl, rfl, hi, hAi, how, hb, HI⟩ := hrel
    by_cases hlt : i < N
    · obtain ⟨⟨a, v⟩, hx⟩ : ∃ x, L[i]? = some x := ⟨_, List.getElem?_eq_getElem (by rw [HN.out]; exact hlt)⟩
      have hw := H.out.below hb
      obtain ⟨b, o, rfl, hbl, _, c0, c1⟩ := hw.at_ hx
      have g1 : (i : Int) < (N : Int) := by omega
      have HB := Lib.hid hb
      have HOW := Lib.hid how
      have hz := hb.size
      clear hw hb how
      by_cases he : a = k
      · have hq : (!((str a).toList == (str k).toList)) = false := by rw [strEq_t he]; rfl
        have hi' : withoutL k (L.take (i + 1)) = A := by
          rw [← HI.out, List.take_add_one, hx]
          unfold withoutL
          rw [List.filter_append]
          simp [he]
        have HI' := Lib.hid hi'
        clear he hi' hx
        go_wp2
        go_roundw
        case rel => exact ⟨i + 1, A, q, d, rfl, rfl, by omega, by omega, HOW.out.alloc _, HB.out.alloc hz _, HI'.out⟩
        case measure => simp [intOf]; omega
      · have hq : (!((str a).toList == (str k).toList)) = true := by rw [strEq_f he]; rfl
        have hi' : withoutL k (L.take (i + 1)) = A ++ [(a, v)] := by
          rw [← HI.out, List.take_add_one, hx]
          unfold withoutL
          rw [List.filter_append]
          simp [he]
        have HI' := Lib.hid hi'
        clear he hi' hx
        go_wp2_with first
          | (at_builtin; refine wpList_append_own _ rfl _ _ 26 rfl w.heap.size 100 i0 (.agg #[.string ⟨#[]⟩, .string ⟨#[]⟩]) 2 32 Tryz.underlying26 hi0 hz0 hz1 hz2 rfl (by omega) _ A.length (cellsS A) rfl ((HOW.out.alloc _).alloc _) ⟨wr.heap.size + 1, 0, none⟩ 1 1 [.string (str a), .string (str v)] rfl rfl (World.news_of_block (cs := #[.string (str a), .string (str v)]) (t := 100) (fr := (0, 0)) (by have := heap_alloc_new (wr.alloc (.cells #[.string (str a), .string (str v)] 100)) (.cells #[.string (str a), .string (str v)] 100); simpa using this)) (by simp [Value.oneCell']) (by unfold maxLen; omega) (by omega) (by simp; omega) ?_; intro v8 w7 ho7 hg7 _; have hB7 := (((HB.out.alloc hz (.cells #[.string (str a), .string (str v)] 100)).alloc (by simp; omega) (.cells #[.string (str a), .string (str v)] 100)).grown hg7 (by simp; omega) (fun r e => (HOW.out.lt r e).1)); obtain ⟨q9, c9, rfl⟩ := own_sliceS ho7; have HO7 := Lib.hid ho7; have HB7 := Lib.hid hB7; clear ho7 hg7 hB7)
          | fail
        go_roundw
        case rel =>
          have hLl : (A ++ [(a, v)]).length = A.length + 1 := by simp
          refine ⟨i + 1, A ++ [(a, v)], q9, c9, by rw [hLl], rfl, by omega, by omega, ?_, HB7.out, HI'.out⟩
          rw [hLl, cellsS_append]
          exact HO7.out
        case measure => simp [intOf]; omega
    · have hiN : i = N := by omega
      subst hiN
      have g1 : ¬ (i : Int) < (i : Int) := by omega
      have hr : A = R := by rw [← HI.out, ← HR.out, List.take_of_length_le (by rw [HN.out]; omega)]
      have HF := Lib.hid (rs_end HD.out how hb hr)
      clear hb hr how
      go_wp2
      go_ret
      exact HF.out
theorem st26 : SlTy 26 100 2 32 := slTy Tryz.underlying26 info100 rfl (by decide)
theorem one_strs (a b : List UInt8) : ∀ u ∈ [Value.string (str a), Value.string (str b)], u.oneCell' = true := by simp [Value.oneCell']
def PutR4 (P : Bool) (k v : List UInt8) (A B R : List PairT) : Prop := R = A ++ (if P then B.filter (fun x => decide (x.1 ≠ k)) else putL (k, v) B)
theorem putR_less {k v a b : List UInt8} {A B R : List PairT} (h : PutR4 false k v A ((a, b) :: B) R) (hl : lessB a k = true) : PutR4 false k v (A ++ [(a, b)]) B R := by
  unfold PutR4 at h ⊢
  simp only [Bool.false_eq_true, if_false] at h ⊢
  unfold lessB at hl
  rw [h, putL, if_pos (by simpa using hl)]
  simp
theorem putR_here {k v a b : List UInt8} {A B R : List PairT} (h : PutR4 false k v A ((a, b) :: B) R) (hl : lessB a k = false) : PutR4 true k v (A ++ [(k, v)]) ((a, b) :: B) R := by
  unfold PutR4 at h ⊢
  simp only [Bool.false_eq_true, if_false, if_true] at h ⊢
  unfold lessB at hl
  rw [h, putL, if_neg (by simpa using hl)]
  simp
theorem putR_skip {k v a b : List UInt8} {A B R : List PairT} (h : PutR4 true k v A ((a, b) :: B) R) (he : a = k) : PutR4 true k v A B R := by
  unfold PutR4 at h ⊢
  simp only [if_true] at h ⊢
  rw [h, List.filter_cons_of_neg (by simp [he])]
theorem putR_take {k v a b : List UInt8} {A B R : List PairT} (h : PutR4 true k v A ((a, b) :: B) R) (he : a ≠ k) : PutR4 true k v (A ++ [(a, b)]) B R := by
  unfold PutR4 at h ⊢
  simp only [if_true] at h ⊢
  rw [h, List.filter_cons_of_pos (by simp [he])]
  simp
theorem less_ne {a k : List UInt8} (h : lessB a k = true) : a ≠ k := by
  unfold lessB at h
  exact cmp_ne (by simpa using h)
set_option maxHeartbeats 4000000 in
set_option maxRecDepth 100000 in
theorem ref04Put (w : World) {D D0 : Nat → Prop} (hD : ∀ j, w.heap.size ≤ j → D j) {p : Option Addr} {c : Nat} {L : List PairT} (h : IsRs w D0 p c L) (hn : L.length ≤ 1048576) (hs : ∀ x ∈ L, x.1.length ≤ 1000000) (k v : List UInt8) (hk : k.length ≤ 1000000) :
    Calls Tryz.prog 56 #[.slice p L.length c, .agg #[.string (str k), .string (str v)]] w (RsR D (putL (k, v) L) w) := by
  obtain ⟨R, hR⟩ : ∃ R, putL (k, v) L = R := ⟨_, rfl⟩
  rw [hR]
  have HR := Lib.hid hR
  obtain ⟨W0, hW0⟩ : ∃ x, x = w.alloc (.cells #[.string (str k), .string (str v)] 100) := ⟨_, rfl⟩
  have hz0 : W0.heap.size = w.heap.size + 1 := by rw [hW0]; simp
  have hb0 : Below w.heap.size w W0 := by rw [hW0]; exact (Below.refl _ w).alloc (Nat.le_refl _) _
  have r0 : W0.heap[w.heap.size]? = some (.cells #[.string (str k), .string (str v)] 100) := by rw [hW0]; exact heap_alloc_new _ _
  have H := Lib.hid (h.below hb0)
  have HD := Lib.hid hD
  have HS := Lib.hid hs
  obtain ⟨N, hN⟩ : ∃ N, L.length = N := ⟨_, rfl⟩
  rw [hN] at hn ⊢
  have HN := Lib.hid hN
  have HB0 := Lib.hid hb0
  have HR0 := Lib.hid r0
  clear h hN hR hD hs hb0 r0
  go_enter Tryz.func56, Tryz.ntmps56
  go_wp2_with fail
  rw [← hW0]
  clear hW0
  go_wp2_with fail
  go_loopw [5, 6, 11] (fun v5 v6 v11 wr => ∃ (i : Nat) (A : List PairT) (q : Option Addr) (d : Nat) (P : Bool), v5 = .slice q A.length d ∧ v6 = .bool P ∧ v11 = .int .i64 (i : Int) ∧ i ≤ N ∧ A.length ≤ i + 1 ∧ (P = false → A.length ≤ i) ∧ wr.ownsRow W0.heap.size 100 2 (.slice q A.length d) A.length (cellsS A) ∧ Below W0.heap.size W0 wr ∧ Hid (PutR4 P k v A (L.drop i) R)) (fun _ _ v11 _ => N - (intOf v11).toNat)
  case atStart => exact ⟨0, [], none, 0, false, rfl, rfl, rfl, by omega, Nat.zero_le _, fun _ => Nat.zero_le _, World.ownsRow_nil _ _ _ _, Below.refl _ _, by have := HR.out; show _ = _; simp [← this]⟩
  case round =>
    obtain ⟨i, A, q, d, P, rfl, rfl, rfl, hi, hAi, hPf, how, hb, HI⟩ := hrel
    have r0 := (hb.block w.heap.size (by omega)).trans HR0.out
    have e0 : wr.cell? ⟨w.heap.size, 0, none⟩ = some (.string (str k)) := cell_of_row wr _ 0 _ _ (0, 0) r0
    have e1 : wr.cell? ⟨w.heap.size, 1, none⟩ = some (.string (str v)) := cell_of_row wr _ 1 _ _ (0, 0) r0
    have hww : w.heap.size < wr.heap.size := by have := hb.size; omega
    have hz := hb.size
    clear r0
    by_cases hlt : i < N
    · obtain ⟨⟨a, b⟩, hx⟩ : ∃ x, L[i]? = some x := ⟨_, List.getElem?_eq_getElem (by rw [HN.out]; exact hlt)⟩
      have hal := HS.out _ (List.mem_of_getElem? hx)
      have hw := H.out.below hb
      obtain ⟨bl, o, rfl, hbl, _, c0, c1⟩ := hw.at_ hx
      have hdr : L.drop i = (a, b) :: L.drop (i + 1) := by
        have hlt' := (List.getElem?_eq_some_iff.1 hx).1
        rw [List.drop_eq_getElem_cons hlt']
        congr 1
        have := (List.getElem?_eq_some_iff.1 hx).2
        exact this
      rw [hdr] at HI
      have g1 : (i : Int) < (N : Int) := by omega
      have HB := Lib.hid hb
      have HOW := Lib.hid how
      have CL := Lib.hid (fun w' => lessStr w' a k hal hk)
      obtain ⟨ls, hls⟩ : ∃ x, lessB a k = x := ⟨_, rfl⟩
      rw [hls] at CL
      have HOWQ := Lib.hid (HOW.out.alloc (.cells #[.string (str a), .string (str b)] 100))
      have HBQ := Lib.hid (HB.out.alloc hz (.cells #[.string (str a), .string (str b)] 100))
      have rq : (wr.alloc (.cells #[.string (str a), .string (str b)] 100)).heap[wr.heap.size]? = some (.cells #[.string (str a), .string (str b)] 100) := heap_alloc_new _ _
      have HRQ := Lib.hid rq
      clear hw hb how hx hdr hal rq
      cases P with
      | true =>
        clear hPf
        by_cases he : a = k
        · have hq : (!((str a).toList == (str k).toList)) = false := by rw [strEq_t he]; rfl
          have HI' := Lib.hid (putR_skip HI.out he)
          clear he HI hls
          go_wp2_with fail
          go_roundw
          case rel => exact ⟨i + 1, A, q, d, true, rfl, rfl, rfl, by omega, by omega, fun h => (by cases h), HOWQ.out, HBQ.out, HI'⟩
          case measure => simp [intOf]; omega
        · have hq : (!((str a).toList == (str k).toList)) = true := by rw [strEq_f he]; rfl
          have HI' := Lib.hid (putR_take HI.out he)
          clear he HI hls
          go_wp2_with first
            | (at_builtin; refine wpList_appNew st26 [.string (str a), .string (str b)] rfl _ _ rfl rfl _ rfl (by simp) HOWQ HBQ (Nat.le_refl _) rfl (one_strs a b) (by omega) (by decide) ?_; intro q9 c9 w7 HO7 HB7 HK7)
            | fail
          go_roundw
          case rel =>
            have hLl : (A ++ [(a, b)]).length = A.length + 1 := by simp
            refine ⟨i + 1, A ++ [(a, b)], q9, c9, true, by rw [hLl], rfl, rfl, by omega, by omega, fun h => (by cases h), ?_, HB7.out, HI'⟩
            rw [hLl, cellsS_append]
            exact HO7.out
          case measure => simp [intOf]; omega
      | false =>
        have hAf := hPf rfl
        clear hPf
        cases ls with
        | true =>
          have hne := less_ne hls
          have hq : (!((str a).toList == (str k).toList)) = true := by rw [strEq_f hne]; rfl
          have HI' := Lib.hid (putR_less HI.out hls)
          clear hls hne HI
          go_wp2_with first
            | (go_at_call 34; ((with_reducible refine (CL.out _).mono ?_)); rintro e w3 ⟨rfl, n3, rfl⟩; have HOW3 := own_drewH n3 HOWQ; have HB3 := below_drewH n3 HBQ)
            | (at_builtin; refine wpList_appNew st26 [.string (str a), .string (str b)] rfl _ _ rfl rfl _ rfl (by simp) HOW3 HB3 (Nat.le_refl _) rfl (one_strs a b) (by omega) (by decide) ?_; intro q9 c9 w7 HO7 HB7 HK7)
            | fail
          go_roundw
          case rel =>
            have hLl : (A ++ [(a, b)]).length = A.length + 1 := by simp
            refine ⟨i + 1, A ++ [(a, b)], q9, c9, false, by rw [hLl], rfl, rfl, by omega, by omega, fun _ => by omega, ?_, HB7.out, HI'⟩
            rw [hLl, cellsS_append]
            exact HO7.out
          case measure => simp [intOf]; omega
        | false =>
          have HI1 := Lib.hid (putR_here HI.out hls)
          by_cases he : a = k
          · have hq : (!((str a).toList == (str k).toList)) = false := by rw [strEq_t he]; rfl
            have HI' := Lib.hid (putR_skip HI1.out he)
            clear he HI HI1 hls
            go_wp2_with first
              | (go_at_call 34; ((with_reducible refine (CL.out _).mono ?_)); rintro e w3 ⟨rfl, n3, rfl⟩; have HOW3 := own_drewH n3 HOWQ; have HB3 := below_drewH n3 HBQ)
              | (at_builtin; refine wpList_appNew st26 [.string (str k), .string (str v)] rfl _ _ rfl rfl _ rfl (by simp) HOW3 HB3 (Nat.le_refl _) rfl (one_strs k v) (by omega) (by decide) ?_; intro q9 c9 w7 HO7 HB7 HK7; have rq7 : w7.heap[wr.heap.size]? = some (.cells #[.string (str a), .string (str b)] 100) := (HK7.out _ (by simp) (fun r e => by have := (HOW.out.lt r e).2; omega)).trans HRQ.out; have rk7 := (HB7.out.block w.heap.size (by omega)).trans HR0.out; have f0 : w7.cell? ⟨wr.heap.size, 0, none⟩ = some (.string (str a)) := cell_of_row w7 _ 0 _ _ (0, 0) rq7; have f1 : w7.cell? ⟨wr.heap.size, 1, none⟩ = some (.string (str b)) := cell_of_row w7 _ 1 _ _ (0, 0) rq7; have f2 : w7.cell? ⟨w.heap.size, 0, none⟩ = some (.string (str k)) := cell_of_row w7 _ 0 _ _ (0, 0) rk7; clear rq7 rk7)
              | fail
            go_roundw
            case rel =>
              have hLl : (A ++ [(k, v)]).length = A.length + 1 := by simp
              refine ⟨i + 1, A ++ [(k, v)], q9, c9, true, by rw [hLl], rfl, rfl, by omega, by omega, fun h => (by cases h), ?_, HB7.out, HI'⟩
              rw [hLl, cellsS_append]
              exact HO7.out
            case measure => simp [intOf]; omega
          · have hq : (!((str a).toList == (str k).toList)) = true := by rw [strEq_f he]; rfl
            have HI' := Lib.hid (putR_take HI1.out he)
            clear he HI HI1 hls
            go_wp2_with first
              | (go_at_call 34; ((with_reducible refine (CL.out _).mono ?_)); rintro e w3 ⟨rfl, n3, rfl⟩; have HOW3 := own_drewH n3 HOWQ; have HB3 := below_drewH n3 HBQ)
              | (at_builtin; refine wpList_appNew st26 [.string (str k), .string (str v)] rfl _ _ rfl rfl _ rfl (by simp) HOW3 HB3 (Nat.le_refl _) rfl (one_strs k v) (by omega) (by decide) ?_; intro q9 c9 w7 HO7 HB7 HK7; have rq7 : w7.heap[wr.heap.size]? = some (.cells #[.string (str a), .string (str b)] 100) := (HK7.out _ (by simp) (fun r e => by have := (HOW.out.lt r e).2; omega)).trans HRQ.out; have rk7 := (HB7.out.block w.heap.size (by omega)).trans HR0.out; have f0 : w7.cell? ⟨wr.heap.size, 0, none⟩ = some (.string (str a)) := cell_of_row w7 _ 0 _ _ (0, 0) rq7; have f1 : w7.cell? ⟨wr.heap.size, 1, none⟩ = some (.string (str b)) := cell_of_row w7 _ 1 _ _ (0, 0) rq7; have f2 : w7.cell? ⟨w.heap.size, 0, none⟩ = some (.string (str k)) := cell_of_row w7 _ 0 _ _ (0, 0) rk7; clear rq7 rk7)
              | (at_builtin; refine wpList_appNew st26 [.string (str a), .string (str b)] rfl _ _ rfl rfl _ rfl rfl HO7 HB7 (Nat.le_refl _) rfl (one_strs a b) (by omega) (by decide) ?_; intro q8 c8 w8 HO8 HB8 HK8)
              | fail
            go_roundw
            case rel =>
              have hLl : (A ++ [(k, v)] ++ [(a, b)]).length = A.length + 1 + 1 := by simp
              refine ⟨i + 1, A ++ [(k, v)] ++ [(a, b)], q8, c8, true, by rw [hLl], rfl, rfl, by omega, by omega, fun h => (by cases h), ?_, HB8.out, HI'⟩
              rw [hLl, cellsS_append, cellsS_append]
              exact HO8.out
            case measure => simp [intOf]; omega
    · have hiN : i = N := by omega
      subst hiN
      have g1 : ¬ (i : Int) < (i : Int) := by omega
      have hdr : L.drop i = [] := List.drop_eq_nil_of_le (by rw [HN.out]; omega)
      rw [hdr] at HI
      have HB := Lib.hid hb
      have HOW := Lib.hid how
      clear hdr how hb
      cases P with
      | true =>
        have hr : A = R := by have := HI.out; unfold PutR4 at this; simpa using this.symm
        have HF := Lib.hid (rs_end (w := W0) (fun j hj => HD.out j (by omega)) HOW.out HB.out hr)
        clear hr HI
        go_wp2
        go_ret
        obtain ⟨q', c', e, h1, h2⟩ := HF.out
        exact ⟨q', c', e, h1, HB0.out.trans (h2.mono HB0.out.size)⟩
      | false =>
        have hr : A ++ [(k, v)] = R := by have := HI.out; unfold PutR4 at this; simpa [putL] using this.symm
        have HRR := Lib.hid hr
        clear hr HI
        go_wp2_with first
          | (at_builtin; refine wpList_appNew st26 [.string (str k), .string (str v)] rfl _ _ rfl rfl _ rfl rfl HOW HB (Nat.le_refl _) rfl (one_strs k v) (by omega) (by decide) ?_; intro q9 c9 w7 HO7 HB7 HK7)
          | fail
        go_ret
        have hl : (A ++ [(k, v)]).length = A.length + 1 := by simp
        have ho := HO7.out
        rw [← hl, show cellsS A ++ [Value.string (str k), Value.string (str v)] = cellsS (A ++ [(k, v)]) from by rw [cellsS_append]; rfl] at ho
        obtain ⟨q', c', e, h1, h2⟩ := rs_end (w := W0) (fun j hj => HD.out j (by omega)) ho HB7.out HRR.out
        rw [hl] at e
        exact ⟨q', c', e, h1, HB0.out.trans (h2.mono HB0.out.size)⟩
set_option maxHeartbeats 4000000 in
set_option maxRecDepth 100000 in
theorem ref04Is (w : World) {D D' : Nat → Prop} {p q : Option Addr} {c d : Nat} {L : List PairT} (h : IsPs w D p c L) (h' : IsRs w D' q d L) (hn : L.length ≤ 1048576) :
    Calls Tryz.prog 21 #[.slice p L.length c, .slice q L.length d] w fun e w' => e = .returned (.bool true) ∧ ∃ n, w' = w.drewN n := by
  have H := Lib.hid h
  have H' := Lib.hid h'
  obtain ⟨N, hN⟩ : ∃ N, L.length = N := ⟨_, rfl⟩
  rw [hN] at hn ⊢
  have HN := Lib.hid hN
  clear h h' hN
  go_enter Tryz.func21, Tryz.ntmps21
  go_wp2
  go_loopw [13] (fun v13 wr => ∃ i n : Nat, v13 = .int .i64 (i : Int) ∧ i ≤ N ∧ wr = w.drewN n) (fun v13 _ => N - (intOf v13).toNat)
  case atStart => exact ⟨0, 0, rfl, by omega, rfl⟩
  case round =>
    obtain ⟨i, n, rfl, hi, rfl⟩ := hrel
    by_cases hlt : i < N
    · obtain ⟨⟨a, v⟩, hx⟩ : ∃ x, L[i]? = some x := ⟨_, List.getElem?_eq_getElem (by rw [HN.out]; exact hlt)⟩
      obtain ⟨b, o, kp, kc, vp, vc, rfl, hbl, _, c0, c1, hk, hv⟩ := H.out.at_ hx
      obtain ⟨b2, o2, rfl, hbl2, _, d0, d1⟩ := H'.out.at_ hx
      have k1 : ∀ m, (convert 22 9 (.slice kp a.length kc)).run Tryz.prog (w.drewN m) = .ok (.string (str a)) (w.drewN m) := fun m => (hk.b.drewN m).convert Tryz.underlying22 Tryz.underlying5 Tryz.underlying9
      have k2 : ∀ m, (convert 22 9 (.slice vp v.length vc)).run Tryz.prog (w.drewN m) = .ok (.string (str v)) (w.drewN m) := fun m => (hv.b.drewN m).convert Tryz.underlying22 Tryz.underlying5 Tryz.underlying9
      have g1 : (i : Int) < (N : Int) := by omega
      clear hk hv hx
      go_wp2_with fail
      go_quiet (fail)
      go_wp2
      go_roundw
      case rel => exact ⟨i + 1, _, rfl, by omega, rfl⟩
      case measure => simp [intOf]; omega
    · have hiN : i = N := by omega
      subst hiN
      have g1 : ¬ (i : Int) < (i : Int) := by omega
      go_wp2
      go_ret
      exact ⟨rfl, _, rfl⟩
end Go.Proofs.YtmbiiemlepfoaaaGreatDoor
