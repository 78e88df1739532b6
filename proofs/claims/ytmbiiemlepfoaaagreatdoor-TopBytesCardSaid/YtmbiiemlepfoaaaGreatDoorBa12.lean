/- The walks of graft.With (its node told), graft.fork. The walks of Kind, (*Tree).Put, graft.put into: of a leaf, of a bucket. The walk of graft.put into: of a leaf. The walk of graft.put into: of a leaf of the same hash. -/
import Derived.Test.YtmbiiemlepfoaaaGreatDoorBa10
import Derived.Test.YtmbiiemlepfoaaaGreatDoorBa11

/-! The walks of graft.With (its node told), graft.fork. -/
namespace Go.Proofs.YtmbiiemlepfoaaaGreatDoor
open Go.RowKit
set_option linter.unusedVariables false

/-! Cells alone are looked at. -/
def CellsAt (w : World) (k : Nat) : Prop := ∃ cs t fr, w.heap[k]? = some (.cells cs t fr)
theorem IsD.mono2 {w : World} {D D' : Nat → Prop} {p : Option Addr} {c : Nat} {l : List UInt8} (h : IsD w D p c l) (hd : ∀ k, CellsAt w k → D k → D' k) : IsD w D' p c l :=
  ⟨h.b, fun a hp hl => by
    refine hd _ ?_ (h.d a hp hl)
    obtain ⟨b, o, h1, h2, hc⟩ := h.b.cells hl
    rw [hp] at h1
    cases h1
    have := hc 0 l[0] (List.getElem?_eq_getElem hl)
    unfold World.cell? at this
    dsimp only at this ⊢
    split at this
    · rename_i cs t fr hh; exact ⟨cs, t, fr, hh⟩
    · cases this⟩
theorem TreeAt.mono2 {w : World} {D D' : Nat → Prop} (hd : ∀ k, CellsAt w k → D k → D' k) : ∀ {t : T} {p : Option Addr}, TreeAt w D p t → TreeAt w D' p t
  | .nil, _, h => h
  | .node l k v r, _, h => by
    obtain ⟨b, kp, kc, vp, vc, lp, rp, hp, hb, hr, h1, h2, h3, h4⟩ := h
    exact ⟨b, kp, kc, vp, vc, lp, rp, hp, hd b ⟨_, _, _, hr⟩ hb, hr, h1.mono2 hd, h2.mono2 hd, TreeAt.mono2 hd h3, TreeAt.mono2 hd h4⟩
theorem IsVs.mono2 {w : World} {D D' : Nat → Prop} {p : Option Addr} {c : Nat} {vs : List Value} (h : IsVs w D p c vs) (hd : ∀ k, CellsAt w k → D k → D' k) : IsVs w D' p c vs :=
  ⟨h.cap, h.nil, h.big, fun hl => by
    obtain ⟨b, o, hp, hb, hdb, hc⟩ := h.cells hl
    refine ⟨b, o, hp, hb, hd b ?_ hdb, hc⟩
    have := hc 0 vs[0] (List.getElem?_eq_getElem hl)
    unfold World.cell? at this
    dsimp only at this ⊢
    split at this
    · rename_i cs t fr hh; exact ⟨cs, t, fr, hh⟩
    · cases this⟩
mutual
theorem N.At.mono2 {w : World} {D D' : Nat → Prop} (hd : ∀ k, CellsAt w k → D k → D' k) : ∀ {n : N} {x : Value}, N.At w D n x → N.At w D' n x
  | .leaf _ _ _, _, hx => by
    unfold N.At at hx ⊢
    obtain ⟨b, kp, kc, vp, vc, h1, h2, h3, h4, h5⟩ := hx
    exact ⟨b, kp, kc, vp, vc, h1, hd b ⟨_, _, _, h3⟩ h2, h3, h4.mono2 hd, h5.mono2 hd⟩
  | .bucket _ _, _, hx => by
    unfold N.At at hx ⊢
    obtain ⟨b, p, h1, h2, h3, h4⟩ := hx
    exact ⟨b, p, h1, hd b ⟨_, _, _, h3⟩ h2, h3, h4.mono2 hd⟩
  | .branch m ks, _, hx => by
    unfold N.At at hx ⊢
    obtain ⟨b, p, c, vs, h1, h2, h3, h4, h5⟩ := hx
    exact ⟨b, p, c, vs, h1, hd b ⟨_, _, _, h3⟩ h2, h3, h4.mono2 hd, N.Ats.mono2 hd h5⟩
theorem N.Ats.mono2 {w : World} {D D' : Nat → Prop} (hd : ∀ k, CellsAt w k → D k → D' k) : ∀ {ns : List N} {vs : List Value}, N.Ats w D ns vs → N.Ats w D' ns vs
  | [], _, hx => hx
  | n :: ns, _, hx => by
    unfold N.Ats at hx ⊢
    obtain ⟨v, vs', h1, h2, h3⟩ := hx
    exact ⟨v, vs', h1, N.At.mono2 hd h2, N.Ats.mono2 hd h3⟩
end
theorem N.At.putObj {w : World} {D : Nat → Prop} {n : N} {x : Value} (h : N.At w D n x) {l : Nat} {o : Obj} (o' : Obj) (hl : w.heap[l]? = some o) (ho : o.isCells = false) : N.At (w.putObj l o') D n x := by
  have h1 : N.At w (fun k => D k ∧ k ≠ l) n x := h.mono2 fun k ⟨cs, t, fr, hk⟩ hd => ⟨hd, fun e => by subst e; rw [hk] at hl; cases hl; cases ho⟩
  exact (h1.keep (by simp) fun k _ hd => World.putObj_heap_other hd.2).mono fun k _ hd => hd.1

def W1R (D : Nat → Prop) (n : N) (w : World) (e : Ending) (w' : World) : Prop := ∃ b, e = .returned (ifp 308 b) ∧ N.At w' D n (ifp 308 b) ∧ Below w.heap.size w w'
theorem br_of {w : World} {D : Nat → Prop} {m nb L : Nat} {ks : List N} (h : N.At w D (.branch m ks) (ifp 308 nb)) (hf : (N.branch m ks).fit L) : ∃ vs, BrAt w nb m vs ∧ N.Ats w D ks vs := by
  unfold N.At at h
  obtain ⟨b, p, c, vs, hx, hd, hr, hv, ha⟩ := h
  injection hx with _ hx
  injection hx with hx
  injection hx with hx
  injection hx with hx
  subst hx
  unfold N.fit at hf
  refine ⟨vs, ⟨⟨p, c, _, hr, fun hl => ?_⟩, by rw [ha.length, hf.2.2.1], hf.1⟩, ha⟩
  obtain ⟨pb, po, h1, h2, h3, h4⟩ := hv.cells hl
  exact ⟨pb, po, h1, h2, h4⟩
theorem ats_form {w : World} {D : Nat → Prop} {ks : List N} {vs : List Value} (h : N.Ats w D ks vs) : ∀ v ∈ vs, ∃ t b, v = ifp t b := by
  intro v hv
  obtain ⟨i, hi⟩ := List.getElem?_of_mem hv
  have hl := h.length
  have hil := (List.getElem?_eq_some_iff.1 hi).1
  obtain ⟨v', h1, h2⟩ := h.at_ (i := i) (List.getElem?_eq_getElem (by omega))
  rw [hi] at h1
  cases h1
  obtain ⟨b, hb, _⟩ := h2.form
  exact ⟨_, b, hb⟩
theorem with_ats {w : World} {D : Nat → Prop} {m c : Nat} {ks : List N} {vs : List Value} {k : N} {kv : Value} (ha : N.Ats w D ks vs) (hl : ks.length = cntUp 32 m) (hk : N.At w D k kv) : N.Ats w D (withN m ks c k) ((bitsOf (m ||| 2 ^ c)).map (withV m c vs kv)) := by
  apply N.ats_of
  · unfold withN; rw [List.length_map, List.length_map]
  · intro j n v hn hv
    obtain ⟨i, hi, rfl⟩ := with_at (i := 0) hn
    rw [List.getElem?_map, hi] at hv
    simp at hv
    subst hv
    unfold withV
    by_cases hic : i = c
    · rw [if_pos hic, if_pos hic]; exact hk
    · rw [if_neg hic, if_neg hic]
      obtain ⟨a1, a2⟩ := with_bits hi hic
      obtain ⟨n', hn'⟩ := with_old (c := c) hl a1 a2
      rw [hn']
      obtain ⟨v', h1, h2⟩ := ha.at_ hn'
      unfold kidV
      rw [if_pos a2]
      simp only [List.getD, h1, Option.getD_some]
      exact h2
theorem graftWith (w : World) (D : Nat → Prop) (hD : ∀ j, w.heap.size ≤ j → D j) {nb m c kt kb L : Nat} {ks : List N} {k : N} (hx : N.At w D (.branch m ks) (ifp 308 nb)) (hf : (N.branch m ks).fit L) (hc : c < 32) (hk : N.At w D k (ifp kt kb)) (h2 : 2 < w.heap.size) (hT : TabAt 2 Lib.deBruijn32tab w)
    (hsz : N.counts (withN m ks c k) < 4611686018427387904) :
    Calls Tryz.prog 252 #[ifp 308 nb, .int .i64 (c : Int), ifp kt kb] w (W1R D (.branch (m ||| 2 ^ c) (withN m ks c k)) w) := by
  obtain ⟨vs, hbr, ha⟩ := br_of hx hf
  have hl : ks.length = cntUp 32 m := by unfold N.fit at hf; exact hf.2.2.1
  have hne : withN m ks c k ≠ [] := by
    intro e
    have : c ∈ bitsOf (m ||| 2 ^ c) := mem_bitsUp.2 ⟨hc, by rw [with_bit]; simp⟩
    unfold withN at e
    rw [List.map_eq_nil_iff] at e
    rw [e] at this
    simp at this
  refine graftWithV w D hD hbr hc h2 hT (ats_form ha) _ ?_ ?_
  · intro w' p c' hb hv
    have hd : ∀ j, w'.heap.size ≤ j → D j := fun j hj => hD j (Nat.le_trans hb.size hj)
    have hlen : ((bitsOf (m ||| 2 ^ c)).map (withV m c vs (ifp kt kb))).length = (bitsOf (m ||| 2 ^ c)).length := List.length_map _
    have := nodeBranch w' D hd (m := m ||| 2 ^ c) hv (with_ats (ha.below hb) hl (hk.below hb)) (or_lt32 hbr.lt hc) (by unfold withN; rw [List.length_map]; rfl) hne hsz
    rw [hlen] at this
    refine this.mono ?_
    rintro e w2 ⟨b, rfl, hn, hb2⟩
    exact ⟨⟨_, rfl⟩, ⟨b, rfl, hn, below_step hb hb2⟩, hb2⟩
  · rintro v w' o o' l ⟨b, he, hn, hb⟩ hl2 ho hoc
    exact ⟨b, he, hn.putObj o' ho hoc, hb.grown (grownBy_putObj' w' l o') hb.size (fun k e => by cases e; exact hl2)⟩

theorem counts1 (a : N) : N.counts [a] = a.count := by simp [N.counts]
theorem counts2 (a b : N) : N.counts [a, b] = a.count + b.count := by simp [N.counts]
theorem fork_count : ∀ (f : Nat) (a : N) (g : Nat) (b : N) (h L : Nat), (forkN f a g b h L).count ≤ a.count + b.count
  | 0, a, g, b, h, L => by simp [forkN]
  | f + 1, a, g, b, h, L => by
    unfold forkN
    split
    · simp only [N.count, counts1]; exact fork_count f a g b h (L + 1)
    · split <;> simp only [N.count, counts2] <;> omega
theorem ats1 {w : World} {D : Nat → Prop} {a : N} {x : Value} (h : N.At w D a x) : N.Ats w D [a] [x] := by
  unfold N.Ats; exact ⟨x, [], rfl, h, rfl⟩
theorem ats2 {w : World} {D : Nat → Prop} {a b : N} {x y : Value} (h : N.At w D a x) (h' : N.At w D b y) : N.Ats w D [a, b] [x, y] := by
  unfold N.Ats; exact ⟨x, [y], rfl, h, ats1 h'⟩

set_option maxHeartbeats 2000000 in
set_option maxRecDepth 100000 in
theorem graftFork (D : Nat → Prop) {a b : N} {g h ta ba tb bb : Nat} (hg : g < 18446744073709551616) (hh : h < 18446744073709551616) (hct : a.count + b.count < 4611686018427387904) : ∀ (f L : Nat) (w : World) (hD : ∀ j, w.heap.size ≤ j → D j), N.At w D a (ifp ta ba) → N.At w D b (ifp tb bb) → L + f = 13 → (∃ j, L ≤ j ∧ j < 13 ∧ chunkM g j ≠ chunkM h j) →
    Calls Tryz.prog 185 #[ifp ta ba, .int .u64 (g : Int), ifp tb bb, .int .u64 (h : Int), .int .i64 (L : Int)] w (W1R D (forkN f a g b h L) w)
  | 0, L, w, hD, ha, hb, h13, ⟨j, h1, h2, _⟩ => by omega
  | f + 1, L, w, hD, ha, hb, h13, ⟨j, h1, h2, h3⟩ => by
    have CG := Lib.hid (fun w => chunkAt w g L hg)
    have CH := Lib.hid (fun w => chunkAt w h L hh)
    have hcg := chunkM_lt g L
    have hch := chunkM_lt h L
    unfold forkN
    by_cases e : chunkM g L = chunkM h L
    · rw [if_pos e]
      have hjL : j ≠ L := fun e' => h3 (by rw [e']; exact e)
      rw [← e] at CH
      have CO := Lib.hid (bitsOf1 (w.alloc (.cells #[.int .i64 (chunkM g L : Int)] 3)) w.heap.size (chunkM g L) hcg (cell_of_row _ _ 0 _ _ (0, 0) (heap_alloc_new w _)))
      have hb0 : Below w.heap.size w (w.alloc (.cells #[.int .i64 (chunkM g L : Int)] 3)) := (Below.refl _ w).alloc (Nat.le_refl _) _
      have CF := Lib.hid (graftFork D hg hh hct f (L + 1) (w.alloc (.cells #[.int .i64 (chunkM g L : Int)] 3)) (fun j hj => hD j (Nat.le_trans hb0.size hj)) (ha.below hb0) (hb.below hb0) (by omega) ⟨j, by omega, h2, h3⟩)
      rw [show ((L + 1 : Nat) : Int) = (L : Int) + 1 from by omega] at CF
      have hfc := fork_count f a g b h (L + 1)
      have CB := Lib.hid (fun (w' : World) (fb : Nat) (hw : Below w.heap.size w w') (hn : N.At w' D (forkN f a g b h (L + 1)) (ifp 308 fb)) => show Calls Tryz.prog 253 #[.int .u32 ((2 ^ chunkM g L : Nat) : Int), .slice (some ⟨w'.heap.size, 0, none⟩) 1 1] (w'.alloc (.cells #[ifp 308 fb] 42)) _ from
        nodeBranch (w'.alloc (.cells #[ifp 308 fb] 42)) D (fun j hj => hD j (by have := hw.size; simp at hj; omega)) (m := 2 ^ chunkM g L) (ks := [forkN f a g b h (L + 1)]) (vs := [ifp 308 fb]) (IsVs.row (D := fun _ => True) (b := w'.heap.size) (heap_alloc_new w' _) trivial (by simp [maxLen])) (ats1 (hn.below ((Below.refl _ _).alloc (Nat.le_refl _) _))) (pow_lt32 hcg) (by show 1 = (bitsOf _).length; rw [bits1 hcg]; rfl) (by simp) (by rw [counts1]; omega))
      have HB := Lib.hid hb0
      have g5 : IntKind.i64.wrap ((L : Int) + 1) = (L : Int) + 1 := IntWalk.i64_in _ (by omega)
      generalize chunkM g L = c at *
      generalize forkN f a g b h (L + 1) = fn at *
      generalize 2 ^ c = q at *
      clear ha hb hD hb0 hfc e h3
      go_enter Tryz.func185, Tryz.ntmps185
      go_wp2_with first
        | (go_at_call 104; first | (((with_reducible refine (CG.out _).mono ?_)); rintro e w1 ⟨rfl, rfl⟩) | (((with_reducible refine (CH.out _).mono ?_)); rintro e w1 ⟨rfl, rfl⟩) | fail)
        | (go_at_call 254; ((with_reducible refine (CO.out).mono ?_)); rintro e w1 ⟨rfl, rfl⟩)
        | (go_at_call 185; ((with_reducible refine (CF.out).mono ?_)); rintro e w2 ⟨fb, rfl, hn2, hb2⟩; have HN2 := Lib.hid hn2; have HB2 := Lib.hid (HB.out.trans (hb2.mono HB.out.size)); clear hn2 hb2)
        | (go_at_call 253; ((with_reducible refine (CB.out _ _ HB2.out HN2.out).mono ?_)); rintro e w3 ⟨rb, rfl, hn3, hb3⟩; have HN3 := Lib.hid hn3; have HB3 := Lib.hid hb3; clear hn3 hb3)
      go_ret
      exact ⟨_, rfl, HN3.out, (HB2.out.alloc HB2.out.size _).trans (HB3.out.mono (by have := HB2.out.size; simp; omega))⟩
    · rw [if_neg e]
      by_cases e2 : chunkM h L < chunkM g L
      · rw [if_pos e2]
        have hbt : bitsOf (2 ^ chunkM g L ||| 2 ^ chunkM h L) = [chunkM h L, chunkM g L] := by rw [Nat.or_comm]; exact bits2 e2 hcg
        have hm := Nat.or_lt_two_pow (n := 32) (pow_lt32 hcg) (pow_lt32 hch)
        have CO := Lib.hid (bitsOf2 (w.alloc (.cells #[.int .i64 (chunkM g L : Int), .int .i64 (chunkM h L : Int)] 3)) w.heap.size (chunkM g L) (chunkM h L) hcg hch (cell_of_row _ _ 0 _ _ (0, 0) (heap_alloc_new w _)) (cell_of_row _ _ 1 _ _ (0, 0) (heap_alloc_new w _)))
        have hb0 : Below w.heap.size w ((w.alloc (.cells #[.int .i64 (chunkM g L : Int), .int .i64 (chunkM h L : Int)] 3)).alloc (.cells #[ifp tb bb, ifp ta ba] 42)) := ((Below.refl _ w).alloc (Nat.le_refl _) _).alloc (by simp) _
        have CB := Lib.hid (show Calls Tryz.prog 253 #[.int .u32 ((2 ^ chunkM g L ||| 2 ^ chunkM h L : Nat) : Int), .slice (some ⟨w.heap.size + 1, 0, none⟩) 2 2] ((w.alloc (.cells #[.int .i64 (chunkM g L : Int), .int .i64 (chunkM h L : Int)] 3)).alloc (.cells #[ifp tb bb, ifp ta ba] 42)) _ from nodeBranch ((w.alloc (.cells #[.int .i64 (chunkM g L : Int), .int .i64 (chunkM h L : Int)] 3)).alloc (.cells #[ifp tb bb, ifp ta ba] 42)) D (fun j hj => hD j (by simp at hj; omega)) (m := 2 ^ chunkM g L ||| 2 ^ chunkM h L) (ks := [b, a]) (vs := [ifp tb bb, ifp ta ba]) (IsVs.row (D := fun _ => True) (b := w.heap.size + 1) (heap_alloc2_new w _ _) trivial (by simp [maxLen])) (ats2 (hb.below hb0) (ha.below hb0)) hm (by show 2 = (bitsOf _).length; rw [hbt]; rfl) (by simp) (by rw [counts2]; omega))
        have HB := Lib.hid hb0
        have g0 : ((chunkM g L : Int) == (chunkM h L : Int)) = false := by rw [beq_eq_false_iff_ne]; omega
        have g1 : (chunkM h L : Int) < (chunkM g L : Int) := by omega
        have g2 : decide (chunkM h L < chunkM g L) = true := by simpa using e2
        clear ha hb hD hb0 hbt h3 e
        generalize chunkM g L = c at *
        generalize chunkM h L = d at *
        go_enter Tryz.func185, Tryz.ntmps185
        go_wp2_with first
          | (go_at_call 104; first | (((with_reducible refine (CG.out _).mono ?_)); rintro e w1 ⟨rfl, rfl⟩) | (((with_reducible refine (CH.out _).mono ?_)); rintro e w1 ⟨rfl, rfl⟩) | fail)
          | (go_at_call 254; ((with_reducible refine (CO.out).mono ?_)); rintro e w1 ⟨rfl, rfl⟩)
          | (go_at_call 253; ((with_reducible refine (CB.out).mono ?_)); rintro e w3 ⟨rb, rfl, hn3, hb3⟩; have HN3 := Lib.hid hn3; have HB3 := Lib.hid hb3; clear hn3 hb3)
        go_ret
        exact ⟨_, rfl, HN3.out, HB.out.trans (HB3.out.mono HB.out.size)⟩
      · rw [if_neg e2]
        have e3 : chunkM g L < chunkM h L := by omega
        have hbt : bitsOf (2 ^ chunkM g L ||| 2 ^ chunkM h L) = [chunkM g L, chunkM h L] := bits2 e3 hch
        have hm := Nat.or_lt_two_pow (n := 32) (pow_lt32 hcg) (pow_lt32 hch)
        have CO := Lib.hid (bitsOf2 (w.alloc (.cells #[.int .i64 (chunkM g L : Int), .int .i64 (chunkM h L : Int)] 3)) w.heap.size (chunkM g L) (chunkM h L) hcg hch (cell_of_row _ _ 0 _ _ (0, 0) (heap_alloc_new w _)) (cell_of_row _ _ 1 _ _ (0, 0) (heap_alloc_new w _)))
        have hb0 : Below w.heap.size w ((w.alloc (.cells #[.int .i64 (chunkM g L : Int), .int .i64 (chunkM h L : Int)] 3)).alloc (.cells #[ifp ta ba, ifp tb bb] 42)) := ((Below.refl _ w).alloc (Nat.le_refl _) _).alloc (by simp) _
        have CB := Lib.hid (show Calls Tryz.prog 253 #[.int .u32 ((2 ^ chunkM g L ||| 2 ^ chunkM h L : Nat) : Int), .slice (some ⟨w.heap.size + 1, 0, none⟩) 2 2] ((w.alloc (.cells #[.int .i64 (chunkM g L : Int), .int .i64 (chunkM h L : Int)] 3)).alloc (.cells #[ifp ta ba, ifp tb bb] 42)) _ from nodeBranch ((w.alloc (.cells #[.int .i64 (chunkM g L : Int), .int .i64 (chunkM h L : Int)] 3)).alloc (.cells #[ifp ta ba, ifp tb bb] 42)) D (fun j hj => hD j (by simp at hj; omega)) (m := 2 ^ chunkM g L ||| 2 ^ chunkM h L) (ks := [a, b]) (vs := [ifp ta ba, ifp tb bb]) (IsVs.row (D := fun _ => True) (b := w.heap.size + 1) (heap_alloc2_new w _ _) trivial (by simp [maxLen])) (ats2 (ha.below hb0) (hb.below hb0)) hm (by show 2 = (bitsOf _).length; rw [hbt]; rfl) (by simp) (by rw [counts2]; omega))
        have HB := Lib.hid hb0
        have g0 : ((chunkM g L : Int) == (chunkM h L : Int)) = false := by rw [beq_eq_false_iff_ne]; omega
        have g1 : ¬ (chunkM h L : Int) < (chunkM g L : Int) := by omega
        have g2 : decide (chunkM h L < chunkM g L) = false := by simpa using e2
        clear ha hb hD hb0 hbt h3 e
        generalize chunkM g L = c at *
        generalize chunkM h L = d at *
        go_enter Tryz.func185, Tryz.ntmps185
        go_wp2_with first
          | (go_at_call 104; first | (((with_reducible refine (CG.out _).mono ?_)); rintro e w1 ⟨rfl, rfl⟩) | (((with_reducible refine (CH.out _).mono ?_)); rintro e w1 ⟨rfl, rfl⟩) | fail)
          | (go_at_call 254; ((with_reducible refine (CO.out).mono ?_)); rintro e w1 ⟨rfl, rfl⟩)
          | (go_at_call 253; ((with_reducible refine (CB.out).mono ?_)); rintro e w3 ⟨rb, rfl, hn3, hb3⟩; have HN3 := Lib.hid hn3; have HB3 := Lib.hid hb3; clear hn3 hb3)
        go_ret
        exact ⟨_, rfl, HN3.out, HB.out.trans (HB3.out.mono HB.out.size)⟩
end Go.Proofs.YtmbiiemlepfoaaaGreatDoor

/-! The walks of Kind, (*Tree).Put, graft.put into: of a leaf, of a bucket. -/
namespace Go.Proofs.YtmbiiemlepfoaaaGreatDoor
open Go.RowKit
set_option linter.unusedVariables false

theorem kindLeaf (w : World) (a : Option Addr) : Calls Tryz.prog 366 #[.pointer a] w fun e w' => e = .returned (.int .i64 1) ∧ w = w' := by
  go_enter Tryz.func366, Tryz.ntmps366
  go_wp2
  go_ret
  exact ⟨rfl, rfl⟩
theorem kindBucket (w : World) (a : Option Addr) : Calls Tryz.prog 368 #[.pointer a] w fun e w' => e = .returned (.int .i64 2) ∧ w = w' := by
  go_enter Tryz.func368, Tryz.ntmps368
  go_wp2
  go_ret
  exact ⟨rfl, rfl⟩
theorem kindBranch (w : World) (a : Option Addr) : Calls Tryz.prog 370 #[.pointer a] w fun e w' => e = .returned (.int .i64 3) ∧ w = w' := by
  go_enter Tryz.func370, Tryz.ntmps370
  go_wp2
  go_ret
  exact ⟨rfl, rfl⟩

/-- A pair that a reader may have anywhere, but no meter. -/
structure InP (w : World) (mb : Option Nat) (kp vp : Option Addr) (kc vc : Nat) (k v : List UInt8) : Prop where
  ik : IsD w (fun j => mb ≠ some j) kp kc k
  iv : IsD w (fun j => mb ≠ some j) vp vc v
  kl : k.length ≤ 1000000
  vl : v.length ≤ 1000000
theorem Off.ne (mb : Option Nat) : Off (fun j => mb ≠ some j) mb := fun b e h => h e
theorem InP.grown {w w' : World} {mb : Option Nat} {kp vp : Option Addr} {kc vc : Nat} {k v : List UInt8} (h : InP w mb kp vp kc vc k v) (hg : w.grownBy w' mb) : InP w' mb kp vp kc vc k v := ⟨h.ik.grown (Off.ne mb) hg, h.iv.grown (Off.ne mb) hg, h.kl, h.vl⟩

set_option maxHeartbeats 1000000 in
set_option maxRecDepth 100000 in
theorem treePut (w : World) (D : Nat → Prop) (hD : ∀ j, w.heap.size ≤ j → D j) {mb : Option Nat} (ho : Off D mb) {vi c : Nat} (hm : Met w mb vi c) {t : T} (hb : t.Bal) (hsz : t.size < 1048576) (hvi : vi + t.size < 1000000000000) (hc : c + t.size < 1000000000000) {p kp vp : Option Addr} {kc vc : Nat} {k v : List UInt8} (ht : TreeAt w D p t) (hi : InP w mb kp vp kc vc k v) :
    Calls Tryz.prog 20 #[.pointer p, pairV kp kc k vp vc v, .pointer (mptr mb)] w (PutR D k v t mb vi c w) := by
  obtain ⟨W2, hW2⟩ : ∃ x, x = w.alloc (.cells #[.slice kp k.length kc, .slice vp v.length vc] 61) := ⟨_, rfl⟩
  have hB : Below w.heap.size w W2 := by rw [hW2]; exact (Below.refl _ w).alloc (Nat.le_refl _) _
  have hD2 : ∀ w', Below w.heap.size w w' → ∀ j, w'.heap.size ≤ j → D j := fun w' hw j hj => hD j (Nat.le_trans hw.size hj)
  have hkl := hi.kl
  have hvl := hi.vl
  have CO := Lib.hid (treeOwn W2 D (hD2 W2 hB) (hi.ik.b.below hB) (hi.iv.b.below hB) (by omega) (by omega))
  have CP := Lib.hid (show ∀ w' kp kc vp vc, Below w.heap.size w w' → IsD w' D kp kc k → IsD w' D vp vc v → Calls Tryz.prog 62 #[.pointer p, pairV kp kc k vp vc v, .pointer (mptr mb)] w' _ from fun w' kp kc vp vc hw h1 h2 => treePutP D ho t hb hsz w' (hD2 w' hw) vi c (hm.below hw) hvi hc p kp vp kc vc (ht.below hw) h1 h2)
  have HB := Lib.hid hB
  clear hB hi ht hm hD hD2 hb
  go_enter Tryz.func20, Tryz.ntmps20
  go_wp2_with fail
  rw [← hW2]
  clear hW2
  go_wp2_with first
    | (go_at_call 63; ((with_reducible refine (CO.out).mono ?_)); rintro e w3 ⟨kp3, kc3, vp3, vc3, rfl, hk3, hv3, hb3⟩; have HK3 := Lib.hid hk3; have HV3 := Lib.hid hv3; have HB3 := Lib.hid (HB.out.trans (hb3.mono HB.out.size)); clear hk3 hv3 hb3)
    | (go_at_call 62; ((with_reducible refine (CP.out _ _ _ _ _ HB3.out HK3.out HV3.out).mono ?_)); rintro e w4 ⟨b4, rfl, ht4, hm4, hg4⟩; have HT4 := Lib.hid ht4; have HM4 := Lib.hid hm4; have HG4 := Lib.hid hg4; clear ht4 hm4 hg4)
  go_ret
  exact ⟨_, rfl, HT4.out, HM4.out, grown_trans (grown_of_below HB3.out mb) HG4.out⟩

abbrev putV (h : Nat) (kp : Option Addr) (kc : Nat) (k : List UInt8) (vp : Option Addr) (vc : Nat) (v : List UInt8) (mb : Option Nat) : Value := .agg #[.int .u64 (h : Int), .slice kp k.length kc, .slice vp v.length vc, .pointer (mptr mb)]
abbrev putRow (h : Nat) (kp : Option Addr) (kc : Nat) (k : List UInt8) (vp : Option Addr) (vc : Nat) (v : List UInt8) (mb : Option Nat) : Obj := .cells #[.int .u64 (h : Int), .slice kp k.length kc, .slice vp v.length vc, .pointer (mptr mb)] 235
def IntoR (D : Nat → Prop) (r : N × Bool) (mb : Option Nat) (vi c : Nat) (w : World) (e : Ending) (w' : World) : Prop := ∃ t a, e = .returned (.tuple #[ifp t a, .bool r.2]) ∧ N.At w' D r.1 (ifp t a) ∧ Met w' mb vi c ∧ w.grownBy w' mb

set_option maxHeartbeats 1000000 in
set_option maxRecDepth 100000 in
theorem intoNil (w : World) (D : Nat → Prop) (hD : ∀ j, w.heap.size ≤ j → D j) {mb : Option Nat} {vi c h L : Nat} (hm : Met w mb vi c) {kp vp : Option Addr} {kc vc : Nat} {k v : List UInt8} (hi : InP w mb kp vp kc vc k v) :
    Calls Tryz.prog 108 #[putV h kp kc k vp vc v mb, .nilIface, .int .i64 (L : Int)] w (IntoR D (.leaf h k v, true) mb vi c w) := by
  obtain ⟨W2, hW2⟩ : ∃ x, x = w.alloc (putRow h kp kc k vp vc v mb) := ⟨_, rfl⟩
  have hB : Below w.heap.size w W2 := by rw [hW2]; exact (Below.refl _ w).alloc (Nat.le_refl _) _
  have hkl := hi.kl
  have hvl := hi.vl
  have CL := Lib.hid (nodeLeaf W2 D (fun j hj => hD j (Nat.le_trans hB.size hj)) h (hi.ik.b.below hB) (hi.iv.b.below hB) (by omega) (by omega))
  have HB := Lib.hid hB
  have HM := Lib.hid hm
  clear hB hi hD hm
  go_enter Tryz.func108, Tryz.ntmps108
  go_wp2_with fail
  rw [← hW2]
  clear hW2
  go_wp2_with (go_at_call 183; ((with_reducible refine (CL.out).mono ?_)); rintro e w3 ⟨t3, b3, rfl, hn3, hb3⟩; have HN3 := Lib.hid hn3; have HB3 := Lib.hid (HB.out.trans (hb3.mono HB.out.size)); clear hn3 hb3)
  go_ret2
  exact ⟨_, _, rfl, HN3.out, HM.out.below HB3.out, grown_of_below HB3.out mb⟩
end Go.Proofs.YtmbiiemlepfoaaaGreatDoor

/-! The walk of graft.put into: of a leaf. -/
namespace Go.Proofs.YtmbiiemlepfoaaaGreatDoor
open Go.RowKit
set_option linter.unusedVariables false

structure PutAt (W : World) (w0 : Nat) (mb : Option Nat) (h : Nat) (kp : Option Addr) (kc : Nat) (k : List UInt8) (vp : Option Addr) (vc : Nat) (v : List UInt8) : Prop where
  h : W.cell? ⟨w0, 0, none⟩ = some (.int .u64 (h : Int))
  k : W.cell? ⟨w0, 1, none⟩ = some (.slice kp k.length kc)
  v : W.cell? ⟨w0, 2, none⟩ = some (.slice vp v.length vc)
  m : W.cell? ⟨w0, 3, none⟩ = some (.pointer (mptr mb))
theorem putAt_of {W : World} {w0 : Nat} {mb : Option Nat} {h : Nat} {kp : Option Addr} {kc : Nat} {k : List UInt8} {vp : Option Addr} {vc : Nat} {v : List UInt8} (hr : W.heap[w0]? = some (putRow h kp kc k vp vc v mb)) :
    W.cell? ⟨w0, 0, none⟩ = some (.int .u64 (h : Int)) ∧ W.cell? ⟨w0, 1, none⟩ = some (.slice kp k.length kc) ∧ W.cell? ⟨w0, 2, none⟩ = some (.slice vp v.length vc) ∧ W.cell? ⟨w0, 3, none⟩ = some (.pointer (mptr mb)) :=
  ⟨cell_of_row W w0 0 _ _ (0, 0) hr, cell_of_row W w0 1 _ _ (0, 0) hr, cell_of_row W w0 2 _ _ (0, 0) hr, cell_of_row W w0 3 _ _ (0, 0) hr⟩
theorem nil42 (t : Nat) (v : Value) (w : World) : (binOp .eql 42 (.iface t v) .nilIface).run Tryz.prog w = .ok (.bool false) w := by kernel_rfl

set_option maxHeartbeats 2000000 in
set_option maxRecDepth 100000 in
theorem intoLeafFork (w : World) (D : Nat → Prop) (hD : ∀ j, w.heap.size ≤ j → D j) {mb : Option Nat} (ho : Off D mb) {vi c g h L b : Nat} (hm : Met w mb vi c) (hvi : vi < 999999999999) {kp vp : Option Addr} {kc vc : Nat} {k v k' v' : List UInt8} (hi : InP w mb kp vp kc vc k v)
    (hx : N.At w D (.leaf g k' v') (ifp 223 b)) (hg : g < 18446744073709551616) (hh : h < 18446744073709551616) (hne : g ≠ h) (hL : L ≤ 13) (hp : ∃ j, L ≤ j ∧ j < 13 ∧ chunkM g j ≠ chunkM h j) :
    Calls Tryz.prog 108 #[putV h kp kc k vp vc v mb, ifp 223 b, .int .i64 (L : Int)] w (IntoR D (forkN (13 - L) (.leaf g k' v') g (.leaf h k v) h L, true) mb (vi + 1) c w) := by
  obtain ⟨W2, hW2⟩ : ∃ x, x = w.alloc (putRow h kp kc k vp vc v mb) := ⟨_, rfl⟩
  have hB : Below w.heap.size w W2 := by rw [hW2]; exact (Below.refl _ w).alloc (Nat.le_refl _) _
  have r0 : W2.heap[w.heap.size]? = some (putRow h kp kc k vp vc v mb) := by rw [hW2]; exact heap_alloc_new _ _
  have hml := hm.lt
  have n0 : mb ≠ some w.heap.size := fun e => by have := hml _ e; omega
  have hgB := grown_of_below hB mb
  have HC := Lib.hid (show ∀ w', W2.grownBy w' mb → (w'.cell? ⟨w.heap.size, 0, none⟩ = some (.int .u64 (h : Int)) ∧ w'.cell? ⟨w.heap.size, 1, none⟩ = some (.slice kp k.length kc) ∧ w'.cell? ⟨w.heap.size, 2, none⟩ = some (.slice vp v.length vc) ∧ w'.cell? ⟨w.heap.size, 3, none⟩ = some (.pointer (mptr mb))) from fun w' hg => putAt_of (grown_row hg r0 n0))
  have up : ∀ w', W2.grownBy w' mb → w.grownBy w' mb := fun w' hg => grown_trans hgB hg
  have hD' : ∀ w', W2.grownBy w' mb → ∀ j, w'.heap.size ≤ j → D j := fun w' hg j hj => hD j (Nat.le_trans (up w' hg).size hj)
  have hkl := hi.kl
  have hvl := hi.vl
  have CV := Lib.hid (metVisit W2 (hm.below hB) (by omega))
  have CH := Lib.hid (show ∀ w', W2.grownBy w' mb → Calls Tryz.prog 44 #[ifp 223 b] w' (fun e w'' => e = .returned (.tuple #[.int .u64 (g : Int), .bool true]) ∧ w' = w'') from fun w' hg => nodeHash w' (hx.grown ho (up w' hg)))
  have CL := Lib.hid (show ∀ w', W2.grownBy w' mb → Calls Tryz.prog 183 #[.int .u64 (h : Int), pairV kp kc k vp vc v] w' _ from fun w' hg => nodeLeaf w' D (hD' w' hg) h (hi.grown (up w' hg)).ik.b (hi.grown (up w' hg)).iv.b (by omega) (by omega))
  have CF := Lib.hid (show ∀ w' tb bb, W2.grownBy w' mb → N.At w' D (.leaf h k v) (ifp tb bb) → Calls Tryz.prog 185 #[ifp 223 b, .int .u64 (g : Int), ifp tb bb, .int .u64 (h : Int), .int .i64 (L : Int)] w' _ from fun w' tb bb hg' hb => graftFork D hg hh (by simp [N.count]) (13 - L) L w' (hD' w' hg') (hx.grown ho (up w' hg')) hb (by omega) hp)
  have UP := Lib.hid up
  have q0 := mKind223
  have q1 := kindLeaf
  have q2 := nil42
  have hg0 := grown_rfl W2 mb
  have g0 : ((g : Int) != (h : Int)) = true := by simp; omega
  clear hi hx hm hD hD' up hp hB hgB r0
  go_enter Tryz.func108, Tryz.ntmps108
  go_wp2_with fail
  rw [← hW2]
  clear hW2
  obtain ⟨s0, s1, s2, s3⟩ := HC.out _ hg0
  go_wp2_with first
    | (go_at_call 366; ((with_reducible refine (q1 _ _).mono ?_)); rintro e w1 ⟨rfl, rfl⟩)
    | (go_at_call 46; ((with_reducible refine (CV.out).mono ?_)); rintro e w1 ⟨rfl, hm1, hg1⟩; have HM1 := Lib.hid hm1; clear hm1; obtain ⟨t0, t1, t2, t3⟩ := HC.out _ hg1)
    | (go_at_call 44; ((with_reducible refine (CH.out _ hg1).mono ?_)); rintro e w2 ⟨rfl, rfl⟩)
  have hg3 := grown_step hg1 (grown_dr _ _)
  go_region_held3 (fun w' => w'.cell? ⟨w.heap.size, 0, none⟩ = some (.int .u64 (h : Int)) ∧ w'.cell? ⟨w.heap.size, 1, none⟩ = some (.slice kp k.length kc) ∧ w'.cell? ⟨w.heap.size, 2, none⟩ = some (.slice vp v.length vc))
    (first | exact ⟨(HC.out _ (by assumption)).1, (HC.out _ (by assumption)).2.1, (HC.out _ (by assumption)).2.2.1⟩ | fail)
    (first | (go_at_call 183; ((with_reducible refine (CL.out _ hg3).mono ?_)); rintro e w4 ⟨t4, b4, rfl, hn4, hb4⟩; have HN4 := Lib.hid hn4; have HB4 := Lib.hid hb4; have hg4 := grown_step hg3 (grown_of_below hb4 mb); clear hn4 hb4) | (go_at_call 185; ((with_reducible refine (CF.out _ _ _ hg4 HN4.out).mono ?_)); rintro e w5 ⟨b5, rfl, hn5, hb5⟩; have HN5 := Lib.hid hn5; have HB5 := Lib.hid hb5; have hg5 := grown_step hg4 (grown_of_below hb5 mb); clear hn5 hb5) | fail)
  go_wp2
  go_ret2
  exact ⟨308, _, rfl, HN5.out, (HM1.out.dr.below HB4.out).below HB5.out, UP.out _ hg5⟩
end Go.Proofs.YtmbiiemlepfoaaaGreatDoor

/-! The walk of graft.put into: of a leaf of the same hash. -/
namespace Go.Proofs.YtmbiiemlepfoaaaGreatDoor
open Go.RowKit
set_option linter.unusedVariables false

theorem grown_new {W w1 w3 : World} {mb : Option Nat} (hg : W.grownBy w1 mb) (hb : Below w1.heap.size w1 w3) (o : Obj) : W.grownBy (w3.alloc o) mb := grown_trans (grown_trans hg (grown_of_below hb mb)) (grown_of_below ((Below.refl _ _).alloc (Nat.le_refl _) o) mb)
theorem bucket_some {h : Nat} {t : T} (h2 : 2 ≤ t.size) : bucketN h t = some (.bucket h t) := by
  cases t with
  | nil => simp [T.size] at h2
  | node l k v r =>
    rw [T.size_node] at h2
    unfold bucketN
    dsimp only
    rw [if_neg (by omega)]
theorem putT_small {k v : List UInt8} {t : T} (hb : t.Bal) (hk : k.length ≤ 1000000) (hv : v.length ≤ 1000000) (ht : ∀ x ∈ t.list, x.1.length ≤ 1000000 ∧ x.2.length ≤ 1000000) : (putT k v t).Small := fun x hx => by
  rcases putT_list_mem hb x hx with h1 | h1
  · subst h1; dsimp only; omega
  · have := ht x h1; omega
theorem nodeBucket2 (w : World) (D : Nat → Prop) (hD : ∀ j, w.heap.size ≤ j → D j) (h : Nat) {p : Option Addr} {t : T} (ht : TreeAt w D p t) (hsm : t.Small) (hsz : t.size < 1152921504606846976) (h2 : 2 ≤ t.size) :
    Calls Tryz.prog 182 #[.int .u64 (h : Int), .pointer p] w (fun e w' => ∃ a, e = .returned (ifp 226 a) ∧ N.At w' D (.bucket h t) (ifp 226 a) ∧ Below w.heap.size w w') := by
  refine (nodeBucket w D hD h ht hsm hsz).mono ?_
  rintro e w' ⟨v, rfl, hn, hb⟩
  rw [bucket_some h2] at hn
  obtain ⟨a, rfl, _⟩ := N.At.form hn
  exact ⟨a, rfl, hn, hb⟩
set_option maxHeartbeats 2000000 in
set_option maxRecDepth 100000 in
theorem intoLeafSame (w : World) (D : Nat → Prop) (hD : ∀ j, w.heap.size ≤ j → D j) {mb : Option Nat} (ho : Off D mb) {vi c h L b : Nat} (hm : Met w mb vi c) (hvi : vi < 999999999999) (hci : c < 999999999999) {kp vp : Option Addr} {kc vc : Nat} {k v k' v' : List UInt8} (hi : InP w mb kp vp kc vc k v)
    (hx : N.At w D (.leaf h k' v') (ifp 223 b)) (hkl' : k'.length ≤ 1000000) (hvl' : v'.length ≤ 1000000) (hh : h < 18446744073709551616) {r : N × Bool} (hr0 : Lib.compareBytes k k' = 0 → r = (.leaf h k v, false)) (hr1 : Lib.compareBytes k k' ≠ 0 → r = (.bucket h (putT k v (fromT [(k', v')])), true)) :
    Calls Tryz.prog 108 #[putV h kp kc k vp vc v mb, ifp 223 b, .int .i64 (L : Int)] w (IntoR D r mb (vi + 1) (c + 1) w) := by
  obtain ⟨W2, hW2⟩ : ∃ x, x = w.alloc (putRow h kp kc k vp vc v mb) := ⟨_, rfl⟩
  have hB : Below w.heap.size w W2 := by rw [hW2]; exact (Below.refl _ w).alloc (Nat.le_refl _) _
  have r0 : W2.heap[w.heap.size]? = some (putRow h kp kc k vp vc v mb) := by rw [hW2]; exact heap_alloc_new _ _
  have hml := hm.lt
  have n0 : mb ≠ some w.heap.size := fun e => by have := hml _ e; omega
  have hgB := grown_of_below hB mb
  have HC := Lib.hid (show ∀ w', W2.grownBy w' mb → (w'.cell? ⟨w.heap.size, 0, none⟩ = some (.int .u64 (h : Int)) ∧ w'.cell? ⟨w.heap.size, 1, none⟩ = some (.slice kp k.length kc) ∧ w'.cell? ⟨w.heap.size, 2, none⟩ = some (.slice vp v.length vc) ∧ w'.cell? ⟨w.heap.size, 3, none⟩ = some (.pointer (mptr mb))) from fun w' hg => putAt_of (grown_row hg r0 n0))
  have up : ∀ w', W2.grownBy w' mb → w.grownBy w' mb := fun w' hg => grown_trans hgB hg
  have hD' : ∀ w', W2.grownBy w' mb → ∀ j, w'.heap.size ≤ j → D j := fun w' hg j hj => hD j (Nat.le_trans (up w' hg).size hj)
  have hkl := hi.kl
  have hvl := hi.vl
  have CV := Lib.hid (metVisit W2 (hm.below hB) (by omega))
  have CH := Lib.hid (show ∀ w', W2.grownBy w' mb → Calls Tryz.prog 44 #[ifp 223 b] w' (fun e w'' => e = .returned (.tuple #[.int .u64 (h : Int), .bool true]) ∧ w' = w'') from fun w' hg => nodeHash w' (hx.grown ho (up w' hg)))
  have CL := Lib.hid (show ∀ w', W2.grownBy w' mb → Calls Tryz.prog 183 #[.int .u64 (h : Int), pairV kp kc k vp vc v] w' _ from fun w' hg => nodeLeaf w' D (hD' w' hg) h (hi.grown (up w' hg)).ik.b (hi.grown (up w' hg)).iv.b (by omega) (by omega))
  have CP := Lib.hid (show ∀ w', W2.grownBy w' mb → Calls Tryz.prog 45 #[ifp 223 b] w' (fun e w'' => ∃ kp kc vp vc, e = .returned (.tuple #[pairV kp kc k' vp vc v', .bool true]) ∧ IsD w'' D kp kc k' ∧ IsD w'' D vp vc v' ∧ Below w'.heap.size w' w'') from fun w' hg => nodePairLeaf w' D (hD' w' hg) (hx.grown ho (up w' hg)) (by omega) (by omega))
  have CC := Lib.hid (show ∀ w' p q, W2.grownBy w' mb → Met w' mb (vi + 1) c → IsD w' D p q k' → Calls Tryz.prog 47 #[.pointer (mptr mb), .slice kp k.length kc, .slice p k'.length q] w' _ from fun w' p q hg hmm hk' => metCompare w' hmm (by omega) (Off.ne mb) ho (hi.grown (up w' hg)).ik hk')
  have CFr := Lib.hid (show ∀ w' p, W2.grownBy w' mb → IsPs w' (fun _ => True) p 1 [(k', v')] → Calls Tryz.prog 93 #[.slice p 1 1] w' _ from fun w' p hg hps => treeFrom D (fun _ => True) 1 [(k', v')] (Nat.le_refl _) (fun x hx => by simp at hx; subst hx; dsimp only; omega) (by simp) w' (hD' w' hg) p 1 hps)
  have CPu := Lib.hid (show ∀ w' p, W2.grownBy w' mb → TreeAt w' D p (fromT [(k', v')]) → Calls Tryz.prog 20 #[.pointer p, pairV kp kc k vp vc v, .pointer none] w' (PutR D k v (fromT [(k', v')]) none 0 0 w') from fun w' p hg ht => treePut w' D (hD' w' hg) (mb := none) (Off.none_ D) (Met.none_ w' 0 0) (from_bal _) (by rw [from_size]; simp) (by rw [from_size]; simp) (by rw [from_size]; simp) ht (have h1 := hi.grown (up w' hg); ⟨h1.ik.mono fun j _ _ e => by simp at e, h1.iv.mono fun j _ _ e => by simp at e, hkl, hvl⟩))
  have CB := Lib.hid (show ∀ w' p, Lib.compareBytes k k' ≠ 0 → W2.grownBy w' mb → TreeAt w' D p (putT k v (fromT [(k', v')])) → Calls Tryz.prog 182 #[.int .u64 (h : Int), .pointer p] w' _ from fun w' p hne hg ht => nodeBucket2 w' D (hD' w' hg) h ht (putT_small (from_bal _) hkl hvl (fun x hx => by rw [from_list] at hx; simp at hx; subst hx; exact ⟨hkl', hvl'⟩)) (by rw [put_one hne]; decide) (by rw [put_one hne]; exact Nat.le_refl _))
  have UP := Lib.hid up
  have HR0 := Lib.hid hr0
  have HR1 := Lib.hid hr1
  have q0 := mKind223
  have q1 := kindLeaf
  have q2 := nil42
  have hg0 := grown_rfl W2 mb
  clear hi hx hm hD hD' up hB hgB r0 hr0 hr1
  generalize hx : Lib.compareBytes k k' = x at *
  go_enter Tryz.func108, Tryz.ntmps108
  go_wp2_with fail
  rw [← hW2]
  clear hW2
  obtain ⟨s0, s1, s2, s3⟩ := HC.out _ hg0
  by_cases hx0 : x = 0
  · subst hx0
    have hr := HR0.out rfl
    go_wp2_with first
      | (go_at_call 366; ((with_reducible refine (q1 _ _).mono ?_)); rintro e w1 ⟨rfl, rfl⟩)
      | (go_at_call 46; ((with_reducible refine (CV.out).mono ?_)); rintro e w1 ⟨rfl, hm1, hg1⟩; have HM1 := Lib.hid hm1; clear hm1; obtain ⟨t0, t1, t2, t3⟩ := HC.out _ hg1)
      | (go_at_call 44; ((with_reducible refine (CH.out _ hg1).mono ?_)); rintro e w2 ⟨rfl, rfl⟩)
      | (go_at_call 45; ((with_reducible refine (CP.out _ hg1).mono ?_)); rintro e w3 ⟨kp3, kc3, vp3, vc3, rfl, hk3, hv3, hb3⟩; have HK3 := Lib.hid hk3; have HV3 := Lib.hid hv3; have hg5 := grown_new hg1 hb3 (.cells #[.slice kp3 k'.length kc3, .slice vp3 v'.length vc3] 61); obtain ⟨u0, u1, u2, u3⟩ := HC.out _ hg5; have HM5 := Lib.hid ((HM1.out.below hb3).below ((Below.refl _ _).alloc (Nat.le_refl _) (.cells #[.slice kp3 k'.length kc3, .slice vp3 v'.length vc3] 61))); have HK5 := Lib.hid (HK3.out.below ((Below.refl _ _).alloc (Nat.le_refl _) (.cells #[.slice kp3 k'.length kc3, .slice vp3 v'.length vc3] 61))); have HV5 := Lib.hid (HV3.out.below ((Below.refl _ _).alloc (Nat.le_refl _) (.cells #[.slice kp3 k'.length kc3, .slice vp3 v'.length vc3] 61))); have n3 := Lib.hid (show mb ≠ some w3.heap.size from fun e => by have := (HM1.out.below hb3).lt _ e; omega); clear hk3 hv3 hb3)
      | (go_at_call 47; ((with_reducible refine (CC.out _ _ _ hg5 HM5.out HK5.out).mono ?_)); rintro e w6 ⟨rfl, hm6, hg6⟩; have HM6 := Lib.hid hm6; have hg6' := grown_step hg5 hg6; clear hm6; obtain ⟨x0, x1, x2, x3⟩ := HC.out _ hg6')
      | (go_at_call 183; ((with_reducible refine (CL.out _ hg6').mono ?_)); rintro e w7 ⟨t7, b7, rfl, hn7, hb7⟩; have HN7 := Lib.hid hn7; have HB7 := Lib.hid hb7; clear hn7 hb7)
    go_ret2
    rw [hr]
    exact ⟨_, _, rfl, HN7.out, HM6.out.below HB7.out, UP.out _ (grown_step hg6' (grown_of_below HB7.out mb))⟩
  · have hr := HR1.out hx0
    have g1 : (x == 0) = false := by simpa using hx0
    go_wp2_with first
      | (go_at_call 366; ((with_reducible refine (q1 _ _).mono ?_)); rintro e w1 ⟨rfl, rfl⟩)
      | (go_at_call 46; ((with_reducible refine (CV.out).mono ?_)); rintro e w1 ⟨rfl, hm1, hg1⟩; have HM1 := Lib.hid hm1; clear hm1; obtain ⟨t0, t1, t2, t3⟩ := HC.out _ hg1)
      | (go_at_call 44; ((with_reducible refine (CH.out _ hg1).mono ?_)); rintro e w2 ⟨rfl, rfl⟩)
      | (go_at_call 45; ((with_reducible refine (CP.out _ hg1).mono ?_)); rintro e w3 ⟨kp3, kc3, vp3, vc3, rfl, hk3, hv3, hb3⟩; have HK3 := Lib.hid hk3; have HV3 := Lib.hid hv3; have hg5 := grown_new hg1 hb3 (.cells #[.slice kp3 k'.length kc3, .slice vp3 v'.length vc3] 61); obtain ⟨u0, u1, u2, u3⟩ := HC.out _ hg5; have HM5 := Lib.hid ((HM1.out.below hb3).below ((Below.refl _ _).alloc (Nat.le_refl _) (.cells #[.slice kp3 k'.length kc3, .slice vp3 v'.length vc3] 61))); have HK5 := Lib.hid (HK3.out.below ((Below.refl _ _).alloc (Nat.le_refl _) (.cells #[.slice kp3 k'.length kc3, .slice vp3 v'.length vc3] 61))); have HV5 := Lib.hid (HV3.out.below ((Below.refl _ _).alloc (Nat.le_refl _) (.cells #[.slice kp3 k'.length kc3, .slice vp3 v'.length vc3] 61))); have n3 := Lib.hid (show mb ≠ some w3.heap.size from fun e => by have := (HM1.out.below hb3).lt _ e; omega); clear hk3 hv3 hb3)
      | (go_at_call 47; ((with_reducible refine (CC.out _ _ _ hg5 HM5.out HK5.out).mono ?_)); rintro e w6 ⟨rfl, hm6, hg6⟩; have HM6 := Lib.hid hm6; have hg6' := grown_step hg5 hg6; clear hm6; obtain ⟨x0, x1, x2, x3⟩ := HC.out _ hg6')
    have HT := Lib.hid (show ∀ w', w6.grownBy w' mb → (w'.cell? ⟨w.heap.size, 0, none⟩ = some (.int .u64 (h : Int)) ∧ w'.cell? ⟨w.heap.size, 1, none⟩ = some (.slice kp k.length kc) ∧ w'.cell? ⟨w.heap.size, 2, none⟩ = some (.slice vp v.length vc) ∧ w'.cell? ⟨w3.heap.size, 0, none⟩ = some (.slice kp3 k'.length kc3) ∧ w'.cell? ⟨w3.heap.size, 1, none⟩ = some (.slice vp3 v'.length vc3)) from fun w' hg => by
      have h1 := HC.out _ (grown_trans hg6' hg)
      have h2 := grown_row hg (grown_row hg6 (heap_alloc_new w3 _) n3.out) n3.out
      exact ⟨h1.1, h1.2.1, h1.2.2.1, cell_of_row w' _ 0 _ _ (0, 0) h2, cell_of_row w' _ 1 _ _ (0, 0) h2⟩)
    have HP := Lib.hid (show IsPs (w6.alloc (.cells #[.slice kp3 k'.length kc3, .slice vp3 v'.length vc3] 61)).drew (fun _ => True) (some ⟨w6.heap.size, 0, none⟩) 1 [(k', v')] from
      IsPs.one (x := (k', v')) (w := (w6.alloc _).drew) (heap_alloc_new w6 _) trivial (((HK5.out.grown ho hg6).below ((Below.refl w6.heap.size w6).alloc (Nat.le_refl _) _).drew).mono fun _ _ _ => trivial) (((HV5.out.grown ho hg6).below ((Below.refl w6.heap.size w6).alloc (Nat.le_refl _) _).drew).mono fun _ _ _ => trivial))
    have hg60 := grown_dr w6 mb
    have hg7 := World.grownBy_alloc w6 (.cells #[.slice kp3 k'.length kc3, .slice vp3 v'.length vc3] 61) mb
    have hg7' := grown_step hg7 (grown_dr _ _)
    go_region_held3 (fun w' => w'.cell? ⟨w.heap.size, 0, none⟩ = some (.int .u64 (h : Int)) ∧ w'.cell? ⟨w.heap.size, 1, none⟩ = some (.slice kp k.length kc) ∧ w'.cell? ⟨w.heap.size, 2, none⟩ = some (.slice vp v.length vc) ∧ w'.cell? ⟨w3.heap.size, 0, none⟩ = some (.slice kp3 k'.length kc3) ∧ w'.cell? ⟨w3.heap.size, 1, none⟩ = some (.slice vp3 v'.length vc3))
      (first | exact HT.out _ (by assumption) | fail)
      (first | (go_at_call 93; ((with_reducible refine (CFr.out _ _ (grown_step hg6' hg7') HP.out).mono ?_)); rintro e w8 ⟨q8, rfl, ht8, hb8⟩; have HT8 := Lib.hid ht8; have HB8 := Lib.hid hb8; have hg8 := grown_step hg7' (grown_of_below hb8 mb); clear ht8 hb8) | (go_at_call 20; ((with_reducible refine (CPu.out _ _ (grown_step hg6' hg8) HT8.out).mono ?_)); rintro e w9 ⟨b9, rfl, ht9, hm9, hg9⟩; have HT9 := Lib.hid ht9; have HB9 := Lib.hid (below_of_grown hg9); have hg9' := grown_step hg8 (grown_of_below (below_of_grown hg9) mb); clear ht9 hm9 hg9) | (go_at_call 182; ((with_reducible refine (CB.out _ _ hx0 (grown_step hg6' hg9') HT9.out).mono ?_)); rintro e w10 ⟨b10, rfl, hn10, hb10⟩; have HN10 := Lib.hid hn10; have HB10 := Lib.hid hb10; have hg10 := grown_step hg9' (grown_of_below hb10 mb); clear hn10 hb10) | fail)
    go_wp2
    go_ret2
    rw [hr]
    exact ⟨_, _, rfl, HN10.out, (((HM6.out.below ((Below.refl w6.heap.size w6).alloc (Nat.le_refl _) (.cells #[.slice kp3 k'.length kc3, .slice vp3 v'.length vc3] 61)).drew).below HB8.out).below HB9.out).below HB10.out, UP.out _ (grown_step hg6' hg10)⟩
end Go.Proofs.YtmbiiemlepfoaaaGreatDoor
