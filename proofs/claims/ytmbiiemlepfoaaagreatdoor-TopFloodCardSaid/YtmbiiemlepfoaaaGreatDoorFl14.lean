/- A trie is the layout of a map: put and delete keep it, in plain Lean. Delete keeps the layout, in plain Lean; what is fit; what is visited. -/
import Derived.Test.YtmbiiemlepfoaaaGreatDoorFl13

namespace Go.Proofs.YtmbiiemlepfoaaaGreatDoor
set_option linter.unusedVariables false
section
variable (H : List UInt8 → Nat)
abbrev partL (x : List PairT) (L c : Nat) : List PairT := x.filter fun p => decide (chunkM (H p.1) L = c)
inductive Lay : N → Nat → List PairT → Prop
  | leaf (k v : List UInt8) (L : Nat) : Lay (.leaf (H k) k v) L [(k, v)]
  | bucket (h : Nat) (t : T) (L : Nat) : 2 ≤ t.size → t.Bal → (∀ p ∈ t.list, H p.1 = h) → Lay (.bucket h t) L t.list
  | branch (m : Nat) (ks : List N) (L : Nat) (x : List PairT) : m < 4294967296 → L ≤ 12 → ks.length = cntUp 32 m → (∃ p ∈ x, ∃ q ∈ x, H p.1 ≠ H q.1) → (∀ c, c < 32 → (m.testBit c = true ↔ ∃ p ∈ x, chunkM (H p.1) L = c)) →
      (∀ (i : Nat) (n : N) (c : Nat), ks[i]? = some n → (bitsOf m)[i]? = some c → Lay n (L + 1) (partL H x L c)) → Lay (.branch m ks) L x
def LayO (L : Nat) (x : List PairT) : Option N → Prop
  | none => x = []
  | some n => Lay H n L x
end
variable {H : List UInt8 → Nat}
theorem list_ne {t : T} (h : 2 ≤ t.size) : t.list ≠ [] := fun e => by rw [← T.list_length, e] at h; simp at h
theorem Lay.ne {n : N} {L : Nat} {x : List PairT} (h : Lay H n L x) : x ≠ [] := by
  cases h with
  | leaf k v L => simp
  | bucket h t L h2 hb hh => exact list_ne h2
  | branch m ks L x h1 h2 h3 h4 h5 h6 => obtain ⟨p, hp, _⟩ := h4; exact List.ne_nil_of_mem hp
theorem mem_part {x : List PairT} {L c : Nat} {p : PairT} : p ∈ partL H x L c ↔ p ∈ x ∧ chunkM (H p.1) L = c := by simp [partL]
theorem part_nil {x : List PairT} {L c : Nat} (h : ¬ ∃ p ∈ x, chunkM (H p.1) L = c) : partL H x L c = [] := by
  apply List.eq_nil_iff_forall_not_mem.2
  intro p hp
  exact h ⟨p, (mem_part.1 hp).1, (mem_part.1 hp).2⟩
structure LayB (H : List UInt8 → Nat) (m : Nat) (ks : List N) (L : Nat) (x : List PairT) : Prop where
  lt : m < 4294967296
  lv : L ≤ 12
  len : ks.length = cntUp 32 m
  bits : ∀ c, c < 32 → (m.testBit c = true ↔ ∃ p ∈ x, chunkM (H p.1) L = c)
  kids : ∀ (i : Nat) (n : N) (c : Nat), ks[i]? = some n → (bitsOf m)[i]? = some c → Lay H n (L + 1) (partL H x L c)
theorem LayB.lay {m L : Nat} {ks : List N} {x : List PairT} (h : LayB H m ks L x) (h4 : ∃ p ∈ x, ∃ q ∈ x, H p.1 ≠ H q.1) : Lay H (.branch m ks) L x := .branch _ _ _ _ h.lt h.lv h.len h4 h.bits h.kids
theorem with_lay {m L c : Nat} {ks : List N} {k : N} {x x' : List PairT} (hB : LayB H m ks L x) (hc : c < 32)
    (hk : Lay H k (L + 1) (partL H x' L c)) (ho : ∀ i, i ≠ c → partL H x' L i = partL H x L i) : LayB H (m ||| 2 ^ c) (withN m ks c k) L x' := by
  refine ⟨Nat.or_lt_two_pow (n := 32) hB.lt (pow_lt32 hc), hB.lv, ?_, (fun i hi => ?_), (fun j n i hj hi => ?_)⟩
  · show (withN m ks c k).length = (bitsOf (m ||| 2 ^ c)).length
    unfold withN; rw [List.length_map]
  · rw [with_bit]
    by_cases e : i = c
    · subst e
      obtain ⟨p, hp⟩ := List.exists_mem_of_ne_nil _ hk.ne
      obtain ⟨p1, p2⟩ := mem_part.1 hp
      simp only [decide_true, Bool.or_true, true_iff]
      exact ⟨p, p1, p2⟩
    · simp only [e, decide_false, Bool.or_false]
      rw [hB.bits i hi]
      constructor
      · rintro ⟨p, p1, p2⟩
        have hp : p ∈ partL H x' L i := by rw [ho i e]; exact mem_part.2 ⟨p1, p2⟩
        exact ⟨p, (mem_part.1 hp).1, p2⟩
      · rintro ⟨p, p1, p2⟩
        have hp : p ∈ partL H x L i := by rw [← ho i e]; exact mem_part.2 ⟨p1, p2⟩
        exact ⟨p, (mem_part.1 hp).1, p2⟩
  · obtain ⟨i', hi', rfl⟩ := with_at (i := 0) hj
    rw [hi] at hi'
    cases hi'
    by_cases e : i = c
    · rw [if_pos e, e]; exact hk
    · rw [if_neg e]
      obtain ⟨a1, a2⟩ := with_bits hi e
      obtain ⟨n', hn'⟩ := with_old (c := c) hB.len a1 a2
      rw [hn', ho i e]
      exact hB.kids _ _ _ hn' (bits_at a1 a2)
theorem fork_lay {a : N} {g : Nat} {k v : List UInt8} {x x' : List PairT} (ha : ∀ L, Lay H a L x) (hx : ∀ p ∈ x, H p.1 = g) (hx' : ∀ p, p ∈ x' ↔ p = (k, v) ∨ p ∈ x) (hne : g ≠ H k) (hs : ∀ Q : List UInt8 → Bool, Q k = false → (x'.filter fun y => Q y.1) = x.filter fun y => Q y.1)
    (hs2 : ∀ Q : List UInt8 → Bool, Q k = true → (∀ p ∈ x, Q p.1 = false) → (x'.filter fun y => Q y.1) = [(k, v)]) :
    ∀ (f L : Nat), L + f = 13 → (∃ j, L ≤ j ∧ j < 13 ∧ chunkM g j ≠ chunkM (H k) j) → Lay H (forkN f a g (.leaf (H k) k v) (H k) L) L x'
  | 0, L, h13, ⟨j, h1, h2, _⟩ => by omega
  | f + 1, L, h13, ⟨j, h1, h2, h3⟩ => by
    obtain ⟨p0, hp0⟩ := List.exists_mem_of_ne_nil _ (ha 0).ne
    have h4 : ∃ p ∈ x', ∃ q ∈ x', H p.1 ≠ H q.1 := ⟨p0, (hx' p0).2 (.inr hp0), (k, v), (hx' _).2 (.inl rfl), by rw [hx p0 hp0]; exact hne⟩
    have hbit : ∀ c, (∃ p ∈ x', chunkM (H p.1) L = c) ↔ c = chunkM g L ∨ c = chunkM (H k) L := fun c => by
      constructor
      · rintro ⟨p, hp, rfl⟩
        rcases (hx' p).1 hp with rfl | hp
        · exact .inr rfl
        · rw [hx p hp]; exact .inl rfl
      · rintro (rfl | rfl)
        · exact ⟨p0, (hx' p0).2 (.inr hp0), by rw [hx p0 hp0]⟩
        · exact ⟨(k, v), (hx' _).2 (.inl rfl), rfl⟩
    unfold forkN
    by_cases e : chunkM g L = chunkM (H k) L
    · rw [if_pos e]
      have hjL : j ≠ L := fun e' => h3 (by rw [e']; exact e)
      have ih := fork_lay ha hx hx' hne hs hs2 f (L + 1) (by omega) ⟨j, by omega, h2, h3⟩
      refine .branch _ _ _ _ (pow_lt32 (chunkM_lt g L)) (by omega) ?_ h4 (fun c hc => ?_) (fun i n c hi hb => ?_)
      · show 1 = (bitsOf (2 ^ chunkM g L)).length
        rw [bits1 (chunkM_lt g L)]; rfl
      · rw [hbit, Nat.testBit_two_pow, e]
        simp [eq_comm]
      · rw [bits1 (chunkM_lt g L)] at hb
        match i, hi, hb with
        | 0, hi, hb =>
          simp at hi hb
          subst hi; subst hb
          have : partL H x' L (chunkM g L) = x' := List.filter_eq_self.2 fun p hp => by
            rcases (hx' p).1 hp with rfl | hp
            · simp [e]
            · rw [hx p hp]; simp
          rw [this]
          exact ih
        | i + 1, hi, hb => simp at hb
    · rw [if_neg e]
      have pg : partL H x' L (chunkM g L) = x := by
        rw [show partL H x' L (chunkM g L) = partL H x L (chunkM g L) from hs (fun y => decide (chunkM (H y) L = chunkM g L)) (by simpa using fun h => e h.symm)]
        exact List.filter_eq_self.2 fun p hp => by rw [hx p hp]; simp
      have ph : partL H x' L (chunkM (H k) L) = [(k, v)] := hs2 (fun y => decide (chunkM (H y) L = chunkM (H k) L)) (by simp) fun p hp => by rw [hx p hp]; simp [e]
      have bitsEq : ∀ c, c < 32 → ((2 ^ chunkM g L ||| 2 ^ chunkM (H k) L).testBit c = true ↔ ∃ p ∈ x', chunkM (H p.1) L = c) := fun c hc => by
        rw [hbit, Nat.testBit_or, Nat.testBit_two_pow, Nat.testBit_two_pow]
        simp only [Bool.or_eq_true, decide_eq_true_eq]
        exact ⟨fun h => h.imp Eq.symm Eq.symm, fun h => h.imp Eq.symm Eq.symm⟩
      by_cases e2 : chunkM (H k) L < chunkM g L
      · rw [if_pos e2]
        have hbt : bitsOf (2 ^ chunkM g L ||| 2 ^ chunkM (H k) L) = [chunkM (H k) L, chunkM g L] := by rw [Nat.or_comm]; exact bits2 e2 (chunkM_lt g L)
        refine .branch _ _ _ _ (Nat.or_lt_two_pow (n := 32) (pow_lt32 (chunkM_lt g L)) (pow_lt32 (chunkM_lt _ L))) (by omega) ?_ h4 bitsEq (fun i n c hi hb => ?_)
        · show 2 = (bitsOf (2 ^ chunkM g L ||| 2 ^ chunkM (H k) L)).length
          rw [hbt]; rfl
        · rw [hbt] at hb
          match i, hi, hb with
          | 0, hi, hb => simp at hi hb; subst hi; subst hb; rw [ph]; exact .leaf k v _
          | 1, hi, hb => simp at hi hb; subst hi; subst hb; rw [pg]; exact ha _
          | i + 2, hi, hb => simp at hb
      · rw [if_neg e2]
        have hbt : bitsOf (2 ^ chunkM g L ||| 2 ^ chunkM (H k) L) = [chunkM g L, chunkM (H k) L] := bits2 (by omega) (chunkM_lt _ L)
        refine .branch _ _ _ _ (Nat.or_lt_two_pow (n := 32) (pow_lt32 (chunkM_lt g L)) (pow_lt32 (chunkM_lt _ L))) (by omega) ?_ h4 bitsEq (fun i n c hi hb => ?_)
        · show 2 = (bitsOf (2 ^ chunkM g L ||| 2 ^ chunkM (H k) L)).length
          rw [hbt]; rfl
        · rw [hbt] at hb
          match i, hi, hb with
          | 0, hi, hb => simp at hi hb; subst hi; subst hb; rw [pg]; exact ha _
          | 1, hi, hb => simp at hi hb; subst hi; subst hb; rw [ph]; exact .leaf k v _
          | i + 2, hi, hb => simp at hb
theorem fork_lay' {a : N} {g L : Nat} {k v : List UInt8} {x : List PairT} (hg : g < 18446744073709551616) (hh : H k < 18446744073709551616) (ha : ∀ L, Lay H a L x) (hx : ∀ p ∈ x, H p.1 = g) (hx2 : Asc x) (hne : g ≠ H k) (hL : L ≤ 13) (hag : ∀ j, j < L → chunkM g j = chunkM (H k) j) :
    Lay H (forkN (13 - L) a g (.leaf (H k) k v) (H k) L) L (putL (k, v) x) := by
  have hk : ∀ p ∈ x, p.1 ≠ k := fun p hp e => hne (by rw [← hx p hp, e])
  refine fork_lay ha hx (fun p => ?_) hne (fun Q hQ => ?_) (fun Q hQ hx3 => ?_) (13 - L) L (by omega) (parts hg hh hne hag)
  · rw [mem_putL]
    constructor
    · rintro (h | ⟨h, _⟩)
      · exact .inl h
      · exact .inr h
    · rintro (h | h)
      · exact .inl h
      · exact .inr ⟨h, hk p h⟩
  · rw [filter_put hx2, hQ]; rfl
  · rw [filter_put hx2]
    dsimp only
    rw [if_pos hQ, List.filter_eq_nil_iff.2 (fun p hp => by simp [hx3 p hp])]
    rfl
theorem hasL_mem {k : List UInt8} {x : List PairT} : hasL k x = true ↔ ∃ p ∈ x, p.1 = k := by simp [hasL]
theorem hasL_part {k : List UInt8} {x : List PairT} {L : Nat} : hasL k (partL H x L (chunkM (H k) L)) = hasL k x := by
  rw [Bool.eq_iff_iff, hasL_mem, hasL_mem]
  constructor
  · rintro ⟨p, h1, h2⟩; exact ⟨p, (mem_part.1 h1).1, h2⟩
  · rintro ⟨p, h1, h2⟩; exact ⟨p, mem_part.2 ⟨h1, by rw [h2]⟩, h2⟩
theorem put_size {k v : List UInt8} {t : T} (hb : t.Bal) (ha : Asc t.list) : (decide (t.size < (putT k v t).size)) = !hasL k t.list := by
  have h1 := putT_list (k := k) (v := v) hb ha
  have h2 : (putT k v t).size = (putL (k, v) t.list).length := by rw [← h1, T.list_length]
  rw [h2]
  cases h : hasL k t.list with
  | false =>
    rw [putL_has (p := (k, v)) h, T.list_length]
    simp
  | true =>
    obtain ⟨p, hp, he⟩ := hasL_mem.1 h
    have h3 := (putT_bal k v hb).2
    have : (putL (k, v) t.list).length ≤ t.size := by
      obtain ⟨A, B, e⟩ := List.append_of_mem hp
      rw [e] at ha
      rw [e, putL_app (p := (k, v)) ha, if_pos (by rw [he]; exact cmp_self k), ← T.list_length, e]
      simp
    simp only [Bool.not_true, decide_eq_false_iff_not]
    omega
theorem two_put {x : List PairT} {k v : List UInt8} (h4 : ∃ p ∈ x, ∃ q ∈ x, H p.1 ≠ H q.1) : ∃ p ∈ putL (k, v) x, ∃ q ∈ putL (k, v) x, H p.1 ≠ H q.1 := by
  obtain ⟨p, hp, q, hq, hne⟩ := h4
  have key : ∀ p ∈ x, ∃ p' ∈ putL (k, v) x, H p'.1 = H p.1 := fun p hp => by
    by_cases e : p.1 = k
    · exact ⟨(k, v), mem_putL.2 (.inl rfl), by rw [e]⟩
    · exact ⟨p, mem_putL.2 (.inr ⟨hp, e⟩), rfl⟩
  obtain ⟨p', hp', e1⟩ := key p hp
  obtain ⟨q', hq', e2⟩ := key q hq
  exact ⟨p', hp', q', hq', by rw [e1, e2]; exact hne⟩
theorem part_asc {x : List PairT} (h : Asc x) (L c : Nat) : Asc (partL H x L c) := h.filter _
theorem part_put {x : List PairT} {k v : List UInt8} {L c : Nat} (h : Asc x) : partL H (putL (k, v) x) L c = if chunkM (H k) L = c then putL (k, v) (partL H x L c) else partL H x L c := by
  have := filter_put (Q := fun y => decide (chunkM (H y) L = c)) (p := (k, v)) h
  simp only [decide_eq_true_eq] at this
  exact this
structure IntoLay (H : List UInt8 → Nat) (k v : List UInt8) (n : N) (L : Nat) (x : List PairT) : Prop where
  lay : Lay H (n.into (H k) k v L).1 L (putL (k, v) x)
  fresh : (n.into (H k) k v L).2 = !hasL k x
theorem into_lay {k v : List UInt8} (hh : ∀ k, H k < 18446744073709551616) {n : N} {L : Nat} {x : List PairT} (h : Lay H n L x) : L ≤ 13 → Asc x → (∀ p ∈ x, ∀ j, j < L → chunkM (H p.1) j = chunkM (H k) j) → IntoLay H k v n L x := by
  induction h with
  | leaf k' v' L =>
    intro hL hx ha
    by_cases e : H k' = H k
    · by_cases e2 : Lib.compareBytes k k' = 0
      · have e3 := cmp_zero e2
        subst e3
        have ei : (N.leaf (H k) k v').into (H k) k v L = (.leaf (H k) k v, false) := by simp only [N.into, if_true]; rw [if_pos e2]
        exact ⟨by rw [ei]; simp only [putL]; rw [cmp_self, if_neg (by decide), List.filter_cons_of_neg (by simp)]; exact .leaf k v L, by rw [ei]; simp [hasL]⟩
      · have hne : k ≠ k' := fun h => e2 (by rw [h]; exact cmp_self _)
        have ei : (N.leaf (H k') k' v').into (H k) k v L = (.bucket (H k) (putT k v (fromT [(k', v')])), true) := by simp only [N.into]; rw [if_pos e, if_neg e2]
        have hl : (putT k v (fromT [(k', v')])).list = putL (k, v) [(k', v')] := by rw [putT_list (from_bal _) (by rw [from_list]; exact hx), from_list]
        refine ⟨?_, by rw [ei]; simp [hasL, hne.symm]⟩
        rw [ei, ← hl]
        refine .bucket _ _ _ (by rw [put_one e2]; exact Nat.le_refl _) (putT_bal k v (from_bal _)).1 fun p hp => ?_
        rw [hl] at hp
        rcases mem_putL.1 hp with rfl | ⟨hp, _⟩
        · rfl
        · simp at hp; rw [hp]; exact e
    · have ei : (N.leaf (H k') k' v').into (H k) k v L = (forkN (13 - L) (.leaf (H k') k' v') (H k') (.leaf (H k) k v) (H k) L, true) := by simp only [N.into]; rw [if_neg e]
      refine ⟨by rw [ei]; exact fork_lay' (hh _) (hh _) (fun L => .leaf k' v' L) (fun p hp => by simp at hp; rw [hp]) hx e hL (ha (k', v') (by simp)), ?_⟩
      rw [ei]
      have hne : k' ≠ k := fun h => e (by rw [h])
      simp [hasL, hne]
  | bucket h t L h2 hb hth =>
    intro hL hx ha
    obtain ⟨p0, hp0⟩ := List.exists_mem_of_ne_nil _ (list_ne h2)
    by_cases e : h = H k
    · subst e
      have ei : (N.bucket (H k) t).into (H k) k v L = (.bucket (H k) (putT k v t), decide (t.size < (putT k v t).size)) := by simp only [N.into, if_true]
      have hl := putT_list (k := k) (v := v) hb hx
      refine ⟨?_, by rw [ei]; exact put_size hb hx⟩
      rw [ei, ← hl]
      have hbb := putT_bal k v hb
      refine .bucket _ _ _ (by have := hbb.2; omega) hbb.1 fun p hp => ?_
      rw [hl] at hp
      rcases mem_putL.1 hp with rfl | ⟨hp, _⟩
      · rfl
      · exact hth p hp
    · have ei : (N.bucket h t).into (H k) k v L = (forkN (13 - L) (.bucket h t) h (.leaf (H k) k v) (H k) L, true) := by simp only [N.into]; rw [if_neg e]
      have hg : h < 18446744073709551616 := by rw [← hth p0 hp0]; exact hh _
      refine ⟨by rw [ei]; exact fork_lay' hg (hh _) (fun L => .bucket h t L h2 hb hth) hth hx e hL (by rw [← hth p0 hp0]; exact ha p0 hp0), ?_⟩
      rw [ei]
      have : hasL k t.list = false := by
        rw [Bool.eq_false_iff]
        intro hc
        obtain ⟨p, hp, he⟩ := hasL_mem.1 hc
        exact e (by rw [← hth p hp, he])
      rw [this]; rfl
  | branch m ks L x h1 h2 h3 h4 h5 h6 ih =>
    intro hL hx ha
    have hc := chunkM_lt (H k) L
    have ei := into_branch (H k) k v m ks L
    have key : Lay H (intoO (H k) k v (kidN m ks (chunkM (H k) L)) (L + 1)).1 (L + 1) (putL (k, v) (partL H x L (chunkM (H k) L))) ∧ (intoO (H k) k v (kidN m ks (chunkM (H k) L)) (L + 1)).2 = !hasL k (partL H x L (chunkM (H k) L)) := by
      unfold kidN
      by_cases hb : m.testBit (chunkM (H k) L) = true
      · rw [if_pos hb]
        obtain ⟨n, hn⟩ := with_old (c := 0) h3 hc hb
        rw [hn]
        have r := ih _ n _ hn (bits_at hc hb) (by omega) (part_asc hx L _) (fun p hp j hj => by
          obtain ⟨p1, p2⟩ := mem_part.1 hp
          rcases Nat.lt_or_ge j L with hjl | hjl
          · exact ha p p1 j hjl
          · rw [show j = L from by omega]; exact p2)
        exact ⟨r.lay, r.fresh⟩
      · rw [if_neg hb, part_nil fun h => hb ((h5 _ hc).2 h)]
        exact ⟨.leaf k v _, rfl⟩
    refine ⟨?_, by rw [ei]; dsimp only; rw [key.2, hasL_part]⟩
    rw [ei]
    refine (with_lay ⟨h1, h2, h3, h5, h6⟩ hc ?_ (fun i hi => ?_)).lay (two_put h4)
    · rw [part_put hx, if_pos rfl]; exact key.1
    · rw [part_put hx, if_neg (fun h => hi h.symm)]
def woM (m c : Nat) : Nat := m ^^^ (m &&& 2 ^ c)
theorem wo_bit (m c i : Nat) : (woM m c).testBit i = (m.testBit i && decide (i ≠ c)) := by
  unfold woM
  rw [Nat.testBit_xor, Nat.testBit_and, Nat.testBit_two_pow]
  by_cases h : c = i
  · subst h; cases m.testBit c <;> simp
  · have h' : i ≠ c := fun e => h e.symm
    cases m.testBit i <;> simp [h, h']
theorem wo_lt {m c : Nat} (h : m < 4294967296) : woM m c < 4294967296 := Nat.xor_lt_two_pow (n := 32) h (Nat.lt_of_le_of_lt Nat.and_le_left h)
def pickN (m c : Nat) (ks : List N) : List N := (bitsOf (woM m c)).map fun i => (ks[cntUp i m]?).getD (.leaf 0 [] [])
def collapseN : N → N
  | .branch m [.leaf h k v] => .leaf h k v
  | .branch m [.bucket h t] => .bucket h t
  | n => n
mutual
def N.dele (h : Nat) (k : List UInt8) : N → Nat → Option (Option N)
  | .leaf g k' _, _ => if g = h then (if Lib.compareBytes k k' = 0 then some none else none) else none
  | .bucket g t, _ => if g = h then (delT k t).map fun u => bucketN h u else none
  | .branch m ks, L =>
    if m.testBit (chunkM h L) then
      match (N.deleAt h k ks (cntUp (chunkM h L) m) (L + 1)).getD none with
      | none => none
      | some none => some (some (collapseN (.branch (woM m (chunkM h L)) (pickN m (chunkM h L) ks))))
      | some (some k') => some (some (collapseN (.branch (m ||| 2 ^ chunkM h L) (withN m ks (chunkM h L) k'))))
    else none
def N.deleAt (h : Nat) (k : List UInt8) : List N → Nat → Nat → Option (Option (Option N))
  | [], _, _ => none
  | n :: _, 0, L => some (n.dele h k L)
  | _ :: ns, i + 1, L => N.deleAt h k ns i L
end
theorem deleAt_eq (h : Nat) (k : List UInt8) : ∀ (ks : List N) (i L : Nat), N.deleAt h k ks i L = (ks[i]?).map fun n => n.dele h k L
  | [], i, L => by simp [N.deleAt]
  | n :: ns, 0, L => by simp [N.deleAt]
  | n :: ns, i + 1, L => by simp [N.deleAt, deleAt_eq h k ns i L]
def deleO (h : Nat) (k : List UInt8) (n : Option N) (L : Nat) : Option (Option N) := match n with
  | none => none
  | some n => n.dele h k L
theorem dele_branch (h : Nat) (k : List UInt8) (m : Nat) (ks : List N) (L : Nat) : (N.branch m ks).dele h k L =
    match deleO h k (kidN m ks (chunkM h L)) (L + 1) with
    | none => none
    | some none => some (some (collapseN (.branch (woM m (chunkM h L)) (pickN m (chunkM h L) ks))))
    | some (some k') => some (some (collapseN (.branch (m ||| 2 ^ chunkM h L) (withN m ks (chunkM h L) k')))) := by
  unfold kidN
  rw [N.dele]
  by_cases hb : m.testBit (chunkM h L) = true
  · rw [if_pos hb, if_pos hb, deleAt_eq]
    unfold deleO
    cases ks[cntUp (chunkM h L) m]? <;> rfl
  · rw [if_neg hb, if_neg hb]
    rfl
mutual
def N.deleS (h : Nat) (k : List UInt8) : N → Nat → Nat × Nat
  | .leaf g _ _, _ => (1, if g = h then 1 else 0)
  | .bucket g t, _ => if g = h then delS k t else (0, 0)
  | .branch m ks, L =>
    let r := if m.testBit (chunkM h L) then (N.deleSAt h k ks (cntUp (chunkM h L) m) (L + 1)).getD (0, 0) else (0, 0)
    (r.1 + 1, r.2)
def N.deleSAt (h : Nat) (k : List UInt8) : List N → Nat → Nat → Option (Nat × Nat)
  | [], _, _ => none
  | n :: _, 0, L => some (n.deleS h k L)
  | _ :: ns, i + 1, L => N.deleSAt h k ns i L
end
theorem deleSAt_eq (h : Nat) (k : List UInt8) : ∀ (ks : List N) (i L : Nat), N.deleSAt h k ks i L = (ks[i]?).map fun n => n.deleS h k L
  | [], i, L => by simp [N.deleSAt]
  | n :: ns, 0, L => by simp [N.deleSAt]
  | n :: ns, i + 1, L => by simp [N.deleSAt, deleSAt_eq h k ns i L]
def deleSO (h : Nat) (k : List UInt8) (n : Option N) (L : Nat) : Nat × Nat := match n with
  | none => (0, 0)
  | some n => n.deleS h k L
theorem deleS_branch (h : Nat) (k : List UInt8) (m : Nat) (ks : List N) (L : Nat) : (N.branch m ks).deleS h k L = ((deleSO h k (kidN m ks (chunkM h L)) (L + 1)).1 + 1, (deleSO h k (kidN m ks (chunkM h L)) (L + 1)).2) := by
  have e : (if m.testBit (chunkM h L) then (N.deleSAt h k ks (cntUp (chunkM h L) m) (L + 1)).getD (0, 0) else (0, 0)) = deleSO h k (kidN m ks (chunkM h L)) (L + 1) := by
    unfold kidN deleSO
    rw [deleSAt_eq]
    split
    · cases ks[cntUp (chunkM h L) m]? <;> rfl
    · rfl
  rw [N.deleS, e]
end Go.Proofs.YtmbiiemlepfoaaaGreatDoor
namespace Go.Proofs.YtmbiiemlepfoaaaGreatDoor
set_option linter.unusedVariables false
variable {H : List UInt8 → Nat}
theorem LayB.one {m L c : Nat} {n : N} {x : List PairT} (h : LayB H m [n] L x) (hx : ∃ p ∈ x, chunkM (H p.1) L = c) : Lay H n (L + 1) x := by
  obtain ⟨p0, hp0, hc⟩ := hx
  have hc32 : c < 32 := by rw [← hc]; exact chunkM_lt _ _
  have hb := (h.bits c hc32).2 ⟨p0, hp0, hc⟩
  have h1 := bits_at hc32 hb
  have hlen := h.len
  have hcl := cnt_lt hc32 hb
  simp at hlen
  have h0 : cntUp c m = 0 := by omega
  rw [h0] at h1
  have hk := h.kids 0 n c rfl h1
  have : partL H x L c = x := List.filter_eq_self.2 fun p hp => by
    have h2 := (h.bits _ (chunkM_lt (H p.1) L)).2 ⟨p, hp, rfl⟩
    have h3 := bits_at (chunkM_lt (H p.1) L) h2
    have h4 := cnt_lt (chunkM_lt (H p.1) L) h2
    rw [show cntUp (chunkM (H p.1) L) m = 0 from by omega, h1] at h3
    simp [(Option.some.inj h3).symm]
  rw [this] at hk
  exact hk
theorem collapse_lay {m L : Nat} {ks : List N} {x : List PairT} (h : LayB H m ks L x) (hx : x ≠ []) : Lay H (collapseN (.branch m ks)) L x := by
  obtain ⟨p0, hp0⟩ := List.exists_mem_of_ne_nil _ hx
  by_cases h4 : ∃ p ∈ x, ∃ q ∈ x, H p.1 ≠ H q.1
  · have hl := h.lay h4
    obtain ⟨p, hp, q, hq, hne⟩ := h4
    match ks, h, hl with
    | [], h, hl => exact hl
    | [.leaf g k v], h, hl =>
      have h1 := h.one ⟨p0, hp0, rfl⟩
      cases h1
      simp at hp hq
      rw [hp, hq] at hne
      exact absurd rfl hne
    | [.bucket g t], h, hl =>
      have h1 := h.one ⟨p0, hp0, rfl⟩
      cases h1 with
      | bucket _ _ _ _ _ hth => exact absurd ((hth p hp).trans (hth q hq).symm) hne
    | [.branch _ _], h, hl => exact hl
    | _ :: _ :: _, h, hl => simpa [collapseN] using hl
  · have hs : ∀ p ∈ x, H p.1 = H p0.1 := fun p hp => Classical.byContradiction fun hne => h4 ⟨p, hp, p0, hp0, hne⟩
    have hbits : bitsOf m = [chunkM (H p0.1) L] := by
      rw [← bits1 (chunkM_lt (H p0.1) L)]
      refine bitsUp_congr fun i hi => ?_
      rw [Bool.eq_iff_iff, h.bits i hi, Nat.testBit_two_pow]
      constructor
      · rintro ⟨p, hp, rfl⟩; rw [hs p hp]; simp
      · intro e; simp at e; exact ⟨p0, hp0, e⟩
    have hlen := h.len
    rw [show cntUp 32 m = (bitsOf m).length from rfl, hbits] at hlen
    match ks, h, hlen with
    | [n], h, _ =>
      have h1 := h.one ⟨p0, hp0, rfl⟩
      cases h1 with
      | leaf k v L => exact .leaf k v _
      | bucket g t L a b c => exact .bucket g t _ a b c
      | branch m' ks' L x a b c d e f =>
        obtain ⟨p, hp, q, hq, hne⟩ := d
        exact absurd ((hs p hp).trans (hs q hq).symm) hne
theorem pick_lay {m L c : Nat} {ks : List N} {x x' : List PairT} (hB : LayB H m ks L x) (hn : partL H x' L c = []) (ho : ∀ i, i ≠ c → partL H x' L i = partL H x L i) : LayB H (woM m c) (pickN m c ks) L x' := by
  refine ⟨wo_lt hB.lt, hB.lv, ?_, (fun i hi => ?_), (fun j n i hj hi => ?_)⟩
  · show (pickN m c ks).length = (bitsOf (woM m c)).length
    unfold pickN; rw [List.length_map]
  · rw [wo_bit]
    by_cases e : i = c
    · subst e
      simp only [ne_eq, not_true, decide_false, Bool.and_false, Bool.false_eq_true, false_iff]
      rintro ⟨p, p1, p2⟩
      have hp : p ∈ partL H x' L i := mem_part.2 ⟨p1, p2⟩
      rw [hn] at hp
      simp at hp
    · simp only [ne_eq, e, not_false_eq_true, decide_true, Bool.and_true]
      rw [hB.bits i hi]
      constructor
      · rintro ⟨p, p1, p2⟩
        have hp : p ∈ partL H x' L i := by rw [ho i e]; exact mem_part.2 ⟨p1, p2⟩
        exact ⟨p, (mem_part.1 hp).1, p2⟩
      · rintro ⟨p, p1, p2⟩
        have hp : p ∈ partL H x L i := by rw [← ho i e]; exact mem_part.2 ⟨p1, p2⟩
        exact ⟨p, (mem_part.1 hp).1, p2⟩
  · unfold pickN at hj
    rw [List.getElem?_map, hi] at hj
    simp only [Option.map_some, Option.some.injEq] at hj
    obtain ⟨h1, h2, _⟩ := bits_idx hi
    rw [wo_bit, Bool.and_eq_true] at h2
    have e : i ≠ c := by simpa using h2.2
    obtain ⟨n', hn'⟩ := with_old (c := c) hB.len h1 h2.1
    rw [hn'] at hj
    simp at hj
    subst hj
    rw [ho i e]
    exact hB.kids _ _ _ hn' (bits_at h1 h2.1)
theorem part_without {x : List PairT} {k : List UInt8} {L c : Nat} : partL H (withoutL k x) L c = withoutL k (partL H x L c) := filter_without (Q := fun y => decide (chunkM (H y) L = c)) x
theorem part_other {x : List PairT} {k : List UInt8} {L c : Nat} (hc : c ≠ chunkM (H k) L) : partL H (withoutL k x) L c = partL H x L c := by
  rw [part_without, without_none]
  rw [Bool.eq_false_iff]
  intro h
  obtain ⟨p, hp, he⟩ := hasL_mem.1 h
  exact hc (by rw [← (mem_part.1 hp).2, he])
theorem without_ne {x : List PairT} {k : List UInt8} (h4 : ∃ p ∈ x, ∃ q ∈ x, H p.1 ≠ H q.1) : withoutL k x ≠ [] := by
  obtain ⟨p, hp, q, hq, hne⟩ := h4
  intro e
  have key : ∀ p ∈ x, p.1 = k := fun p hp => Classical.byContradiction fun hne => by
    have : p ∈ withoutL k x := List.mem_filter.2 ⟨hp, by simp [hne]⟩
    rw [e] at this
    simp at this
  exact hne (by rw [key p hp, key q hq])
structure DelLay (H : List UInt8 → Nat) (k : List UInt8) (n : N) (L : Nat) (x : List PairT) : Prop where
  no : n.dele (H k) k L = none → hasL k x = false
  yes : ∀ r, n.dele (H k) k L = some r → hasL k x = true ∧ LayO H L (withoutL k x) r
theorem dele_lay {k : List UInt8} {n : N} {L : Nat} {x : List PairT} (h : Lay H n L x) : Asc x → DelLay H k n L x := by
  induction h with
  | leaf k' v' L =>
    intro hx
    by_cases e : H k' = H k
    · by_cases e2 : Lib.compareBytes k k' = 0
      · have ei : (N.leaf (H k') k' v').dele (H k) k L = some none := by simp only [N.dele]; rw [if_pos e, if_pos e2]
        have e3 := cmp_zero e2
        subst e3
        exact ⟨fun h => (by rw [ei] at h; cases h), fun r h => (by rw [ei] at h; cases h; exact ⟨by simp [hasL], by simp [LayO, withoutL]⟩)⟩
      · have ei : (N.leaf (H k') k' v').dele (H k) k L = none := by simp only [N.dele]; rw [if_pos e, if_neg e2]
        have hne : k' ≠ k := fun h => e2 (by rw [h]; exact cmp_self _)
        exact ⟨fun _ => by simp [hasL, hne], fun r h => (by rw [ei] at h; cases h)⟩
    · have ei : (N.leaf (H k') k' v').dele (H k) k L = none := by simp only [N.dele]; rw [if_neg e]
      have hne : k' ≠ k := fun h => e (by rw [h])
      exact ⟨fun _ => by simp [hasL, hne], fun r h => (by rw [ei] at h; cases h)⟩
  | bucket h t L h2 hb hth =>
    intro hx
    by_cases e : h = H k
    · subst e
      have ei : (N.bucket (H k) t).dele (H k) k L = (delT k t).map fun u => bucketN (H k) u := by simp only [N.dele, if_true]
      obtain ⟨d1, d2⟩ := delT_ok (k := k) hb hx
      refine ⟨fun h => d2 (by rw [ei] at h; simpa using h), fun r hr => ?_⟩
      rw [ei] at hr
      obtain ⟨u, hu, rfl⟩ := Option.map_eq_some_iff.1 hr
      have o := d1 u hu
      refine ⟨o.has, ?_⟩
      rw [← o.list]
      have hsub : ∀ p ∈ u.list, H p.1 = H k := fun p hp => hth p (by rw [o.list] at hp; exact (List.mem_filter.1 hp).1)
      cases u with
      | nil => rfl
      | node l k' v' r =>
        rw [show bucketN (H k) (.node l k' v' r) = if l.size + 1 + r.size = 1 then some (.leaf (H k) k' v') else some (.bucket (H k) (.node l k' v' r)) from rfl]
        split
        · rename_i hs
          have hl : l.list = [] := List.eq_nil_of_length_eq_zero (by rw [T.list_length]; omega)
          have hr' : r.list = [] := List.eq_nil_of_length_eq_zero (by rw [T.list_length]; omega)
          have hk := hsub (k', v') (by simp [T.list])
          rw [T.list, hl, hr', ← hk]
          exact .leaf k' v' L
        · rename_i hs
          exact .bucket _ _ _ (by simp only [T.size]; omega) o.bal hsub
    · have ei : (N.bucket h t).dele (H k) k L = none := by simp only [N.dele]; rw [if_neg e]
      refine ⟨fun _ => ?_, fun r h => (by rw [ei] at h; cases h)⟩
      rw [Bool.eq_false_iff]
      intro hc
      obtain ⟨p, hp, he⟩ := hasL_mem.1 hc
      exact e (by rw [← hth p hp, he])
  | branch m ks L x h1 h2 h3 h4 h5 h6 ih =>
    intro hx
    have hc := chunkM_lt (H k) L
    have hB : LayB H m ks L x := ⟨h1, h2, h3, h5, h6⟩
    have ei := dele_branch (H k) k m ks L
    have key : (deleO (H k) k (kidN m ks (chunkM (H k) L)) (L + 1) = none → hasL k (partL H x L (chunkM (H k) L)) = false) ∧ ∀ r, deleO (H k) k (kidN m ks (chunkM (H k) L)) (L + 1) = some r → hasL k (partL H x L (chunkM (H k) L)) = true ∧ LayO H (L + 1) (withoutL k (partL H x L (chunkM (H k) L))) r := by
      unfold kidN
      by_cases hb : m.testBit (chunkM (H k) L) = true
      · rw [if_pos hb]
        obtain ⟨n, hn⟩ := with_old (c := 0) h3 hc hb
        rw [hn]
        have r := ih _ n _ hn (bits_at hc hb) (part_asc hx L _)
        exact ⟨r.no, r.yes⟩
      · rw [if_neg hb, part_nil fun h => hb ((h5 _ hc).2 h)]
        exact ⟨fun _ => rfl, fun r h => (by cases h)⟩
    rw [hasL_part, ← part_without] at key
    obtain ⟨k1, k2⟩ := key
    constructor
    · intro hn
      rw [ei] at hn
      split at hn
      · rename_i e; exact k1 e
      · cases hn
      · cases hn
    · intro r hr
      rw [ei] at hr
      split at hr
      · cases hr
      · rename_i e
        cases hr
        obtain ⟨h7, h8⟩ := k2 _ e
        exact ⟨h7, collapse_lay (pick_lay hB h8 fun i hi => part_other hi) (without_ne h4)⟩
      · rename_i k' e
        cases hr
        obtain ⟨h7, h8⟩ := k2 _ e
        exact ⟨h7, collapse_lay (with_lay hB hc h8 fun i hi => part_other hi) (without_ne h4)⟩
theorem lay_hashes {n : N} {L : Nat} {x : List PairT} (h : Lay H n L x) : ∀ g ∈ n.hashes, ∃ p ∈ x, H p.1 = g := by
  induction h with
  | leaf k v L => intro g hg; simp [N.hashes] at hg; exact ⟨(k, v), by simp, hg.symm⟩
  | bucket h t L h2 hb hth =>
    intro g hg
    simp [N.hashes] at hg
    subst hg
    obtain ⟨p0, hp0⟩ := List.exists_mem_of_ne_nil _ (list_ne h2)
    exact ⟨p0, hp0, hth p0 hp0⟩
  | branch m ks L x h1 h2 h3 h4 h5 h6 ih =>
    intro g hg
    simp only [N.hashes] at hg
    rw [mem_hashess] at hg
    obtain ⟨n, hn, hg⟩ := hg
    obtain ⟨i, hi⟩ := List.getElem?_of_mem hn
    have hlt : i < (bitsOf m).length := by have := (List.getElem?_eq_some_iff.1 hi).1; show i < cntUp 32 m; omega
    obtain ⟨p, hp, he⟩ := ih i n _ hi (List.getElem?_eq_getElem hlt) g hg
    exact ⟨p, (mem_part.1 hp).1, he⟩
theorem lay_fit (hh : ∀ k, H k < 18446744073709551616) {n : N} {L : Nat} {x : List PairT} (h : Lay H n L x) : (∀ p ∈ x, p.1.length ≤ 1000000 ∧ p.2.length ≤ 1000000) → n.fit L := by
  induction h with
  | leaf k v L => intro hs; exact ⟨hh _, hs (k, v) (by simp)⟩
  | bucket h t L h2 hb hth =>
    intro hs
    obtain ⟨p0, hp0⟩ := List.exists_mem_of_ne_nil _ (list_ne h2)
    exact ⟨by rw [← hth p0 hp0]; exact hh _, hb, hs, h2⟩
  | branch m ks L x h1 h2 h3 h4 h5 h6 ih =>
    intro hs
    unfold N.fit
    have hk : ∀ (i : Nat) (n : N), ks[i]? = some n → ∃ c, (bitsOf m)[i]? = some c := fun i n hi => by
      have hlt : i < (bitsOf m).length := by have := (List.getElem?_eq_some_iff.1 hi).1; show i < cntUp 32 m; omega
      exact ⟨_, List.getElem?_eq_getElem hlt⟩
    refine ⟨h1, h2, h3, ?_, ?_, ?_⟩
    · intro e
      obtain ⟨p, hp, _⟩ := h4
      have hb := (h5 _ (chunkM_lt (H p.1) L)).2 ⟨p, hp, rfl⟩
      have := cnt_lt (chunkM_lt (H p.1) L) hb
      rw [e] at h3
      simp at h3
      omega
    · rw [fits_iff]
      intro n hn
      obtain ⟨i, hi⟩ := List.getElem?_of_mem hn
      obtain ⟨c, hc⟩ := hk i n hi
      exact ih i n c hi hc fun p hp => hs p (mem_part.1 hp).1
    · intro i n hi g hg
      obtain ⟨c, hc⟩ := hk i n hi
      obtain ⟨p, hp, he⟩ := lay_hashes (h6 i n c hi hc) g hg
      rw [hc, ← he, (mem_part.1 hp).2]
theorem sum_parts {f : PairT → Nat} : ∀ {x : List PairT} {cs : List Nat}, cs.Nodup → (cs.map fun c => (x.filter fun p => decide (f p = c)).length).sum ≤ x.length
  | [], cs, _ => by
    induction cs with
    | nil => exact Nat.le_refl _
    | cons c cs ih => rw [List.map_cons, List.sum_cons]; have := ih (List.nodup_cons.1 ‹_›).2; simp only [List.filter_nil, List.length_nil] at this ⊢; omega
  | p :: x, cs, h => by
    have ih := sum_parts (f := f) (x := x) h
    have key : ∀ cs : List Nat, (cs.map fun c => ((p :: x).filter fun p => decide (f p = c)).length).sum = (cs.map fun c => (x.filter fun p => decide (f p = c)).length).sum + cs.count (f p) := by
      intro cs
      induction cs with
      | nil => rfl
      | cons c cs ih =>
        rw [List.map_cons, List.sum_cons, ih, List.map_cons, List.sum_cons, List.count_cons, List.filter_cons]
        by_cases e : f p = c
        · simp [e]; omega
        · have e' : ¬ (c = f p) := fun h => e h.symm
          simp [e, e']; omega
    rw [key, List.length_cons]
    have := List.nodup_iff_count.1 h (f p)
    omega
theorem bits_nodup (k m : Nat) : (bitsUp k m).Nodup := by unfold bitsUp; exact List.Nodup.sublist List.filter_sublist List.nodup_range
theorem lay_count {n : N} {L : Nat} {x : List PairT} (h : Lay H n L x) : n.count ≤ x.length := by
  induction h with
  | leaf k v L => exact Nat.le_refl _
  | bucket h t L h2 hb hth => rw [T.list_length]; exact Nat.le_refl _
  | branch m ks L x h1 h2 h3 h4 h5 h6 ih =>
    refine Nat.le_trans ?_ (sum_parts (f := fun p => chunkM (H p.1) L) (x := x) (bits_nodup 32 m))
    unfold N.count
    have key : ∀ (ks : List N) (cs : List Nat), ks.length = cs.length → (∀ (i : Nat) (n : N) (c : Nat), ks[i]? = some n → cs[i]? = some c → n.count ≤ (partL H x L c).length) → N.counts ks ≤ (cs.map fun c => (partL H x L c).length).sum := by
      intro ks
      induction ks with
      | nil => intro cs h _; simp [N.counts]
      | cons n ks ih =>
        intro cs hl hc
        cases cs with
        | nil => simp at hl
        | cons c cs =>
          have h1 := hc 0 n c rfl rfl
          have h2 := ih cs (by simpa using hl) fun i n' c' a b => hc (i + 1) n' c' (by simpa using a) (by simpa using b)
          simp only [N.counts, List.map_cons, List.sum_cons]
          omega
    exact key ks (bitsOf m) h3 ih
theorem four_le {a b : Nat} (h : 1 ≤ a) : 4 ^ 1 ≤ (a + 1) ^ 6 := Nat.le_trans (by decide : 4 ^ 1 ≤ (1 + 1) ^ 6) (Nat.pow_le_pow_left (by omega) 6)
structure Steps (s : Nat × Nat) (L n : Nat) : Prop where
  le : s.2 ≤ s.1
  big : ∃ e, s.1 + L ≤ 13 + e ∧ 4 ^ e ≤ (n + 1) ^ 6
theorem into_steps {h : Nat} {k : List UInt8} {n : N} {L : Nat} {x : List PairT} (hl : Lay H n L x) : L ≤ 13 → Steps (n.intoS h k L) L x.length := by
  induction hl with
  | leaf k' v' L =>
    intro hL
    simp only [N.intoS]
    exact ⟨by dsimp only; split <;> omega, 1, by dsimp only; omega, four_le (b := 0) (Nat.le_refl _)⟩
  | bucket g t L h2 hb hth =>
    intro hL
    simp only [N.intoS]
    have := path_hgt k t
    have hp := hgt_pow hb
    split
    · exact ⟨Nat.le_refl _, t.hgt, by dsimp only; omega, by rw [T.list_length]; exact hp⟩
    · exact ⟨Nat.le_refl _, 0, by dsimp only; omega, Nat.one_le_pow _ _ (by omega)⟩
  | branch m ks L x h1 h2 h3 h4 h5 h6 ih =>
    intro hL
    rw [intoS_branch]
    have hc := chunkM_lt h L
    have key : Steps (intoSO h k (kidN m ks (chunkM h L)) (L + 1)) (L + 1) x.length := by
      unfold kidN
      by_cases hb : m.testBit (chunkM h L) = true
      · rw [if_pos hb]
        obtain ⟨n, hn⟩ := with_old (c := 0) h3 hc hb
        rw [hn]
        obtain ⟨a, e, b, c⟩ := ih _ n _ hn (bits_at hc hb) (by omega)
        exact ⟨a, e, b, Nat.le_trans c (Nat.pow_le_pow_left (Nat.add_le_add_right (List.length_filter_le _ _) 1) 6)⟩
      · rw [if_neg hb]
        exact ⟨Nat.le_refl _, 0, by show 0 + (L + 1) ≤ _; omega, Nat.one_le_pow _ _ (by omega)⟩
    obtain ⟨a, e, b, c⟩ := key
    exact ⟨by dsimp only; omega, e, by dsimp only; omega, c⟩
theorem dele_steps {h : Nat} {k : List UInt8} {n : N} {L : Nat} {x : List PairT} (hl : Lay H n L x) : L ≤ 13 → Steps (n.deleS h k L) L x.length := by
  induction hl with
  | leaf k' v' L =>
    intro hL
    simp only [N.deleS]
    exact ⟨by dsimp only; split <;> omega, 1, by dsimp only; omega, four_le (b := 0) (Nat.le_refl _)⟩
  | bucket g t L h2 hb hth =>
    intro hL
    simp only [N.deleS]
    have hd := delS_hgt k t
    have hp := hgt_pow hb
    split
    · exact ⟨hd.2, t.hgt, by omega, by rw [T.list_length]; exact hp⟩
    · exact ⟨Nat.le_refl _, 0, by dsimp only; omega, Nat.one_le_pow _ _ (by omega)⟩
  | branch m ks L x h1 h2 h3 h4 h5 h6 ih =>
    intro hL
    rw [deleS_branch]
    have hc := chunkM_lt h L
    have key : Steps (deleSO h k (kidN m ks (chunkM h L)) (L + 1)) (L + 1) x.length := by
      unfold kidN
      by_cases hb : m.testBit (chunkM h L) = true
      · rw [if_pos hb]
        obtain ⟨n, hn⟩ := with_old (c := 0) h3 hc hb
        rw [hn]
        obtain ⟨a, e, b, c⟩ := ih _ n _ hn (bits_at hc hb) (by omega)
        exact ⟨a, e, b, Nat.le_trans c (Nat.pow_le_pow_left (Nat.add_le_add_right (List.length_filter_le _ _) 1) 6)⟩
      · rw [if_neg hb]
        exact ⟨Nat.le_refl _, 0, by show 0 + (L + 1) ≤ _; omega, Nat.one_le_pow _ _ (by omega)⟩
    obtain ⟨a, e, b, c⟩ := key
    exact ⟨by dsimp only; omega, e, by dsimp only; omega, c⟩
theorem steps_bound {s : Nat × Nat} {n u : Nat} {t : T} (hs : Steps s 0 n) (hb : t.Bal) (ht : t.size = n) (hu : u ≤ t.hgt) : s.1 + u ≤ 17 + Nat.log2 ((n + 1) ^ 6) := by
  obtain ⟨_, e, h1, h2⟩ := hs
  have h3 := hgt_pow hb
  rw [ht] at h3
  have h5 : 0 < (n + 1) ^ 6 := Nat.pow_pos (by omega)
  have h4 : e + t.hgt ≤ Nat.log2 ((n + 1) ^ 6) := by
    rw [Nat.le_log2 (by omega)]
    have h6 := Nat.mul_le_mul h2 h3
    rw [← Nat.pow_add, show (4 : Nat) = 2 ^ 2 from rfl, ← Nat.pow_mul, Nat.mul_comm 2, Nat.pow_mul, ← Nat.pow_two] at h6
    exact (Nat.pow_le_pow_iff_left (by decide)).1 h6
  omega
end Go.Proofs.YtmbiiemlepfoaaaGreatDoor
