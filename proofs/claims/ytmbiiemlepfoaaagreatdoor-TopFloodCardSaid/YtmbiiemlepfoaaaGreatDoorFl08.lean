/- Tries as the heap has them; what they are in plain Lean; the walks of Hash, Tree, Map, Kind. The walk of From. The walks of node.Leaf, Bucket, Pair, Kid. -/
import Derived.Test.YtmbiiemlepfoaaaGreatDoorFl06
import Derived.Test.YtmbiiemlepfoaaaGreatDoorFl07

namespace Go.Proofs.YtmbiiemlepfoaaaGreatDoor
open Go.RowKit
set_option linter.unusedVariables false
inductive N where
  | leaf (h : Nat) (k v : List UInt8)
  | bucket (h : Nat) (t : T)
  | branch (m : Nat) (ks : List N)
theorem N.ind {P : N → Prop} (h1 : ∀ h k v, P (.leaf h k v)) (h2 : ∀ h t, P (.bucket h t)) (h3 : ∀ m ks, (∀ n ∈ ks, P n) → P (.branch m ks)) : ∀ n, P n := fun n =>
  N.rec (motive_1 := P) (motive_2 := fun ks => ∀ n ∈ ks, P n) h1 h2 (fun m ks ih => h3 m ks ih) (by simp) (fun a l ha hl n hn => by rcases List.mem_cons.1 hn with rfl | hn; exact ha; exact hl n hn) n
mutual
def N.count : N → Nat
  | .leaf _ _ _ => 1
  | .bucket _ t => t.size
  | .branch _ ks => N.counts ks
def N.counts : List N → Nat
  | [] => 0
  | n :: ns => n.count + N.counts ns
end
mutual
def N.hashes : N → List Nat
  | .leaf h _ _ => [h]
  | .bucket h _ => [h]
  | .branch _ ks => N.hashess ks
def N.hashess : List N → List Nat
  | [] => []
  | n :: ns => n.hashes ++ N.hashess ns
end
theorem mem_hashess {g : Nat} : ∀ {ks : List N}, g ∈ N.hashess ks ↔ ∃ n ∈ ks, g ∈ n.hashes
  | [] => by simp [N.hashess]
  | n :: ns => by simp [N.hashess, mem_hashess (ks := ns)]
structure IsVs (w : World) (D : Nat → Prop) (p : Option Addr) (c : Nat) (vs : List Value) : Prop where
  cap : vs.length ≤ c
  nil : p = none → c = 0
  big : c ≤ maxLen
  cells : 0 < vs.length → ∃ b o, p = some ⟨b, o, none⟩ ∧ b < w.heap.size ∧ D b ∧ ∀ i x, vs[i]? = some x → w.cell? ⟨b, o + i, none⟩ = some x
theorem IsVs.keep {w w' : World} {D : Nat → Prop} {p : Option Addr} {c : Nat} {vs : List Value} (h : IsVs w D p c vs) (hz : w.heap.size ≤ w'.heap.size) (hk : ∀ k, k < w.heap.size → D k → w'.heap[k]? = w.heap[k]?) : IsVs w' D p c vs :=
  ⟨h.cap, h.nil, h.big, fun hl => by
    obtain ⟨b, o, hp, hb, hd, hc⟩ := h.cells hl
    exact ⟨b, o, hp, Nat.lt_of_lt_of_le hb hz, hd, fun i x hx => (cell_keep hk (a := ⟨b, o + i, none⟩) hb hd).trans (hc i x hx)⟩⟩
theorem IsVs.mono {w : World} {D D' : Nat → Prop} {p : Option Addr} {c : Nat} {vs : List Value} (h : IsVs w D p c vs) (hd : ∀ k, k < w.heap.size → D k → D' k) : IsVs w D' p c vs :=
  ⟨h.cap, h.nil, h.big, fun hl => by
    obtain ⟨b, o, hp, hb, hdb, hc⟩ := h.cells hl
    exact ⟨b, o, hp, hb, hd b hb hdb, hc⟩⟩
theorem IsVs.below {w w' : World} {D : Nat → Prop} {p : Option Addr} {c : Nat} {vs : List Value} (h : IsVs w D p c vs) (hb : Below w.heap.size w w') : IsVs w' D p c vs := h.keep hb.size (below_heap hb D)
theorem IsVs.grown {w w' : World} {D : Nat → Prop} {mb : Option Nat} {p : Option Addr} {c : Nat} {vs : List Value} (h : IsVs w D p c vs) (ho : Off D mb) (g : w.grownBy w' mb) : IsVs w' D p c vs := h.keep g.size (ho.keep g)
theorem IsVs.none_ (w : World) (D : Nat → Prop) : IsVs w D none 0 [] := ⟨Nat.le_refl _, fun _ => rfl, Nat.zero_le _, fun h => absurd h (by simp)⟩
theorem IsVs.own {w : World} {base : Nat} {D : Nat → Prop} (hD : ∀ j, base ≤ j → D j) {e : TypeId} {p : Option Addr} {c : Nat} {vs : List Value} (h : w.ownsRow base e 1 (.slice p vs.length c) vs.length vs) : IsVs w D p c vs := by
  rcases h.2 with ⟨hv, hn⟩ | ⟨g, cap, cur, hv, hg, hh, hnc, hcm, hcs, ht⟩
  · injection hv with h1 h2 h3
    subst h1; subst h3
    obtain rfl : vs = [] := List.eq_nil_of_length_eq_zero hn
    exact IsVs.none_ w D
  · injection hv with h1 h2 h3
    subst h1; subst h3
    refine ⟨hnc, fun h => by simp at h, hcm, fun _ => ⟨g, 0, rfl, row_ltT hh, hD g hg, fun i x hx => ?_⟩⟩
    have := h.cells (g := g) rfl i x hx
    simpa [Addr.add_lit] using this
theorem IsVs.row {w : World} {D : Nat → Prop} {b : Nat} {vs : List Value} {e : TypeId} {fr : Nat × Nat} (hr : w.heap[b]? = some (.cells vs.toArray e fr)) (hd : D b) (hl : vs.length ≤ maxLen) : IsVs w D (some ⟨b, 0, none⟩) vs.length vs :=
  ⟨Nat.le_refl _, fun h => by simp at h, hl, fun _ => ⟨b, 0, rfl, row_ltT hr, hd, fun i x hx => by rw [Nat.zero_add, cell_of_row w b i _ _ fr hr]; simpa using hx⟩⟩
abbrev ifp (t b : Nat) : Value := .iface t (.pointer (some ⟨b, 0, none⟩))
mutual
def N.At (w : World) (D : Nat → Prop) : N → Value → Prop
  | .leaf h k v, x => ∃ b kp kc vp vc, x = ifp 223 b ∧ D b ∧ w.heap[b]? = some (.cells #[.int .u64 (h : Int), .slice kp k.length kc, .slice vp v.length vc] 225) ∧ IsD w D kp kc k ∧ IsD w D vp vc v
  | .bucket h t, x => ∃ b p, x = ifp 226 b ∧ D b ∧ w.heap[b]? = some (.cells #[.int .u64 (h : Int), .pointer p] 228) ∧ TreeAt w D p t
  | .branch m ks, x => ∃ b p c vs, x = ifp 308 b ∧ D b ∧ w.heap[b]? = some (.cells #[.int .u32 (m : Int), .slice p vs.length c, .int .i64 (N.counts ks : Int)] 312) ∧ IsVs w D p c vs ∧ N.Ats w D ks vs
def N.Ats (w : World) (D : Nat → Prop) : List N → List Value → Prop
  | [], vs => vs = []
  | n :: ns, vs => ∃ v vs', vs = v :: vs' ∧ N.At w D n v ∧ N.Ats w D ns vs'
end
mutual
theorem N.At.keep {w w' : World} {D : Nat → Prop} (hz : w.heap.size ≤ w'.heap.size) (hk : ∀ k, k < w.heap.size → D k → w'.heap[k]? = w.heap[k]?) : ∀ {n : N} {x : Value}, N.At w D n x → N.At w' D n x
  | .leaf _ _ _, _, hx => by
    unfold N.At at hx ⊢
    obtain ⟨b, kp, kc, vp, vc, h1, h2, h3, h4, h5⟩ := hx
    exact ⟨b, kp, kc, vp, vc, h1, h2, (hk b (row_ltT h3) h2).trans h3, h4.keep hz hk, h5.keep hz hk⟩
  | .bucket _ _, _, hx => by
    unfold N.At at hx ⊢
    obtain ⟨b, p, h1, h2, h3, h4⟩ := hx
    exact ⟨b, p, h1, h2, (hk b (row_ltT h3) h2).trans h3, h4.keep hz hk⟩
  | .branch m ks, _, hx => by
    unfold N.At at hx ⊢
    obtain ⟨b, p, c, vs, h1, h2, h3, h4, h5⟩ := hx
    exact ⟨b, p, c, vs, h1, h2, (hk b (row_ltT h3) h2).trans h3, h4.keep hz hk, N.Ats.keep hz hk h5⟩
theorem N.Ats.keep {w w' : World} {D : Nat → Prop} (hz : w.heap.size ≤ w'.heap.size) (hk : ∀ k, k < w.heap.size → D k → w'.heap[k]? = w.heap[k]?) : ∀ {ns : List N} {vs : List Value}, N.Ats w D ns vs → N.Ats w' D ns vs
  | [], _, hx => hx
  | n :: ns, _, hx => by
    unfold N.Ats at hx ⊢
    obtain ⟨v, vs', h1, h2, h3⟩ := hx
    exact ⟨v, vs', h1, N.At.keep hz hk h2, N.Ats.keep hz hk h3⟩
end
mutual
theorem N.At.mono {w : World} {D D' : Nat → Prop} (hd : ∀ k, k < w.heap.size → D k → D' k) : ∀ {n : N} {x : Value}, N.At w D n x → N.At w D' n x
  | .leaf _ _ _, _, hx => by
    unfold N.At at hx ⊢
    obtain ⟨b, kp, kc, vp, vc, h1, h2, h3, h4, h5⟩ := hx
    exact ⟨b, kp, kc, vp, vc, h1, hd b (row_ltT h3) h2, h3, h4.mono hd, h5.mono hd⟩
  | .bucket _ _, _, hx => by
    unfold N.At at hx ⊢
    obtain ⟨b, p, h1, h2, h3, h4⟩ := hx
    exact ⟨b, p, h1, hd b (row_ltT h3) h2, h3, h4.mono hd⟩
  | .branch m ks, _, hx => by
    unfold N.At at hx ⊢
    obtain ⟨b, p, c, vs, h1, h2, h3, h4, h5⟩ := hx
    exact ⟨b, p, c, vs, h1, hd b (row_ltT h3) h2, h3, h4.mono hd, N.Ats.mono hd h5⟩
theorem N.Ats.mono {w : World} {D D' : Nat → Prop} (hd : ∀ k, k < w.heap.size → D k → D' k) : ∀ {ns : List N} {vs : List Value}, N.Ats w D ns vs → N.Ats w D' ns vs
  | [], _, hx => hx
  | n :: ns, _, hx => by
    unfold N.Ats at hx ⊢
    obtain ⟨v, vs', h1, h2, h3⟩ := hx
    exact ⟨v, vs', h1, N.At.mono hd h2, N.Ats.mono hd h3⟩
end
theorem N.At.below {w w' : World} {D : Nat → Prop} {n : N} {x : Value} (h : N.At w D n x) (hb : Below w.heap.size w w') : N.At w' D n x := h.keep hb.size (below_heap hb D)
theorem N.At.grown {w w' : World} {D : Nat → Prop} {mb : Option Nat} {n : N} {x : Value} (h : N.At w D n x) (ho : Off D mb) (g : w.grownBy w' mb) : N.At w' D n x := h.keep g.size (ho.keep g)
theorem N.Ats.below {w w' : World} {D : Nat → Prop} {n : List N} {x : List Value} (h : N.Ats w D n x) (hb : Below w.heap.size w w') : N.Ats w' D n x := h.keep hb.size (below_heap hb D)
theorem N.Ats.length {w : World} {D : Nat → Prop} : ∀ {ns : List N} {vs : List Value}, N.Ats w D ns vs → vs.length = ns.length
  | [], _, h => by obtain rfl : _ = [] := h; rfl
  | n :: ns, _, h => by
    unfold N.Ats at h
    obtain ⟨v, vs', rfl, _, h3⟩ := h
    simp [h3.length]
theorem N.Ats.at_ {w : World} {D : Nat → Prop} : ∀ {ns : List N} {vs : List Value} {i : Nat} {n : N}, N.Ats w D ns vs → ns[i]? = some n → ∃ v, vs[i]? = some v ∧ N.At w D n v
  | [], _, _, _, _, h => by simp at h
  | n :: ns, _, 0, n', h, hn => by
    unfold N.Ats at h
    obtain ⟨v, vs', rfl, h2, _⟩ := h
    simp at hn
    subst hn
    exact ⟨v, rfl, h2⟩
  | n :: ns, _, i + 1, n', h, hn => by
    unfold N.Ats at h
    obtain ⟨v, vs', rfl, _, h3⟩ := h
    simp at hn
    obtain ⟨v', h4, h5⟩ := h3.at_ hn
    exact ⟨v', by simpa using h4, h5⟩
theorem N.ats_of {w : World} {D : Nat → Prop} : ∀ {ns : List N} {vs : List Value}, vs.length = ns.length → (∀ (i : Nat) (n : N) (v : Value), ns[i]? = some n → vs[i]? = some v → N.At w D n v) → N.Ats w D ns vs
  | [], vs, h, _ => List.eq_nil_of_length_eq_zero h
  | n :: ns, [], h, _ => by simp at h
  | n :: ns, v :: vs, h, ha => by
    unfold N.Ats
    exact ⟨v, vs, rfl, ha 0 n v rfl rfl, N.ats_of (by simpa using h) fun i n' v' h1 h2 => ha (i + 1) n' v' (by simpa using h1) (by simpa using h2)⟩
def NodeAt (w : World) (D : Nat → Prop) : Option N → Value → Prop
  | none, x => x = .nilIface
  | some n, x => N.At w D n x
theorem NodeAt.below {w w' : World} {D : Nat → Prop} {n : Option N} {x : Value} (h : NodeAt w D n x) (hb : Below w.heap.size w w') : NodeAt w' D n x := by
  cases n with
  | none => exact h
  | some n => exact N.At.below h hb
theorem NodeAt.grown {w w' : World} {D : Nat → Prop} {mb : Option Nat} {n : Option N} {x : Value} (h : NodeAt w D n x) (ho : Off D mb) (g : w.grownBy w' mb) : NodeAt w' D n x := by
  cases n with
  | none => exact h
  | some n => exact N.At.grown h ho g
theorem NodeAt.mono {w : World} {D D' : Nat → Prop} (hd : ∀ k, k < w.heap.size → D k → D' k) {n : Option N} {x : Value} (h : NodeAt w D n x) : NodeAt w D' n x := by
  cases n with
  | none => exact h
  | some n => exact N.At.mono hd h
def N.hashO : N → Option Nat
  | .leaf h _ _ => some h
  | .bucket h _ => some h
  | .branch _ _ => none
def hashV : Option Nat → Value
  | some h => .tuple #[.int .u64 (h : Int), .bool true]
  | none => .tuple #[.int .u64 0, .bool false]
theorem ta223_223 (v : Value) (w : World) : (Instr.typeAssert (.iface 223 v) 42 223 true).run Tryz.prog w = .ok (.tuple #[v, .bool true]) w := by kernel_rfl
theorem ta226_223 (v : Value) (w : World) : (Instr.typeAssert (.iface 226 v) 42 223 true).run Tryz.prog w = .ok (.tuple #[.pointer none, .bool false]) w := by kernel_rfl
theorem ta308_223 (v : Value) (w : World) : (Instr.typeAssert (.iface 308 v) 42 223 true).run Tryz.prog w = .ok (.tuple #[.pointer none, .bool false]) w := by kernel_rfl
theorem ta0_223 (w : World) : (Instr.typeAssert .nilIface 42 223 true).run Tryz.prog w = .ok (.tuple #[.pointer none, .bool false]) w := by kernel_rfl
theorem ta223_226 (v : Value) (w : World) : (Instr.typeAssert (.iface 223 v) 42 226 true).run Tryz.prog w = .ok (.tuple #[.pointer none, .bool false]) w := by kernel_rfl
theorem ta226_226 (v : Value) (w : World) : (Instr.typeAssert (.iface 226 v) 42 226 true).run Tryz.prog w = .ok (.tuple #[v, .bool true]) w := by kernel_rfl
theorem ta308_226 (v : Value) (w : World) : (Instr.typeAssert (.iface 308 v) 42 226 true).run Tryz.prog w = .ok (.tuple #[.pointer none, .bool false]) w := by kernel_rfl
theorem ta0_226 (w : World) : (Instr.typeAssert .nilIface 42 226 true).run Tryz.prog w = .ok (.tuple #[.pointer none, .bool false]) w := by kernel_rfl
theorem ta223_308 (v : Value) (w : World) : (Instr.typeAssert (.iface 223 v) 42 308 true).run Tryz.prog w = .ok (.tuple #[.pointer none, .bool false]) w := by kernel_rfl
theorem ta226_308 (v : Value) (w : World) : (Instr.typeAssert (.iface 226 v) 42 308 true).run Tryz.prog w = .ok (.tuple #[.pointer none, .bool false]) w := by kernel_rfl
theorem ta308_308 (v : Value) (w : World) : (Instr.typeAssert (.iface 308 v) 42 308 true).run Tryz.prog w = .ok (.tuple #[v, .bool true]) w := by kernel_rfl
theorem ta0_308 (w : World) : (Instr.typeAssert .nilIface 42 308 true).run Tryz.prog w = .ok (.tuple #[.pointer none, .bool false]) w := by kernel_rfl
set_option maxRecDepth 100000 in
theorem nodeHash (w : World) {D : Nat → Prop} {n : N} {x : Value} (h : N.At w D n x) : Calls Tryz.prog 44 #[x] w fun e w' => e = .returned (hashV n.hashO) ∧ w = w' := by
  cases n with
  | leaf g k v =>
    unfold N.At at h
    obtain ⟨b, kp, kc, vp, vc, rfl, _, hr, _⟩ := h
    have c0 : w.cell? ⟨b, 0, none⟩ = some (.int .u64 (g : Int)) := cell_of_row w b 0 _ _ (0, 0) hr
    clear hr
    have q0 := ta223_223
    go_enter Tryz.func44, Tryz.ntmps44
    go_wp2
    go_ret2
    exact ⟨rfl, rfl⟩
  | bucket g t =>
    unfold N.At at h
    obtain ⟨b, p, rfl, _, hr, _⟩ := h
    have c0 : w.cell? ⟨b, 0, none⟩ = some (.int .u64 (g : Int)) := cell_of_row w b 0 _ _ (0, 0) hr
    clear hr
    have q0 := ta226_223
    have q1 := ta226_226
    go_enter Tryz.func44, Tryz.ntmps44
    go_wp2
    go_ret2
    exact ⟨rfl, rfl⟩
  | branch m ks =>
    unfold N.At at h
    obtain ⟨b, p, c, vs, rfl, _, hr, _⟩ := h
    clear hr
    have q0 := ta308_223
    have q1 := ta308_226
    go_enter Tryz.func44, Tryz.ntmps44
    go_wp2
    go_ret2
    exact ⟨rfl, rfl⟩
set_option maxRecDepth 100000 in
theorem nodeTree (w : World) {D : Nat → Prop} {g : Nat} {t : T} {x : Value} (h : N.At w D (.bucket g t) x) : Calls Tryz.prog 48 #[x] w fun e w' => ∃ p, e = .returned (.tuple #[.pointer p, .bool true]) ∧ TreeAt w D p t ∧ w = w' := by
  unfold N.At at h
  obtain ⟨b, p, rfl, _, hr, ht⟩ := h
  have c0 : w.cell? ⟨b, 1, none⟩ = some (.pointer p) := cell_of_row w b 1 _ _ (0, 0) hr
  have HT := Lib.hid ht
  clear hr ht
  have q0 := ta226_226
  go_enter Tryz.func48, Tryz.ntmps48
  go_wp2
  go_ret2
  exact ⟨_, rfl, HT.out, rfl⟩
def N.mapO : Option N → Option Nat
  | some (.branch m _) => some m
  | _ => none
def mapV : Option Nat → Value
  | some m => .tuple #[.int .u32 (m : Int), .bool true]
  | none => .tuple #[.int .u32 0, .bool false]
set_option maxRecDepth 100000 in
theorem nodeMap (w : World) {D : Nat → Prop} {n : Option N} {x : Value} (h : NodeAt w D n x) : Calls Tryz.prog 102 #[x] w fun e w' => e = .returned (mapV (N.mapO n)) ∧ w = w' := by
  match n, h with
  | none, h =>
    obtain rfl : x = .nilIface := h
    have q0 := ta0_308
    go_enter Tryz.func102, Tryz.ntmps102
    go_wp2
    go_ret2
    exact ⟨rfl, rfl⟩
  | some (.leaf g k v), h =>
    unfold NodeAt N.At at h
    obtain ⟨b, kp, kc, vp, vc, rfl, _, hr, _⟩ := h
    clear hr
    have q0 := ta223_308
    go_enter Tryz.func102, Tryz.ntmps102
    go_wp2
    go_ret2
    exact ⟨rfl, rfl⟩
  | some (.bucket g t), h =>
    unfold NodeAt N.At at h
    obtain ⟨b, p, rfl, _, hr, _⟩ := h
    clear hr
    have q0 := ta226_308
    go_enter Tryz.func102, Tryz.ntmps102
    go_wp2
    go_ret2
    exact ⟨rfl, rfl⟩
  | some (.branch m ks), h =>
    unfold NodeAt N.At at h
    obtain ⟨b, p, c, vs, rfl, _, hr, _⟩ := h
    have c0 : w.cell? ⟨b, 0, none⟩ = some (.int .u32 (m : Int)) := cell_of_row w b 0 _ _ (0, 0) hr
    clear hr
    have q0 := ta308_308
    go_enter Tryz.func102, Tryz.ntmps102
    go_wp2
    go_ret2
    exact ⟨rfl, rfl⟩
end Go.Proofs.YtmbiiemlepfoaaaGreatDoor
namespace Go.Proofs.YtmbiiemlepfoaaaGreatDoor
open Go.RowKit
set_option linter.unusedVariables false
def FromR (D : Nat → Prop) (L : List PairT) (w : World) (e : Ending) (w' : World) : Prop := ∃ q, e = .returned (.pointer q) ∧ TreeAt w' D q (fromT L) ∧ Below w.heap.size w w'
theorem treeFrom0 (w : World) (D : Nat → Prop) (p : Option Addr) (c : Nat) : Calls Tryz.prog 93 #[.slice p 0 c] w (FromR D [] w) := by
  go_enter Tryz.func93, Tryz.ntmps93
  go_wp2
  go_ret
  exact ⟨_, rfl, by rw [fromT_nil]; exact TreeAt.nil, Below.refl _ _⟩
theorem sliceFrom (b o n c k m : Nat) (hc : n ≤ c) (hn : k + 1 + m = n) (q : Option Addr) (hq : q = if c = k + 1 then some ⟨b, o, none⟩ else some ⟨b, o + (k + 1) * 2, none⟩) (w : World) :
    (Instr.slice 63 (.slice (some ⟨b, o, none⟩) n c) (some (.int .i64 ((k : Int) + 1))) none none).run Tryz.prog w = .ok (.slice q m (c - (k + 1))) w := by
  have h0 : (0 : Int) ≤ (k : Int) + 1 := by omega
  have h1 : (k : Int) + 1 ≤ (n : Int) := by omega
  have h2 : ((k : Int) + 1).toNat = k + 1 := by omega
  have h3 : n - (k + 1) = m := by omega
  subst hq
  simp [go_sem, h0, h1, h2, h3]
set_option maxHeartbeats 2000000 in
set_option maxRecDepth 100000 in
theorem treeFrom1 (w : World) (D : Nat → Prop) (hD : ∀ j, w.heap.size ≤ j → D j) (A B : List PairT) (x : PairT) (b o c k m n : Nat) {kp vp : Option Addr} {kc vc : Nat}
    (hk : n / 2 = k) (hn : k + 1 + m = n) (hA : (fromT A).size = k) (hB : (fromT B).size = m) (hc : n ≤ c) (hn2 : n ≤ 1048576) (hb : b < w.heap.size) (q : Option Addr) (hq : q = if c = k + 1 then some ⟨b, o, none⟩ else some ⟨b, o + (k + 1) * 2, none⟩)
    (c0 : w.cell? ⟨b, o + k * 2, none⟩ = some (.slice kp x.1.length kc)) (c1 : w.cell? ⟨b, o + k * 2 + 1, none⟩ = some (.slice vp x.2.length vc)) (hkB : IsB w kp kc x.1) (hvB : IsB w vp vc x.2) (hkl : x.1.length ≤ 140737488355328) (hvl : x.2.length ≤ 140737488355328)
    (CA : Hid (∀ w', Below w.heap.size w w' → Calls Tryz.prog 93 #[.slice (some ⟨b, o, none⟩) k c] w' (FromR D A w'))) (CB : Hid (∀ w', Below w.heap.size w w' → Calls Tryz.prog 93 #[.slice q m (c - (k + 1))] w' (FromR D B w'))) :
    Calls Tryz.prog 93 #[.slice (some ⟨b, o, none⟩) n c] w fun e w' => ∃ q, e = .returned (.pointer q) ∧ TreeAt w' D q (.node (fromT A) x.1 x.2 (fromT B)) ∧ Below w.heap.size w w' := by
  obtain ⟨xk, xv⟩ := x
  dsimp only at *
  have CO := Lib.hid (show ∀ w', Below w.heap.size w w' → Calls Tryz.prog 63 #[pairV kp kc xk vp vc xv] w' _ from fun w' hw => treeOwn w' D (fun j hj => hD j (Nat.le_trans hw.size hj)) (hkB.below hw) (hvB.below hw) hkl hvl)
  have CN := Lib.hid (show ∀ w' lp rp kp' kc' vp' vc', Below w.heap.size w w' → TreeAt w' D lp (fromT A) → TreeAt w' D rp (fromT B) → IsD w' D kp' kc' xk → IsD w' D vp' vc' xv → Calls Tryz.prog 115 #[.pointer lp, pairV kp' kc' xk vp' vc' xv, .pointer rp] w' _ from
    fun w' lp rp kp' kc' vp' vc' hw h1 h2 h3 h4 => treeNode w' D (fun j hj => hD j (Nat.le_trans hw.size hj)) h1 h2 h3 h4 (by omega))
  have HC := Lib.hid (show ∀ w', Below w.heap.size w w' → (w'.cell? ⟨b, o + k * 2, none⟩ = some (.slice kp xk.length kc) ∧ w'.cell? ⟨b, o + k * 2 + 1, none⟩ = some (.slice vp xv.length vc)) from fun w' hw => ⟨(hw.cell (p := ⟨b, o + k * 2, none⟩) hb).trans c0, (hw.cell (p := ⟨b, o + k * 2 + 1, none⟩) hb).trans c1⟩)
  clear hkB hvB hkl hvl c0 c1 hD hA hB
  have g0 : ¬ (n : Int) = 0 := by omega
  have g1 : (n : Int).tdiv 2 = (k : Int) := by rw [Int.tdiv_eq_ediv_of_nonneg (by omega)]; omega
  have g1' : (n : Int) / 2 = (k : Int) := by omega
  have g2 : (k : Int) < (n : Int) := by omega
  have g3 : (k : Int) ≤ (c : Int) := by omega
  have g4 : (k : Int) + 1 ≤ (n : Int) := by omega
  have g5 : IntKind.i64.wrap ((k : Int) + 1) = (k : Int) + 1 := IntWalk.i64_in _ (by omega)
  have g6 : ((k : Int) + 1).toNat = k + 1 := by omega
  have g7 : n - (k + 1) = m := by omega
  have hw0 := (Below.refl w.heap.size w).drew
  have hsl := sliceFrom b o n c k m hc (by omega) q hq
  clear hk hn hq hc
  go_enter Tryz.func93, Tryz.ntmps93
  go_wp2_with fail
  go_region_held3 (fun w' => w'.cell? ⟨b, o + k * 2, none⟩ = some (.slice kp xk.length kc) ∧ w'.cell? ⟨b, o + k * 2 + 1, none⟩ = some (.slice vp xv.length vc))
    (first | exact HC.out _ (by assumption) | fail)
    (first | (go_at_call 93; first | (((with_reducible refine (CA.out _ hw0).mono ?_)); rintro e w2 ⟨p2, rfl, ht2, hb2⟩; have hB2 := below_step hw0 hb2; have HT2 := Lib.hid ht2; clear ht2 hb2) | (((with_reducible refine (CB.out _ hB3).mono ?_)); rintro e w4 ⟨p4, rfl, ht4, hb4⟩; have hB4 := below_step hB3 hb4; have HT2' := Lib.hid (HT2.out.below (below_step hb3 hb4)); have HK4 := Lib.hid (HK3.out.below hb4); have HV4 := Lib.hid (HV3.out.below hb4); have HT4 := Lib.hid ht4; clear ht4) | fail) | (go_at_call 63; ((with_reducible refine (CO.out _ hB2).mono ?_)); rintro e w3 ⟨kp3, kc3, vp3, vc3, rfl, hk3, hv3, hb3⟩; have hB3 := below_step hB2 hb3; have HK3 := Lib.hid hk3; have HV3 := Lib.hid hv3; clear hk3 hv3) | (go_at_call 115; ((with_reducible refine (CN.out _ _ _ _ _ _ _ hB4 HT2'.out HT4.out HK4.out HV4.out).mono ?_)); rintro e w5 ⟨p5, rfl, ht5, hb5⟩; have hB5 := below_step hB4 hb5; have HT5 := Lib.hid ht5; clear ht5) | fail)
  go_wp2
  go_ret
  exact ⟨_, rfl, HT5.out, hB5⟩
theorem treeFrom (D D0 : Nat → Prop) : ∀ (N : Nat) (L : List PairT), L.length ≤ N → (∀ x ∈ L, x.1.length ≤ 140737488355328 ∧ x.2.length ≤ 140737488355328) → L.length ≤ 1048576 → ∀ (w : World) (hD : ∀ j, w.heap.size ≤ j → D j) (p : Option Addr) (c : Nat), IsPs w D0 p c L → Calls Tryz.prog 93 #[.slice p L.length c] w (FromR D L w)
  | N, [], _, _, _, w, hD, p, c, _ => treeFrom0 w D p c
  | 0, x :: L, h, _, _, _, _, _, _, _ => by simp at h
  | N + 1, y :: L', h, hs, hn, w, hD, p, c, hP => by
    generalize hL : y :: L' = L at *
    have hpos : 0 < L.length := by rw [← hL]; simp
    have hlt : L.length / 2 < L.length := by omega
    have hx := List.getElem?_eq_getElem hlt
    obtain ⟨x, hxe⟩ : ∃ x, x = L[L.length / 2] := ⟨_, rfl⟩
    rw [← hxe] at hx
    obtain ⟨b, o, kp, kc, vp, vc, rfl, hb, hd, c0, c1, hk, hv⟩ := hP.at_ hx
    have hsx := hs x (List.mem_of_getElem? hx)
    have hf := fromT_node (l := L) (k := x.1) (v := x.2) hx
    have hA : (L.take (L.length / 2)).length = L.length / 2 := by rw [List.length_take]; omega
    have hPA : IsPs w D0 (some ⟨b, o, none⟩) c (L.take (L.length / 2)) := IsPs.front (B := L.drop (L.length / 2)) (by rw [List.take_append_drop]; exact hP)
    have hPB := IsPs.back (w := w) (D := D0) (p := some ⟨b, o, none⟩) (c := c) (A := L.take (L.length / 2 + 1)) (B := L.drop (L.length / 2 + 1)) (by rw [List.take_append_drop]; exact hP) (L.length / 2 + 1) (by rw [List.length_take]; omega)
    have hcap := hP.cap
    have CA := Lib.hid (show ∀ w', Below w.heap.size w w' → Calls Tryz.prog 93 #[.slice (some ⟨b, o, none⟩) (L.take (L.length / 2)).length c] w' (FromR D (L.take (L.length / 2)) w') from fun w' hw => treeFrom D D0 N _ (by rw [hA]; omega) (fun z hz => hs z (List.mem_of_mem_take hz)) (by rw [hA]; omega) w' (fun j hj => hD j (Nat.le_trans hw.size hj)) _ _ (hPA.below hw))
    have CB := Lib.hid (show ∀ w', Below w.heap.size w w' → Calls Tryz.prog 93 #[.slice (cutP (some ⟨b, o, none⟩) c (L.length / 2 + 1)) (L.drop (L.length / 2 + 1)).length (c - (L.length / 2 + 1))] w' (FromR D (L.drop (L.length / 2 + 1)) w') from fun w' hw => treeFrom D D0 N _ (by rw [List.length_drop]; omega) (fun z hz => hs z (List.mem_of_mem_drop hz)) (by rw [List.length_drop]; omega) w' (fun j hj => hD j (Nat.le_trans hw.size hj)) _ _ (hPB.below hw))
    rw [hA] at CA
    rw [List.length_drop] at CB
    refine (treeFrom1 w D hD (L.take (L.length / 2)) (L.drop (L.length / 2 + 1)) x b o c (L.length / 2) (L.length - (L.length / 2 + 1)) L.length rfl (by omega) (by rw [from_size, hA]) (by rw [from_size, List.length_drop]) hcap hn hb _ ?_ c0 c1 hk.b hv.b hsx.1 hsx.2 CA CB).mono ?_
    · unfold cutP; split <;> simp [Addr.add_lit]
    · rintro e w' ⟨q, rfl, ht, hbw⟩
      exact ⟨q, rfl, by rw [hf]; exact ht, hbw⟩
def LeafR (D : Nat → Prop) (n : N) (w : World) (e : Ending) (w' : World) : Prop := ∃ t b, e = .returned (ifp t b) ∧ N.At w' D n (ifp t b) ∧ Below w.heap.size w w'
theorem leaf_fin {w W2 w3 : World} {D : Nat → Prop} (hD : ∀ j, w.heap.size ≤ j → D j) (hB : Below w.heap.size w W2) {kp vp : Option Addr} {kc vc h : Nat} {k v : List UInt8} (hk : IsD w3 (fun j => W2.heap.size ≤ j) kp kc k) (hv : IsD w3 (fun j => W2.heap.size ≤ j) vp vc v) (h3 : Below W2.heap.size W2 w3) :
    LeafR D (.leaf h k v) w (.returned (ifp 223 w3.heap.size)) (w3.alloc (.cells #[.int .u64 (h : Int), .slice kp k.length kc, .slice vp v.length vc] 225)) := by
  have hz := hB.size
  have hb := hB.trans (h3.mono hz)
  have hn := (Below.refl w3.heap.size w3).alloc (Nat.le_refl _) (.cells #[.int .u64 (h : Int), .slice kp k.length kc, .slice vp v.length vc] 225)
  refine ⟨223, _, rfl, ?_, hb.alloc hb.size _⟩
  unfold N.At
  exact ⟨_, kp, kc, vp, vc, rfl, hD _ hb.size, heap_alloc_new _ _, (hk.below hn).mono fun j _ hj => hD j (by omega), (hv.below hn).mono fun j _ hj => hD j (by omega)⟩
set_option maxHeartbeats 1000000 in
set_option maxRecDepth 100000 in
theorem nodeLeaf (w : World) (D : Nat → Prop) (hD : ∀ j, w.heap.size ≤ j → D j) (h : Nat) {kp vp : Option Addr} {kc vc : Nat} {k v : List UInt8} (hk : IsB w kp kc k) (hv : IsB w vp vc v) (hkl : k.length ≤ 140737488355328) (hvl : v.length ≤ 140737488355328) :
    Calls Tryz.prog 183 #[.int .u64 (h : Int), pairV kp kc k vp vc v] w (LeafR D (.leaf h k v) w) := by
  obtain ⟨W2, hW2⟩ : ∃ x, x = (w.alloc (.cells #[.slice kp k.length kc, .slice vp v.length vc] 61)).alloc (.cells #[.slice kp k.length kc, .slice vp v.length vc] 61) := ⟨_, rfl⟩
  have hs : W2.heap.size = w.heap.size + 2 := by rw [hW2]; simp
  have hB : Below w.heap.size w W2 := by rw [hW2]; exact ((Below.refl _ w).alloc (Nat.le_refl _) _).alloc (by simp) _
  have r1 : W2.heap[w.heap.size + 1]? = some (.cells #[.slice kp k.length kc, .slice vp v.length vc] 61) := by rw [hW2]; exact heap_alloc2_new _ _ _
  have CO := Lib.hid (pairOwn1 W2 (fun j => W2.heap.size ≤ j) (fun _ h => h) (b := w.heap.size + 1) (c := 1) (cell_of_row W2 _ 0 _ _ (0, 0) r1) (cell_of_row W2 _ 1 _ _ (0, 0) r1) (by omega) (hk.below hB) (hv.below hB) hkl hvl)
  have HF := Lib.hid (fun (w3 : World) (kp vp : Option Addr) (kc vc : Nat) => leaf_fin (w := w) (W2 := W2) (w3 := w3) (D := D) (kp := kp) (vp := vp) (kc := kc) (vc := vc) (h := h) (k := k) (v := v) hD hB)
  clear hk hv hD r1 hB hs
  go_enter Tryz.func183, Tryz.ntmps183
  go_wp2_with fail
  rw [← hW2]
  clear hW2
  go_wp2_with (go_at_call 105; ((with_reducible refine (CO.out).mono ?_)); rintro e w3 ⟨g, kp3, kc3, vp3, vc3, cap, rfl, hcap, e0, e1, hk3, hv3, hb3, hg3⟩; have HK3 := Lib.hid hk3; have HV3 := Lib.hid hv3; have HB3 := Lib.hid hb3; clear hk3 hv3 hb3)
  go_ret
  exact HF.out _ _ _ _ _ HK3.out HV3.out HB3.out
def bucketN (h : Nat) : T → Option N
  | .nil => none
  | .node l k v r => if l.size + 1 + r.size = 1 then some (.leaf h k v) else some (.bucket h (.node l k v r))
def NodeR (D : Nat → Prop) (n : Option N) (w : World) (e : Ending) (w' : World) : Prop := ∃ v, e = .returned v ∧ NodeAt w' D n v ∧ Below w.heap.size w w'
set_option maxHeartbeats 1000000 in
set_option maxRecDepth 100000 in
theorem nodeBucket (w : World) (D : Nat → Prop) (hD : ∀ j, w.heap.size ≤ j → D j) (h : Nat) {p : Option Addr} {t : T} (ht : TreeAt w D p t) (hsm : t.Small) (hsz : t.size < 1152921504606846976) :
    Calls Tryz.prog 182 #[.int .u64 (h : Int), .pointer p] w (NodeR D (bucketN h t) w) := by
  have CS := Lib.hid (treeSize w ht)
  cases t with
  | nil =>
    obtain rfl : p = none := ht
    rw [show T.size .nil = 0 from rfl] at CS
    rw [show ((0 : Nat) : Int) = 0 from rfl] at CS
    go_enter Tryz.func182, Tryz.ntmps182
    go_wp2_with (go_at_call 64; ((with_reducible refine (CS.out).mono ?_)); rintro e w1 ⟨rfl, rfl⟩)
    go_ret
    exact ⟨_, rfl, rfl, Below.refl _ _⟩
  | node l k v r =>
    have CR := Lib.hid (treeRoot w (fun j => w.heap.size ≤ j) (fun _ h => h) ht hsm.here.1 hsm.here.2)
    have CL := Lib.hid (show ∀ w' kp vp kc vc, Below w.heap.size w w' → IsD w' (fun j => w.heap.size ≤ j) kp kc k → IsD w' (fun j => w.heap.size ≤ j) vp vc v → Calls Tryz.prog 183 #[.int .u64 (h : Int), pairV kp kc k vp vc v] w' _ from fun w' kp vp kc vc hb h1 h2 => nodeLeaf w' D (fun j hj => hD j (Nat.le_trans hb.size hj)) h h1.b h2.b hsm.here.1 hsm.here.2)
    have HT := Lib.hid ht
    have HD := Lib.hid hD
    unfold bucketN
    dsimp only
    rw [T.size_node] at CS hsz
    clear ht hD
    by_cases h1 : l.size + 1 + r.size = 1
    · rw [if_pos h1]
      rw [h1, show ((1 : Nat) : Int) = 1 from rfl] at CS
      clear h1
      go_enter Tryz.func182, Tryz.ntmps182
      go_wp2_with first | (go_at_call 64; ((with_reducible refine (CS.out).mono ?_)); rintro e w1 ⟨rfl, rfl⟩) | (go_at_call 219; ((with_reducible refine (CR.out).mono ?_)); rintro e w2 ⟨q1, d1, q2, d2, rfl, hI1, hI2, hb2⟩; have HI1 := Lib.hid hI1; have HI2 := Lib.hid hI2; have HB2 := Lib.hid hb2; clear hI1 hI2 hb2) | (go_at_call 183; ((with_reducible refine (CL.out _ _ _ _ _ HB2.out HI1.out HI2.out).mono ?_)); rintro e w3 ⟨t3, b3, rfl, hn3, hb3⟩; have HN3 := Lib.hid hn3; have HB3 := Lib.hid hb3; clear hn3 hb3)
      go_ret
      exact ⟨_, rfl, HN3.out, below_step HB2.out HB3.out⟩
    · rw [if_neg h1]
      generalize hz : l.size + 1 + r.size = z at *
      have g0 : ((z : Int) == 0) = false := by simp; omega
      have g1 : ((z : Int) == 1) = false := by simp; omega
      clear hz h1 CL CR
      go_enter Tryz.func182, Tryz.ntmps182
      go_wp2_with (go_at_call 64; ((with_reducible refine (CS.out).mono ?_)); rintro e w1 ⟨rfl, rfl⟩)
      go_ret
      have hn := (Below.refl w.heap.size w).alloc (Nat.le_refl _) (.cells #[.int .u64 (h : Int), .pointer p] 228)
      refine ⟨_, rfl, ?_, hn⟩
      unfold NodeAt N.At
      exact ⟨_, p, rfl, HD.out _ (Nat.le_refl _), heap_alloc_new _ _, HT.out.below hn⟩
def PairR (D : Nat → Prop) (n : N) (w : World) (e : Ending) (w' : World) : Prop := match n with
  | .leaf _ k v => ∃ kp kc vp vc, e = .returned (.tuple #[pairV kp kc k vp vc v, .bool true]) ∧ IsD w' D kp kc k ∧ IsD w' D vp vc v ∧ Below w.heap.size w w'
  | _ => e = .returned (.tuple #[.agg #[.slice none 0 0, .slice none 0 0], .bool false]) ∧ Below w.heap.size w w'
set_option maxHeartbeats 1000000 in
set_option maxRecDepth 100000 in
theorem nodePairLeaf (w : World) (D : Nat → Prop) (hD : ∀ j, w.heap.size ≤ j → D j) {D0 : Nat → Prop} {h : Nat} {k v : List UInt8} {x : Value} (hx : N.At w D0 (.leaf h k v) x) (hkl : k.length ≤ 140737488355328) (hvl : v.length ≤ 140737488355328) :
    Calls Tryz.prog 45 #[x] w (PairR D (.leaf h k v) w) := by
  unfold N.At at hx
  obtain ⟨b, kp, kc, vp, vc, rfl, _, hr, hk, hv⟩ := hx
  have q0 := ta223_223
  obtain ⟨W2, hW2⟩ : ∃ x, x = (w.alloc (.cells #[.slice none 0 0, .slice none 0 0] 61)).alloc (.cells #[.slice kp k.length kc, .slice vp v.length vc] 61) := ⟨_, rfl⟩
  have hs : W2.heap.size = w.heap.size + 2 := by rw [hW2]; simp
  have hB : Below w.heap.size w W2 := by rw [hW2]; exact ((Below.refl _ w).alloc (Nat.le_refl _) _).alloc (by simp) _
  have r0 : W2.heap[w.heap.size]? = some (.cells #[.slice none 0 0, .slice none 0 0] 61) := by rw [hW2]; exact heap_alloc2_old _ _ _
  have r1 : W2.heap[w.heap.size + 1]? = some (.cells #[.slice kp k.length kc, .slice vp v.length vc] 61) := by rw [hW2]; exact heap_alloc2_new _ _ _
  have CO := Lib.hid (pairOwn1 W2 (fun j => W2.heap.size ≤ j) (fun _ h => h) (b := w.heap.size + 1) (c := 1) (cell_of_row W2 _ 0 _ _ (0, 0) r1) (cell_of_row W2 _ 1 _ _ (0, 0) r1) (by omega) (hk.b.below hB) (hv.b.below hB) hkl hvl)
  have c1 : w.cell? ⟨b, 1, none⟩ = some (.slice kp k.length kc) := cell_of_row w b 1 _ _ (0, 0) hr
  have c2 : w.cell? ⟨b, 2, none⟩ = some (.slice vp v.length vc) := cell_of_row w b 2 _ _ (0, 0) hr
  have hbl := row_ltT hr
  have HR0 := Lib.hid r0
  have HB := Lib.hid hB
  have HD := Lib.hid hD
  have HS := Lib.hid hs
  clear hr hk hv r0 r1 hB hD hs
  go_enter Tryz.func45, Tryz.ntmps45
  go_wp2_with fail
  rw [← hW2]
  clear hW2
  go_wp2_with (go_at_call 105; ((with_reducible refine (CO.out).mono ?_)); rintro e w3 ⟨g, kp3, kc3, vp3, vc3, cap, rfl, hcap, e0, e1, hk3, hv3, hb3, hg3⟩; have r3 := (hb3.block w.heap.size (by have := HS.out; omega)).trans HR0.out; have f0 : w3.frozen? ⟨w.heap.size, 0, none⟩ = false := frozen_of_row w3 _ 0 _ _ r3; have f1 : w3.frozen? ⟨w.heap.size, 1, none⟩ = false := frozen_of_row w3 _ 1 _ _ r3; have d0 : w3.cell? ⟨w.heap.size, 0, none⟩ = some (.slice none 0 0) := cell_of_row w3 _ 0 _ _ (0, 0) r3; have d1 : w3.cell? ⟨w.heap.size, 1, none⟩ = some (.slice none 0 0) := cell_of_row w3 _ 1 _ _ (0, 0) r3; have HK3 := Lib.hid hk3; have HV3 := Lib.hid hv3; have HB3 := Lib.hid hb3; clear hk3 hv3 hb3 r3)
  refine bodyPost_ret (v := .tuple #[pairV kp3 kc3 k vp3 vc3 v, .bool true]) ?_ rfl ?_
  · rw [results_cell_tmp rfl]
    simp [go_sem, asAddr, Result.andThen, d0, d1]
  have hn : ¬ W2.heap.size ≤ w.heap.size := by have := HS.out; omega
  refine ⟨_, _, _, _, rfl, (isD_set (isD_set HK3.out hn _ _) hn _ _).mono fun j _ hj => HD.out j (by have := HS.out; omega), (isD_set (isD_set HV3.out hn _ _) hn _ _).mono fun j _ hj => HD.out j (by have := HS.out; omega), ?_⟩
  exact ((HB.out.trans (HB3.out.mono (by have := HS.out; omega))).setCell (p := ⟨w.heap.size, 0, none⟩) (Nat.le_refl _) _).setCell (p := ⟨w.heap.size, 1, none⟩) (Nat.le_refl _) _
set_option maxHeartbeats 1000000 in
set_option maxRecDepth 100000 in
theorem nodePairNo (w : World) (D : Nat → Prop) (t b : Nat) (ht : t = 226 ∨ t = 308) : Calls Tryz.prog 45 #[ifp t b] w fun e w' => e = .returned (.tuple #[.agg #[.slice none 0 0, .slice none 0 0], .bool false]) ∧ Below w.heap.size w w' := by
  have q0 := ta226_223
  have q1 := ta308_223
  rcases ht with rfl | rfl
  all_goals
    go_enter Tryz.func45, Tryz.ntmps45
    go_wp2
    refine bodyPost_ret (v := .tuple #[.agg #[.slice none 0 0, .slice none 0 0], .bool false]) ?_ rfl ?_
    · rw [results_cell_tmp rfl]
      simp [go_sem, asAddr, Result.andThen]
    exact ⟨rfl, (Below.refl _ w).alloc (Nat.le_refl _) _⟩
def kidN (m : Nat) (ks : List N) (c : Nat) : Option N := if m.testBit c then ks[cntUp c m]? else none
set_option maxHeartbeats 1000000 in
set_option maxRecDepth 100000 in
theorem nodeKid (w : World) {D : Nat → Prop} {m c : Nat} {ks : List N} {x : Value} (hx : N.At w D (.branch m ks) x) (hm : m < 4294967296) (hl : ks.length = cntUp 32 m) (hc : c < 32) :
    Calls Tryz.prog 103 #[x, .int .i64 (c : Int)] w fun e w' => ∃ v, e = .returned (.tuple #[v, .bool (m.testBit c)]) ∧ NodeAt w D (kidN m ks c) v ∧ ∃ n, w' = w.drewN n := by
  unfold N.At at hx
  obtain ⟨b, p, pc, vs, rfl, _, hr, hv, ha⟩ := hx
  have q0 := ta308_308
  have c0 : w.cell? ⟨b, 0, none⟩ = some (.int .u32 (m : Int)) := cell_of_row w b 0 _ _ (0, 0) hr
  have c1 : w.cell? ⟨b, 1, none⟩ = some (.slice p vs.length pc) := cell_of_row w b 1 _ _ (0, 0) hr
  have CH := Lib.hid (fun w => bitsHas w m c hm hc)
  have CP := Lib.hid (fun w => bitsPlace w m c hm hc)
  have hlen := ha.length
  unfold kidN
  by_cases hb : m.testBit c = true
  · rw [if_pos hb]
    rw [hb] at CH ⊢
    have hlt := cnt_lt hc hb
    have hi : cntUp c m < vs.length := by omega
    obtain ⟨pb, po, rfl, hpb, hpd, hcell⟩ := hv.cells (by omega)
    obtain ⟨n, hn⟩ : ∃ n, ks[cntUp c m]? = some n := ⟨_, List.getElem?_eq_getElem (by omega)⟩
    obtain ⟨v, hv1, hv2⟩ := ha.at_ hn
    have c2 := hcell _ _ hv1
    rw [hn]
    have HV := Lib.hid hv2
    have g0 : (0 : Int) ≤ (cntUp c m : Int) := by omega
    have g1 : (cntUp c m : Int) < (vs.length : Int) := by omega
    generalize cntUp c m = i at *
    clear hv1 hv2 hcell hv ha hr hlen hl hn hlt
    go_enter Tryz.func103, Tryz.ntmps103
    go_wp2_with (go_at_call 177; ((with_reducible refine (CH.out _).mono ?_)); rintro e w1 ⟨rfl, rfl⟩)
    go_quiet (first | (go_at_call 178; with_reducible exact quiet_left (CP.out _)) | fail)
    go_wp2
    go_ret2
    exact ⟨_, rfl, HV.out, _, rfl⟩
  · have hb' : m.testBit c = false := by simpa using hb
    rw [hb', if_neg (by simp)]
    rw [hb'] at CH
    clear hv ha hr hlen hl
    go_enter Tryz.func103, Tryz.ntmps103
    go_wp2_with (go_at_call 177; ((with_reducible refine (CH.out _).mono ?_)); rintro e w1 ⟨rfl, rfl⟩)
    go_ret2
    exact ⟨_, rfl, rfl, 0, rfl⟩
end Go.Proofs.YtmbiiemlepfoaaaGreatDoor
