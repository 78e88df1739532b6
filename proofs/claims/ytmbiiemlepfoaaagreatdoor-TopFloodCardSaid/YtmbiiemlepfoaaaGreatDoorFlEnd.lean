/- PROVED: the statement Rows.TopFloodCardSaid: whatever the arguments, the law TopFlood returns true and leaves its arguments as they were, the six tables that the row lists starting as the program's text lays them (the card ties them). (The steps from the walk's contract to the row and to the card: after the guide's worked examples; this session's frame_top.py wrote them out.) -/
import Derived.Test.YtmbiiemlepfoaaaGreatDoorCards
import Derived.Test.YtmbiiemlepfoaaaGreatDoorTie
import Derived.Test.YtmbiiemlepfoaaaGreatDoorFl34
import Derived.Test.YtmbiiemlepfoaaaGreatDoorFl40
import Derived.Test.YtmbiiemlepfoaaaGreatDoorFl13
import Derived.WalkKit
import Derived.ProofKit
import Derived.OpenShut
import Derived.ShutString
import Derived.ChangeOld
import Derived.Below
import Derived.SevenTiedAt
namespace Go.Proofs.YtmbiiemlepfoaaaGreatDoor.topFlood
open Go.ChangeShapes Go.WideShapes Go.ChangeAt Go.RowKit
open Go.ChangeMaps (open_string shut_string)
set_option linter.unusedVariables false

theorem witness_row (os : Os) {H : Type} (enc : TypeId × Value → H) :
    (OpenSpec.ofChange Rows.topFloodSpec).preRow enc Tryz.prog Tryz.f4 Rows.topFloodRow.domain false Rows.topFloodRow.laid ((laidWorld os).forCall (fun _ _ => 0) ⟨#[], #[.slice none 0 0, .slice none 0 0], []⟩).memory #[.slice none 0 0, .slice none 0 0] := by
  have hw : (DataW.whole enc Tryz.prog ((laidWorld os).forCall (fun _ _ => 0) ⟨#[], #[.slice none 0 0, .slice none 0 0], []⟩).memory Tryz.f4.params.toList (OpenSpec.ofChange Rows.topFloodSpec).vars false (#[.slice none 0 0, .slice none 0 0] : Array Value).toList 8).map (fun x => (x.1, x.2.1)) =
      some ([.nil, .nil], []) := by kernel_rfl
  obtain ⟨⟨x1, x2, x3⟩, hx, hx1⟩ := Option.map_eq_some_iff.1 hw
  simp only [Prod.mk.injEq] at hx1
  obtain ⟨rfl, rfl⟩ := hx1
  exact OpenSpec.preRow_of_cond 8 hx (by kernel_rfl) (fun k hk => by cases hk) (by kernel_rfl) (laid_met os _)

set_option maxRecDepth 100000 in
theorem lifted (os : Os) (started : os.Started) (H : Type) (enc : TypeId × Value → H) (F : Stop.Interp) :
    ReturnsInHanded {} Tryz.checked os 4 .any ((OpenSpec.ofChange Rows.topFloodSpec).preRow enc Tryz.prog Tryz.f4 Rows.topFloodRow.domain false Rows.topFloodRow.laid) (((OpenSpec.ofChange Rows.topFloodSpec).at F).post enc Tryz.prog Tryz.f4 false true false false) := by
  refine returnsInHanded_of_row (C := Tryz.checked) (s := OpenSpec.ofChange Rows.topFloodSpec) own started (by kernel_rfl) Tryz.func4
    (witness_row_atRef (enc := enc) (C := Tryz.checked) false (laidWorld os) #[.slice none 0 0, .slice none 0 0] rfl (by kernel_rfl) (by kernel_rfl) (by kernel_rfl) (witness_row os enc)) ?_
  intro W base args ds gs before hval0 hW hcnd0 _ _ hL hsh _
  have hU := topW_of hL hsh
  have hval : ∀ (j : Nat) t v, Tryz.f4.params[j]? = some t → args[j]? = some v → Value.okWide Tryz.prog W .any base t v := hval0
  have hW' := hW
  obtain ⟨p, q, hA0, hV, rfl, hfz, hnd⟩ := hW
  have hA : DataW.TrodAll enc Tryz.prog W 0 (fun _ => true) true Tryz.f4.params.toList args.toList ds p := hA0
  rw [Tryz.params4] at hA hval
  obtain ⟨v0, vs0, d0, ds0, p0, q0, hargs, rfl, rfl, h0, r0⟩ := trodAll_cons hA
  obtain ⟨v1, vs1, d1, ds1, p1, q1, rfl, rfl, rfl, h1, r1⟩ := trodAll_cons r0
  obtain ⟨rfl, rfl, rfl⟩ := trodAll_nil r1
  obtain rfl : args = #[v0, v1] := by cases args; simp_all
  obtain ⟨rfl, rfl⟩ := trodVars_none hV
  have k0 := h0
  have lt0 : ∀ x ∈ p0, x.block < W.heap.size := by obtain ⟨m, hm⟩ := k0; exact DataW.trod_lt m _ _ _ hm
  obtain ⟨x0, rfl, w0⟩ := open_table (hval 0 38 v0 rfl rfl) h0
  have k1 := h1
  have lt1 : ∀ x ∈ p1, x.block < W.heap.size := by obtain ⟨m, hm⟩ := k1; exact DataW.trod_lt m _ _ _ hm
  obtain ⟨x1, rfl, w1⟩ := open_ops20 (hval 1 39 v1 rfl rfl) h1
  clear hA0 hval0
  refine (topFlood W hU w0.1 w0.2 w1).mono fun e W' ⟨he, bel⟩ => ?_
  subst he
  exact ⟨_, rfl, _, _, _, [], _, [], hW', trodAll_mk1 (shut_bool Tryz.underlying4 _), (trodAll_cons_mk (Below.trod laidOut (by kernel_rfl) (of_decide_eq_true (by kernel_rfl)) k0 bel lt0) (trodAll_cons_mk (Below.trod laidOut (by kernel_rfl) (of_decide_eq_true (by kernel_rfl)) k1 bel lt1) trodAll_mk0)), rfl, bel.frame _, fun h => by cases h⟩

theorem and_ {a b : Bool} (ha : a = true) (hb : b = true) : (a && b) = true := by rw [ha, hb]; rfl
set_option maxHeartbeats 40000000 in
set_option maxRecDepth 100000 in
theorem facts : joinedFacts Tryz.prog 4 Tryz.f4 Rows.topFloodSpec Rows.topFloodRow = true := by
  unfold joinedFacts
  repeat' (with_reducible refine and_ ?_ ?_)
  all_goals (as_aux_lemma => kernel_rfl)
set_option maxHeartbeats 4000000 in
set_option maxRecDepth 100000 in
theorem over : Rows.TopFloodSaid :=
  OpenClaim.holds_of_cond 4 Tryz.f4 rfl rfl rfl rfl rfl rfl rfl ⟨rfl, rfl, rfl, rfl, rfl⟩ rfl rfl rfl rfl rfl (by kernel_rfl) Tryz.func4 facts
    (of_decide_eq_true (by kernel_rfl)) (by unfold Func.isWrapper; first | (rw [if_pos (by decide +kernel)]; kernel_rfl) | (rw [if_neg (by decide +kernel)]; exact ⟨rfl, rfl⟩))
    (fun os started H enc _ F0 => by rw [OpenClaim.pre_eq_preRow]; exact lifted os started H enc F0)
theorem wfText : Rows.topFloodRow.wfByText (OpenSpec.ofChange Rows.topFloodSpec) = true := by kernel_rfl
theorem mainIs : Tryz.pinned.checked.prog.mainIs = some (true, "5e7da965d934e288d2756db9785a1210ca2a229da5dba6b7b2a9bec46618c4f4".toList) := by kernel_rfl
theorem looksAt : true = Tryz.pinned.checked.prog.looks [] := by kernel_rfl
theorem goesAt : false = Rows.topFloodRow.goesBy Tryz.pinned.checked.prog := by kernel_rfl

/-- THE STATEMENT: THE TIED CARD. -/
theorem proved : Rows.TopFloodCardSaid :=
  Claim7.holds_tied_plain_at .later [] [.data, .data, .data, .data, .data, .pinned] true (true, "5e7da965d934e288d2756db9785a1210ca2a229da5dba6b7b2a9bec46618c4f4") true
    over (fun _ h => by cases h) wfText (fun _ h => by cases h) topFlood_row_tie rfl ⟨rfl, rfl⟩ mainIs rfl
    (fun f fn hf hfn => by
      obtain rfl : f = 4 := Option.some.inj ((show Tryz.prog.funcNamed "brushwood/brushwoodtop.TopFlood" = some 4 by kernel_rfl).symm.trans hf) |>.symm
      obtain rfl : fn = Tryz.f4 := (Option.some.inj (Tryz.func4.symm.trans hfn)).symm
      exact ⟨looksAt, fun j t ht => by
        rw [Tryz.params4] at ht
        have h3 : t = 38 ∨ t = 39 := by
          have hm : t ∈ #[38, 39].toList := Array.mem_toList_iff.2 (Array.mem_of_getElem? ht)
          simpa using hm
        rcases h3 with rfl | rfl
        · exact (show Tryz.prog.wantsStandIn 38 = false by kernel_rfl)
        · exact (show Tryz.prog.wantsStandIn 39 = false by kernel_rfl)⟩)
    goesAt
#print axioms proved
end Go.Proofs.YtmbiiemlepfoaaaGreatDoor.topFlood
