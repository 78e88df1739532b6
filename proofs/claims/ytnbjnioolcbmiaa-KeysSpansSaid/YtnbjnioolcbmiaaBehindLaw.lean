/- The walk of KeysBehind. -/
import Derived.Test.YtnbjnioolcbmiaaAwake
import Derived.Test.YtnbjnioolcbmiaaSmall
import Derived.Test.YtnbjnioolcbmiaaRefBehind
import Derived.Test.YtnbjnioolcbmiaaRefs
import Derived.Test.YtnbjnioolcbmiaaNextLaw
namespace Go.Proofs.Ytnbjnioolcbmiaa
open Go.RowKit

theorem behindR_more : ∀ (r y b : List UInt8), behindR r = some b → Lib.compareBytes (r.reverse ++ y) b = -1
  | [], _, _, h => by simp [behindR] at h
  | x :: r, y, b, h => by
    unfold behindR at h
    by_cases hx : x = 255
    · rw [if_pos hx] at h
      rw [List.reverse_cons, List.append_assoc]
      exact behindR_more r ([x] ++ y) b h
    · rw [if_neg hx] at h
      obtain rfl := Option.some.inj h
      rw [List.reverse_cons, List.append_assoc, cmp_drop r.reverse.length (by simp)]
      rw [List.drop_left, List.drop_left]
      have hlt : x < x + 1 := by
        have h1 : x.toNat ≠ 255 := fun h => hx (UInt8.toNat_inj.1 h)
        have h2 := x.toNat_lt
        rw [UInt8.lt_iff_toNat_lt, UInt8.toNat_add]
        show x.toNat < (x.toNat + 1) % 256
        omega
      simp [Lib.compareBytes, hlt]
/-- Whatever begins so is less. -/
theorem behind_more {x p b : List UInt8} (h : behindB p = some b) (hx : begins x p = true) : Lib.compareBytes x b = -1 := by
  unfold begins at hx
  rw [List.isPrefixOf_iff_prefix] at hx
  obtain ⟨y, rfl⟩ := hx
  have := behindR_more p.reverse y b h
  rwa [List.reverse_reverse] at this

set_option maxHeartbeats 2000000 in
set_option maxRecDepth 100000 in
theorem keysBehind_calls (w : World) {p1 p2 : Option Addr} {c1 c2 : Nat} {l x : List UInt8} (h1 : IsB w p1 c1 l) (h2 : IsB w p2 c2 x) :
    Calls Try.prog 6 #[.slice p1 l.length c1, .slice p2 x.length c2] w fun e w' => e = .returned (.bool true) ∧ Below w.heap.size w w' := by
  have H1 := Lib.hid h1
  have H2 := Lib.hid h2
  have hsm := small_lit w [(p1, l.length, c1), (p2, x.length, c2)] (by simp)
  have HS := Lib.hid hsm
  clear h1 h2 hsm
  go_enter Try.func6, Try.ntmps6
  go_wp2_with fail
  refine HS.out.mono ?_
  rintro e W ⟨rfl, hb⟩
  cases hsb : smallB [(p1, l.length, c1), (p2, x.length, c2)] with
  | false =>
    have HB := Lib.hid hb
    clear hb hsb
    go_wp2_with fail
    refine (awake W).mono ?_
    rintro e w' ⟨rfl, hb2⟩
    go_wp2
    go_ret
    exact ⟨rfl, HB.out.trans (hb2.mono HB.out.size)⟩
  | true =>
    obtain ⟨hl1, hl2⟩ := small2 hsb
    have g1 := H1.out.below hb
    have g2 := H2.out.below hb
    have hn := behind W g1 (by omega)
    have hmore := fun b => behind_more (x := x) (p := l) (b := b)
    generalize hr : behindB l = r at *
    have HR := Lib.hid hr
    have HM : Hid (∀ b, r = some b → begins x l = true → Lib.compareBytes x b = -1) := hmore
    have HN := Lib.hid hn
    have HB := Lib.hid hb
    have G1 := Lib.hid g1
    have G2 := Lib.hid g2
    clear hb hsb hn g1 g2 hr hmore
    go_wp2_with fail
    refine HN.out.mono ?_
    rintro e W2 ⟨v, rfl, hown, hbel⟩
    obtain ⟨q, d, rfl⟩ := own_slice hown
    have gn := IsB.own hown
    have f1 := G1.out.below hbel
    have f2 := G2.out.below hbel
    have k2 := f1.convert (P := Try.prog) Try.underlying22 Try.underlying5 Try.underlying9
    have GN := Lib.hid gn
    have F1 := Lib.hid f1
    have F2 := Lib.hid f2
    have HBel : Hid (Below W.heap.size W W2) := hbel
    clear gn f1 f2 hown hbel
    go_wp2_with fail
    refine (refBehind _ _ (by rw [str_size]; omega)).mono ?_
    rintro e W3 ⟨t, he, ht, hbel3⟩
    rw [str_data, HR.out] at he ht
    subst he
    have gn := GN.out.below hbel3
    have f1 := F1.out.below hbel3
    have f2 := F2.out.below hbel3
    have kn := gn.convert (P := Try.prog) Try.underlying22 Try.underlying5 Try.underlying9
    have htl : ((str (r.getD [])).toList == t.toList) = true := by rw [str_toList, ByteArray.toList_eq, ht, beq_self_eq_true]
    have cb := keysBegins W3 f2 f1
    have cc := keysCompare W3 f2 gn
    have CB := Lib.hid cb
    have CC := Lib.hid cc
    have HB3 : Hid (Below w.heap.size w W3) := (HB.out.trans (HBel.out.mono HB.out.size)).trans (hbel3.mono (Nat.le_trans HB.out.size HBel.out.size))
    clear cb cc gn f1 f2 ht hbel3
    rcases r with _ | b
    · change Sem.run Try.prog (convert 22 9 (.slice q 0 d)) W3 = .ok (.string (str [])) W3 at kn
      change ((str []).toList == t.toList) = true at htl
      go_wp2_with fail
      refine CB.out.mono ?_
      rintro e w' ⟨rfl, rfl⟩
      cases hbg : begins x l
      all_goals
        clear hbg
        go_wp2_with fail
        refine (awake W3).mono ?_
        rintro e w' ⟨rfl, hb2⟩
        go_wp2
        go_ret
        exact ⟨rfl, HB3.out.trans (hb2.mono HB3.out.size)⟩
    · change Sem.run Try.prog (convert 22 9 (.slice q b.length d)) W3 = .ok (.string (str b)) W3 at kn
      change ((str b).toList == t.toList) = true at htl
      go_wp2_with fail
      refine CB.out.mono ?_
      rintro e w' ⟨rfl, rfl⟩
      cases hbg : begins x l with
      | false =>
        clear hbg
        go_wp2_with fail
        refine (awake W3).mono ?_
        rintro e w' ⟨rfl, hb2⟩
        go_wp2
        go_ret
        exact ⟨rfl, HB3.out.trans (hb2.mono HB3.out.size)⟩
      | true =>
        have hm := HM.out b rfl hbg
        have HMM : Hid (Lib.compareBytes x b = -1) := hm
        have CC' : Hid (Calls Try.prog 10 #[.slice p2 x.length c2, .slice q b.length d] W3 fun e w' => e = .returned (.int .i64 (Lib.compareBytes x b)) ∧ W3 = w') := CC.out
        clear hbg hm
        go_wp2_with fail
        refine CC'.out.mono ?_
        rintro e w' ⟨he, rfl⟩
        rw [HMM.out] at he
        subst he
        go_wp2_with fail
        refine (awake W3).mono ?_
        rintro e w' ⟨rfl, hb2⟩
        go_wp2
        go_ret
        exact ⟨rfl, HB3.out.trans (hb2.mono HB3.out.size)⟩
end Go.Proofs.Ytnbjnioolcbmiaa
