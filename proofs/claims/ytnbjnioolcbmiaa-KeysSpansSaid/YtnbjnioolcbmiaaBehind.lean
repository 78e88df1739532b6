/- The walk of keys.Behind. -/
import Derived.Test.YtnbjnioolcbmiaaClone
import Derived.Deep.AppendLies
namespace Go.Proofs.Ytnbjnioolcbmiaa
open Go.RowKit

/-- The least key behind all that begin so: by the last byte that is below 255. -/
def behindR : List UInt8 → Option (List UInt8)
  | [] => none
  | x :: r => if x = 255 then behindR r else some (r.reverse ++ [x + 1])
def behindB (l : List UInt8) : Option (List UInt8) := behindR l.reverse
theorem behind_nil : behindB [] = none := rfl
theorem behind_top {l : List UInt8} {n : Nat} (hn : n < l.length) (hx : l[n] = 255) : behindB (l.take (n + 1)) = behindB (l.take n) := by
  unfold behindB
  rw [List.take_succ_eq_append_getElem hn, List.reverse_append]
  simp [behindR, hx]
theorem behind_else {l : List UInt8} {n : Nat} (hn : n < l.length) (hx : l[n] ≠ 255) : behindB (l.take (n + 1)) = some (l.take n ++ [l[n] + 1]) := by
  unfold behindB
  rw [List.take_succ_eq_append_getElem hn, List.reverse_append]
  simp [behindR, hx]

theorem set_last {l : List UInt8} {m : Nat} (hm : m < l.length) (y : UInt8) : ((l.take (m + 1)).map bv).set m (bv y) = (l.take m ++ [y]).map bv := by
  rw [← List.map_set, List.take_succ_eq_append_getElem hm, List.set_append, if_neg (by rw [List.length_take]; omega)]
  have : m - (l.take m).length = 0 := by rw [List.length_take]; omega
  rw [this]
  rfl
theorem bv_succ (x : UInt8) : bv (x + 1) = .int .u8 (((x.toNat : Int) + 1) % 256) := by
  unfold bv
  rw [UInt8.toNat_add]
  rfl

structure BehindR (w w' : World) (v : Value) (r : Option (List UInt8)) : Prop where
  own : w'.ownsRow w.heap.size 5 1 v (r.getD []).length ((r.getD []).map bv)
  below : Below w.heap.size w w'

set_option maxHeartbeats 1000000 in
set_option maxRecDepth 100000 in
theorem behind (w : World) {p : Option Addr} {c : Nat} {l : List UInt8} (h : IsB w p c l) (hl : l.length ≤ 140737488355328) :
    Calls Try.prog 14 #[.slice p l.length c] w fun e w' => ∃ v, e = .returned (.tuple #[v, .bool (behindB l).isSome]) ∧ BehindR w w' v (behindB l) := by
  have hcap := h.cap
  have H := Lib.hid h
  clear h
  go_enter Try.func14, Try.ntmps14
  go_wp2
  go_loop [4] (fun v4 => ∃ n : Nat, v4 = .int .i64 n ∧ n ≤ l.length ∧ Hid (behindB l = behindB (l.take n))) (fun v4 => (intOf v4).toNat)
  case atStart => exact ⟨l.length, rfl, Nat.le_refl _, by rw [List.take_length]; rfl⟩
  case round =>
    obtain ⟨n, rfl, hn, HB⟩ := hrel
    rcases n with _ | m
    · have hz : behindB l = none := HB.out.trans (by rw [List.take_zero]; rfl)
      have HZ := Lib.hid hz
      clear hz
      go_wp2
      go_ret2
      exact ⟨.slice none 0 0, by rw [HZ.out]; rfl, by rw [HZ.out]; exact World.ownsRow_nil _ _ _ _, Below.refl _ _⟩
    · obtain ⟨b, o, rfl, hb, hc⟩ := H.out.cells (by omega)
      have hcell : w.cell? ⟨b, o + m, none⟩ = some (.int .u8 (l[m].toNat : Int)) := hc m _ (List.getElem?_eq_getElem (by omega))
      clear hc
      by_cases hx : l[m] = 255
      · have hn2 : Hid (behindB l = behindB (l.take m)) := HB.out.trans (behind_top (by omega) hx)
        have g1 : ((l[m].toNat : Int) == 255) = true := by rw [hx]; rfl
        clear hx
        go_wp2
        go_round
        case rel => exact ⟨m, by go_num, by omega, hn2⟩
        case measure => simp [intOf]
      · have hn2 : Hid (behindB l = some (l.take m ++ [l[m] + 1])) := HB.out.trans (behind_else (by omega) hx)
        have g1 : ((l[m].toNat : Int) == 255) = false := by
          rw [beq_eq_false_iff_ne]
          intro h
          have h2 : (255 : UInt8).toNat = 255 := rfl
          exact hx (UInt8.toNat_inj.1 (by omega))
        clear hx
        have ht := H.out.take (m + 1)
        have e : (l.take (m + 1)).length = m + 1 := by rw [List.length_take]; omega
        have HE := clone w ht (by omega)
        rw [e] at HE
        have HC := Lib.hid HE
        have hcc : m + 1 ≤ c := by omega
        clear HE e
        go_wp2_with fail
        refine (HC.out).mono ?_
        rintro e w1 ⟨v, rfl, hown, hbel⟩
        have e : (l.take (m + 1)).length = m + 1 := by rw [List.length_take]; omega
        rw [e] at hown
        obtain ⟨g, cap, rfl, hg, hg2⟩ := hown.form (by omega)
        have hcell1 : w1.cell? ⟨g, m, none⟩ = some (.int .u8 (l[m].toNat : Int)) := by
          rw [hown.cellAt m (by omega), List.getElem?_map, List.getElem?_take, if_pos (by omega), List.getElem?_eq_getElem (by omega)]
          rfl
        have hfr : w1.frozen? ⟨g, m, none⟩ = false := hown.frozenAt m
        have HO := Lib.hid hown
        have HBel : Hid (Below w.heap.size w w1) := hbel
        clear hown hbel e
        go_wp2
        go_ret2
        have ho1 := (HO.out.stored m (bv (l[m] + 1))).1
        rw [bv_succ] at ho1
        refine ⟨.slice (some ⟨g, 0, none⟩) (m + 1) cap, by rw [hn2.out]; rfl, ?_, ?_⟩
        · rw [hn2.out]
          have e1 : (l.take m ++ [l[m] + 1]).length = m + 1 := by rw [List.length_append, List.length_take]; simp; omega
          show World.ownsRow _ _ _ _ _ (l.take m ++ [l[m] + 1]).length ((l.take m ++ [l[m] + 1]).map bv)
          rw [e1, ← set_last (by omega), bv_succ]
          exact ho1
        · exact HBel.out.setCell (p := ⟨g, m, none⟩) hg _
end Go.Proofs.Ytnbjnioolcbmiaa
