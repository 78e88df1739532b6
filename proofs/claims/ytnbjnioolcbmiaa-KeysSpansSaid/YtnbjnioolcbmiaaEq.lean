/- The walks of bytes.Equal, bytes.HasPrefix, keys.Begins, slices.Clone. -/
import Derived.Test.YtnbjnioolcbmiaaBase
namespace Go.Proofs.Ytnbjnioolcbmiaa
open Go.RowKit

set_option maxHeartbeats 400000 in
theorem bytesEqual (w : World) {p p' : Option Addr} {c c' : Nat} {l l' : List UInt8} (h : IsB w p c l) (h' : IsB w p' c' l') :
    Calls Try.prog 25 #[.slice p l.length c, .slice p' l'.length c'] w fun e w' => e = .returned (.bool (l == l')) ∧ w = w' := by
  have k1 := h.convert (P := Try.prog) Try.underlying22 Try.underlying5 Try.underlying9
  have k2 := h'.convert (P := Try.prog) Try.underlying22 Try.underlying5 Try.underlying9
  go_enter Try.func25, Try.ntmps25
  go_wp2
  go_ret
  exact ⟨by rw [str_toList, str_toList]; rfl, rfl⟩

def begins (k p : List UInt8) : Bool := p.isPrefixOf k
theorem begins_take (k p : List UInt8) : (k.take p.length == p) = begins k p := by
  unfold begins
  rw [Bool.eq_iff_iff, beq_iff_eq, List.isPrefixOf_iff_prefix, List.prefix_iff_eq_take]
  exact eq_comm
theorem begins_short (k p : List UInt8) (h : k.length < p.length) : begins k p = false := by
  unfold begins
  rw [Bool.eq_false_iff, ne_eq, List.isPrefixOf_iff_prefix]
  intro hp
  have := hp.length_le
  omega

set_option maxHeartbeats 400000 in
theorem hasPrefix (w : World) {p p' : Option Addr} {c c' : Nat} {l l' : List UInt8} (h : IsB w p c l) (h' : IsB w p' c' l') :
    Calls Try.prog 23 #[.slice p l.length c, .slice p' l'.length c'] w fun e w' => e = .returned (.bool (begins l l')) ∧ w = w' := by
  have hc := h.cap
  rcases Nat.lt_or_ge l.length l'.length with hlt | hge
  · have hn : ¬ ((l'.length : Int) ≤ (l.length : Int)) := by omega
    have hb := begins_short l l' hlt
    have HB := Lib.hid hb
    clear hb
    go_enter Try.func23, Try.ntmps23
    go_wp2
    go_ret
    exact ⟨by rw [HB.out]; rfl, rfl⟩
  · have hn : ((l'.length : Int) ≤ (l.length : Int)) := by omega
    have hcc : l'.length ≤ c := by omega
    have hcc2 : (l'.length : Int) ≤ (c : Int) := by omega
    have ht := h.take l'.length
    have e : (l.take l'.length).length = l'.length := by rw [List.length_take]; omega
    have HE := bytesEqual w ht h'
    rw [e] at HE
    have H := Lib.hid HE
    have hb := begins_take l l'
    have HB := Lib.hid hb
    clear hb HE e
    go_enter Try.func23, Try.ntmps23
    go_wp2_with (go_at_call 25; refine H.out.mono ?_; rintro e w' ⟨rfl, rfl⟩)
    go_ret
    exact ⟨by rw [HB.out]; rfl, rfl⟩

set_option maxHeartbeats 400000 in
theorem keysBegins (w : World) {p p' : Option Addr} {c c' : Nat} {l l' : List UInt8} (h : IsB w p c l) (h' : IsB w p' c' l') :
    Calls Try.prog 16 #[.slice p l.length c, .slice p' l'.length c'] w fun e w' => e = .returned (.bool (begins l l')) ∧ w = w' := by
  go_enter Try.func16, Try.ntmps16
  go_wp2_with (go_at_call 23; refine (hasPrefix _ h h').mono ?_; rintro e w' ⟨rfl, rfl⟩)
  go_ret
  exact ⟨rfl, rfl⟩
end Go.Proofs.Ytnbjnioolcbmiaa
