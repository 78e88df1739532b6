/- The walks of bytes.Compare, keys.Compare, bytes.Equal. -/
import Derived.Test.YtegmcfnaiclmeaaBase
namespace Go.Proofs.Ytegmcfnaiclmeaa
open Go.RowKit

set_option maxHeartbeats 400000 in
set_option maxRecDepth 100000 in
theorem bytesCompare (w : World) {p p' : Option Addr} {c c' : Nat} {l l' : List UInt8} (h : IsB w p c l) (h' : IsB w p' c' l') :
    Calls Try.prog 19 #[.slice p l.length c, .slice p' l'.length c'] w fun e w' => e = .returned (.int .i64 (Lib.compareBytes l l')) ∧ w = w' := by
  have hr := run_compare (P := Try.prog) h h'
  have H := Lib.hid hr
  clear hr
  go_enter Try.func19, Try.ntmps19
  go_wp2
  rw [run_callFunc_extern Try.func20 (by kernel_rfl) (by kernel_rfl) (by kernel_rfl) (e := Extern.BytealgCompare.compare) (by kernel_rfl), H.out]
  simp only [Result.andThen]
  rw [Oper.upon_value]
  go_wp2
  go_ret
  exact ⟨rfl, rfl⟩

set_option maxHeartbeats 400000 in
theorem keysCompare (w : World) {p p' : Option Addr} {c c' : Nat} {l l' : List UInt8} (h : IsB w p c l) (h' : IsB w p' c' l') :
    Calls Try.prog 18 #[.slice p l.length c, .slice p' l'.length c'] w fun e w' => e = .returned (.int .i64 (Lib.compareBytes l l')) ∧ w = w' := by
  go_enter Try.func18, Try.ntmps18
  go_wp2_with (go_at_call 19; refine (bytesCompare _ h h').mono ?_; rintro e w' ⟨rfl, rfl⟩)
  go_ret
  exact ⟨rfl, rfl⟩
end Go.Proofs.Ytegmcfnaiclmeaa
