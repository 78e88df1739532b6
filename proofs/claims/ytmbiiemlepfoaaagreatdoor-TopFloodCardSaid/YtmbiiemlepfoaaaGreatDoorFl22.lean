/- the given shelf's contracts at this seat, in plain words (printed by the kit's lay-plain) A strings.Builder of the call's own: what its writing methods leave. The walks of the builder's WriteByte, WriteString, WriteRune. The walks of hex and stray. The decoder's word on a string's bytes; the walk of stray. -/
import Derived.Shelf.Strings.Builder1
import Derived.Shelf.Strings.Builder2
import Derived.Shelf.Strings.OnBuilder
import Derived.Shelf.Small.Bits
import Derived.Shelf.Small.Strs
import Derived.Shelf.Small.Wraps
import Derived.Shelf.Strings.BuilderF
import Derived.Shelf.Strings.BuilderK
import Derived.Shelf.Strings.BuilderRune
import Derived.Shelf.Utf8.AppendRune
import Derived.Shelf.Utf8.AppendRunePlain
import Derived.Shelf.Strings.Builder2Cap
import Derived.Shelf.Strconv.Itoa0
import Derived.Shelf.Strconv.Itoa1
import Derived.Shelf.LaysM
import Derived.Shelf.Strconv.Itoa2
import Derived.Shelf.Strconv.Itoa3
import Derived.Shelf.Strings.Search1
import Derived.Shelf.Strings.Search2
import Derived.Shelf.Strings.Cut
import Derived.Shelf.Strings.Shaped
import Derived.Shelf.Sort.Plain
import Derived.Shelf.Strings.Prefix
import Derived.Shelf.Unicode.Decode
import Derived.Shelf.Unicode.DecodeSlow
import Derived.Shelf.Unicode.DecodeAny
import Derived.Shelf.Strings.BuilderCap
import Derived.Ground.Names2Prog
import Derived.Shelf.Slices.SearchI
import Derived.Shelf.Slices.In.SortNone
import Derived.Shelf.Bytes.SlSearch0
import Derived.Shelf.Bytes.SlEqualAll
import Derived.Shelf.Bytes.Small
import Derived.Test.YtmbiiemlepfoaaaGreatDoorProg
import Derived.Test.YtmbiiemlepfoaaaGreatDoorFl01
import Derived.Lib.OthersKept
import Derived.Lib.AppendStr
import Derived.OwnWalk
import Derived.Laws.BitsAllLaws

namespace Go.Proofs
open Go.Shelf
def Tryz.lays169_ren : Go.Shelf.Ren := ⟨fun | 169 => 79 | n => n, fun | 70 => 176 | 9 => 9 | 0 => 0 | 72 => 178 | 37 => 22 | 127 => 287 | 3 => 3 | 5 => 5 | n => n, fun | n => n⟩
theorem Tryz.lays169 : Go.Proofs.Lays.n169 Tryz.prog Tryz.lays169_ren := {
  mixed := by kernel_rfl
  f169 := Tryz.func79.trans (congrArg some (by kernel_rfl))
  t0 := Tryz.underlying0
  a0 := Tryz.isAgg0
  z0 := Tryz.sizeOf0
  v0 := Tryz.zeroValue0
  t3 := Tryz.underlying3
  a3 := Tryz.isAgg3
  z3 := Tryz.sizeOf3
  v3 := Tryz.zeroValue3
  t9 := Tryz.underlying9
  a9 := Tryz.isAgg9
  z9 := Tryz.sizeOf9
  v9 := Tryz.zeroValue9
  t37 := Tryz.underlying22
  a37 := Tryz.isAgg22
  z37 := Tryz.sizeOf22
  v37 := Tryz.zeroValue22
  t70 := Tryz.underlying176
  a70 := Tryz.isAgg176
  z70 := Tryz.sizeOf176
  v70 := Tryz.zeroValue176
  t72 := Tryz.underlying178
  a72 := Tryz.isAgg178
  z72 := Tryz.sizeOf178
  v72 := Tryz.zeroValue178
  t127 := Tryz.underlying287
  a127 := Tryz.isAgg287
  z127 := Tryz.sizeOf287
  v127 := Tryz.zeroValue287 }
theorem Tryz.Builder_Extra_169 : Builder.Extra Tryz.prog Tryz.lays169_ren := {
  sizeBuilder := by kernel_rfl
  liesBuilder := by kernel_rfl
  t5 := Tryz.underlying5
  a5 := Tryz.isAgg5
  z5 := Tryz.sizeOf5
  v5 := Tryz.zeroValue5
  infoByte := by kernel_rfl
  cellsByte := by kernel_rfl
  sizeByte := by kernel_rfl
  neB5 := by decide }
open Go.RowKit in
open Go.RowKit in
open Go.RowKit in
theorem Tryz.Builder_String_any (B b : Nat) (l : List UInt8) (w : World) (h : Lib.IsBuilder 178 5 B b (Lib.byteCells l) w) (hBw : B ≤ w.heap.size) :
    Calls Tryz.prog 79 #[.pointer (some ⟨b, 0, none⟩)] w fun e w' => e = .returned (.string ⟨l.toArray⟩) ∧ Below B w w' := Any.Builder_String_any Tryz.lays169 Tryz.Builder_Extra_169 B b l w h hBw
open Go.RowKit in
open Go.RowKit in
def Tryz.lays156_ren : Go.Shelf.Ren := ⟨fun | 156 => 234 | 165 => 279 | 166 => 78 | 169 => 79 | 240 => 160 | 241 => 312 | 276 => 235 | 277 => 334 | n => n, fun | 31 => 154 | 9 => 9 | 3 => 3 | 4 => 4 | 0 => 0 | 20 => 20 | 72 => 178 | 76 => 184 | 70 => 176 | 37 => 22 | 75 => 183 | 127 => 287 | 164 => 360 | 5 => 5 | 80 => 186 | n => n, fun | n => n⟩
theorem Tryz.lays156 : Go.Proofs.Lays.n156 Tryz.prog Tryz.lays156_ren := {
  mixed := by kernel_rfl
  f156 := Tryz.func234.trans (congrArg some (by kernel_rfl))
  f165 := Tryz.func279.trans (congrArg some (by kernel_rfl))
  f166 := Tryz.func78.trans (congrArg some (by kernel_rfl))
  f169 := Tryz.func79.trans (congrArg some (by kernel_rfl))
  f240 := Tryz.func160.trans (congrArg some (by kernel_rfl))
  f241 := Tryz.func312.trans (congrArg some (by kernel_rfl))
  f276 := Tryz.func235.trans (congrArg some (by kernel_rfl))
  f277 := Tryz.func334.trans (congrArg some (by kernel_rfl))
  t0 := Tryz.underlying0
  a0 := Tryz.isAgg0
  z0 := Tryz.sizeOf0
  v0 := Tryz.zeroValue0
  t3 := Tryz.underlying3
  a3 := Tryz.isAgg3
  z3 := Tryz.sizeOf3
  v3 := Tryz.zeroValue3
  t4 := Tryz.underlying4
  a4 := Tryz.isAgg4
  z4 := Tryz.sizeOf4
  v4 := Tryz.zeroValue4
  t9 := Tryz.underlying9
  a9 := Tryz.isAgg9
  z9 := Tryz.sizeOf9
  v9 := Tryz.zeroValue9
  t20 := Tryz.underlying20
  a20 := Tryz.isAgg20
  z20 := Tryz.sizeOf20
  v20 := Tryz.zeroValue20
  t31 := Tryz.underlying154
  a31 := Tryz.isAgg154
  z31 := Tryz.sizeOf154
  v31 := Tryz.zeroValue154
  t37 := Tryz.underlying22
  a37 := Tryz.isAgg22
  z37 := Tryz.sizeOf22
  v37 := Tryz.zeroValue22
  t70 := Tryz.underlying176
  a70 := Tryz.isAgg176
  z70 := Tryz.sizeOf176
  v70 := Tryz.zeroValue176
  t72 := Tryz.underlying178
  a72 := Tryz.isAgg178
  z72 := Tryz.sizeOf178
  v72 := Tryz.zeroValue178
  t75 := Tryz.underlying183
  a75 := Tryz.isAgg183
  z75 := Tryz.sizeOf183
  v75 := Tryz.zeroValue183
  t76 := Tryz.underlying184
  a76 := Tryz.isAgg184
  z76 := Tryz.sizeOf184
  v76 := Tryz.zeroValue184
  t127 := Tryz.underlying287
  a127 := Tryz.isAgg287
  z127 := Tryz.sizeOf287
  v127 := Tryz.zeroValue287
  t164 := Tryz.underlying360
  a164 := Tryz.isAgg360
  z164 := Tryz.sizeOf360
  v164 := Tryz.zeroValue360 }
theorem Tryz.Builder_Extra_156 : Builder.Extra Tryz.prog Tryz.lays156_ren := {
  sizeBuilder := by kernel_rfl
  liesBuilder := by kernel_rfl
  t5 := Tryz.underlying5
  a5 := Tryz.isAgg5
  z5 := Tryz.sizeOf5
  v5 := Tryz.zeroValue5
  infoByte := by kernel_rfl
  cellsByte := by kernel_rfl
  sizeByte := by kernel_rfl
  neB5 := by decide }
open Go.RowKit in
open Go.RowKit in
theorem Tryz.strings_Join (bk o c : Nat) (xs : List ByteArray) (sep : ByteArray) (w : World) (hcells : ∀ (j : Nat) x, xs[j]? = some x → w.cell? ⟨bk, o + j, none⟩ = some (.string x)) (hbk : bk < w.heap.size) (hN : xs.length ≤ 140737488355328) (hcap : xs.length ≤ c) (hlen : (Lib.join (xs.map (·.data.toList)) sep.data.toList).length ≤ 140737488355328) :
    Calls Tryz.prog 234 #[.slice (some ⟨bk, o, none⟩) xs.length c, .string sep] w fun e w' => e = .returned (.string ⟨(Lib.join (xs.map (·.data.toList)) sep.data.toList).toArray⟩) ∧ Below w.heap.size w w' := Any.strings_Join Tryz.lays156 Tryz.Builder_Extra_156 bk o c xs sep w hcells hbk hN hcap hlen
def Tryz.lays137_ren : Go.Shelf.Ren := ⟨fun | 137 => 326 | 217 => 303 | 266 => 324 | n => n, fun | 9 => 9 | 5 => 5 | 3 => 3 | n => n, fun | n => n⟩
theorem Tryz.lays137 : Go.Proofs.Lays.n137 Tryz.prog Tryz.lays137_ren := {
  mixed := by kernel_rfl
  f137 := Tryz.func326.trans (congrArg some (by kernel_rfl))
  f217 := Tryz.func303.trans (congrArg some (by kernel_rfl))
  f266 := Tryz.func324.trans (congrArg some (by kernel_rfl))
  t3 := Tryz.underlying3
  a3 := Tryz.isAgg3
  z3 := Tryz.sizeOf3
  v3 := Tryz.zeroValue3
  t5 := Tryz.underlying5
  a5 := Tryz.isAgg5
  z5 := Tryz.sizeOf5
  v5 := Tryz.zeroValue5
  t9 := Tryz.underlying9
  a9 := Tryz.isAgg9
  z9 := Tryz.sizeOf9
  v9 := Tryz.zeroValue9 }
open Go.RowKit in
theorem Tryz.strings_IndexByte (s : ByteArray) (c : Int) (w : World) :
    Calls Tryz.prog 326 #[.string s, .int .u8 c] w fun e w' => e = .returned (.int .i64 (Lib.indexByte s.data.toList c.toNat.toUInt8)) ∧ w' = w := Any.strings_IndexByte Tryz.lays137 s c w
open Go.RowKit in
open Go.RowKit in
open Go.RowKit in
open Go.RowKit in
open Go.RowKit in
open Go.RowKit in
open Go.RowKit in
open Go.RowKit in
def Tryz.lays242_ren : Go.Shelf.Ren := ⟨fun | 242 => 310 | 278 => 329 | n => n, fun | 37 => 22 | 21 => 21 | 51 => 217 | 4 => 4 | 5 => 5 | 46 => 301 | n => n, fun | n => n⟩
theorem Tryz.lays242 : Go.Proofs.Lays.n242 Tryz.prog Tryz.lays242_ren := {
  mixed := by kernel_rfl
  f242 := Tryz.func310.trans (congrArg some (by kernel_rfl))
  f278 := Tryz.func329.trans (congrArg some (by kernel_rfl))
  t4 := Tryz.underlying4
  a4 := Tryz.isAgg4
  z4 := Tryz.sizeOf4
  v4 := Tryz.zeroValue4
  t5 := Tryz.underlying5
  a5 := Tryz.isAgg5
  z5 := Tryz.sizeOf5
  v5 := Tryz.zeroValue5
  t21 := Tryz.underlying21
  a21 := Tryz.isAgg21
  z21 := Tryz.sizeOf21
  v21 := Tryz.zeroValue21
  t37 := Tryz.underlying22
  a37 := Tryz.isAgg22
  z37 := Tryz.sizeOf22
  v37 := Tryz.zeroValue22
  t46 := Tryz.underlying301
  a46 := Tryz.isAgg301
  z46 := Tryz.sizeOf301
  v46 := Tryz.zeroValue301
  t51 := Tryz.underlying217
  a51 := Tryz.isAgg217
  z51 := Tryz.sizeOf217
  v51 := Tryz.zeroValue217 }
open Go.RowKit in
open Go.RowKit in
open Go.RowKit in
theorem Tryz.utf8_AppendRune_plain (B : Nat) (v : Value) (n : Nat) (xs : List Value) (r : Int) (hr0 : -2147483648 ≤ r) (hr1 : r ≤ 2147483647) (w : World) (hown : w.ownsRow B 5 1 v n xs) (hlen : n + 4 ≤ 140737488355328) (hBw : B ≤ w.heap.size) :
    Calls Tryz.prog 310 #[v, .int .i32 r] w fun e w' => ∃ v', e = .returned v' ∧ w'.ownsRow B 5 1 v' (n + (Lib.runeCells r).length) (xs ++ Lib.runeCells r) ∧ ∃ o, (w.alloc o).grownBy w' v.ownBlock := Any.utf8_AppendRune_plain Tryz.lays242 (by kernel_rfl) B v n xs r hr0 hr1 w hown hlen hBw
open Go.RowKit in
open Go.RowKit in
def Tryz.lays129_ren : Go.Shelf.Ren := ⟨fun | 129 => 236 | n => n, fun | 53 => 48 | 3 => 3 | 4 => 4 | 46 => 301 | 5 => 5 | 9 => 9 | n => n, fun | n => n⟩
theorem Tryz.lays129 : Go.Proofs.Lays.n129 Tryz.prog Tryz.lays129_ren := {
  mixed := by kernel_rfl
  f129 := Tryz.func236.trans (congrArg some (by kernel_rfl))
  t3 := Tryz.underlying3
  a3 := Tryz.isAgg3
  z3 := Tryz.sizeOf3
  v3 := Tryz.zeroValue3
  t4 := Tryz.underlying4
  a4 := Tryz.isAgg4
  z4 := Tryz.sizeOf4
  v4 := Tryz.zeroValue4
  t5 := Tryz.underlying5
  a5 := Tryz.isAgg5
  z5 := Tryz.sizeOf5
  v5 := Tryz.zeroValue5
  t9 := Tryz.underlying9
  a9 := Tryz.isAgg9
  z9 := Tryz.sizeOf9
  v9 := Tryz.zeroValue9
  t46 := Tryz.underlying301
  a46 := Tryz.isAgg301
  z46 := Tryz.sizeOf301
  v46 := Tryz.zeroValue301
  t53 := Tryz.underlying48
  a53 := Tryz.isAgg48
  z53 := Tryz.sizeOf48
  v53 := Tryz.zeroValue48 }
theorem Tryz.bits_Len64 (x : Int) (w : World) (h0 : 0 ≤ x) (h1 : x ≤ 18446744073709551615) :
    Calls Tryz.prog 236 #[.int .u64 x] w fun e w' => e = .returned (.int .i64 (Lib.bitLen x.toNat)) ∧ w' = w := Any.bits_Len64 Tryz.lays129 x w h0 h1
open Go.Lib in
open Go.Lib in
open Go.Lib in
open Go.Lib in
open Go.RowKit Go.Sort Go.Lib in
open Go.RowKit Go.Sort Go.Lib in
open Go.RowKit Go.Sort Go.Lib in
open Go.RowKit Go.Sort Go.Lib in
open Go.RowKit Go.Sort Go.Lib in
open Go.RowKit Go.Sort Go.Lib in
def Tryz.lays171_ren : Go.Shelf.Ren := ⟨fun | 171 => 233 | 243 => 278 | 246 => 311 | 283 => 330 | 284 => 331 | 285 => 332 | 286 => 333 | 129 => 236 | 317 => 338 | 318 => 339 | 319 => 340 | 320 => 341 | 337 => 323 | 338 => 342 | n => n, fun | 3 => 3 | 9 => 9 | 2 => 2 | 4 => 4 | 171 => 433 | 0 => 0 | 53 => 48 | 37 => 22 | 5 => 5 | 173 => 435 | 212 => 447 | 51 => 217 | 20 => 20 | 213 => 448 | 46 => 301 | 232 => 439 | 233 => 449 | n => n, fun | 17 => 5 | 18 => 2 | 19 => 6 | n => n⟩
theorem Tryz.lays171 : Go.Proofs.Lays.n171 Tryz.prog Tryz.lays171_ren := {
  mixed := by kernel_rfl
  f129 := Tryz.func236.trans (congrArg some (by kernel_rfl))
  f171 := Tryz.func233.trans (congrArg some (by kernel_rfl))
  f243 := Tryz.func278.trans (congrArg some (by kernel_rfl))
  f246 := Tryz.func311.trans (congrArg some (by kernel_rfl))
  f283 := Tryz.func330.trans (congrArg some (by kernel_rfl))
  f284 := Tryz.func331.trans (congrArg some (by kernel_rfl))
  f285 := Tryz.func332.trans (congrArg some (by kernel_rfl))
  f286 := Tryz.func333.trans (congrArg some (by kernel_rfl))
  f317 := Tryz.func338.trans (congrArg some (by kernel_rfl))
  f318 := Tryz.func339.trans (congrArg some (by kernel_rfl))
  f319 := Tryz.func340.trans (congrArg some (by kernel_rfl))
  f320 := Tryz.func341.trans (congrArg some (by kernel_rfl))
  f337 := Tryz.func323.trans (congrArg some (by kernel_rfl))
  f338 := Tryz.func342.trans (congrArg some (by kernel_rfl))
  t0 := Tryz.underlying0
  a0 := Tryz.isAgg0
  z0 := Tryz.sizeOf0
  v0 := Tryz.zeroValue0
  t2 := Tryz.underlying2
  a2 := Tryz.isAgg2
  z2 := Tryz.sizeOf2
  v2 := Tryz.zeroValue2
  t3 := Tryz.underlying3
  a3 := Tryz.isAgg3
  z3 := Tryz.sizeOf3
  v3 := Tryz.zeroValue3
  t4 := Tryz.underlying4
  a4 := Tryz.isAgg4
  z4 := Tryz.sizeOf4
  v4 := Tryz.zeroValue4
  t5 := Tryz.underlying5
  a5 := Tryz.isAgg5
  z5 := Tryz.sizeOf5
  v5 := Tryz.zeroValue5
  t9 := Tryz.underlying9
  a9 := Tryz.isAgg9
  z9 := Tryz.sizeOf9
  v9 := Tryz.zeroValue9
  t20 := Tryz.underlying20
  a20 := Tryz.isAgg20
  z20 := Tryz.sizeOf20
  v20 := Tryz.zeroValue20
  t37 := Tryz.underlying22
  a37 := Tryz.isAgg22
  z37 := Tryz.sizeOf22
  v37 := Tryz.zeroValue22
  t46 := Tryz.underlying301
  a46 := Tryz.isAgg301
  z46 := Tryz.sizeOf301
  v46 := Tryz.zeroValue301
  t51 := Tryz.underlying217
  a51 := Tryz.isAgg217
  z51 := Tryz.sizeOf217
  v51 := Tryz.zeroValue217
  t53 := Tryz.underlying48
  a53 := Tryz.isAgg48
  z53 := Tryz.sizeOf48
  v53 := Tryz.zeroValue48
  t171 := Tryz.underlying433
  a171 := Tryz.isAgg433
  z171 := Tryz.sizeOf433
  v171 := Tryz.zeroValue433
  t173 := Tryz.underlying435
  a173 := Tryz.isAgg435
  z173 := Tryz.sizeOf435
  v173 := Tryz.zeroValue435
  t212 := Tryz.underlying447
  a212 := Tryz.isAgg447
  z212 := Tryz.sizeOf447
  v212 := Tryz.zeroValue447
  t213 := Tryz.underlying448
  a213 := Tryz.isAgg448
  z213 := Tryz.sizeOf448
  t232 := Tryz.underlying439
  a232 := Tryz.isAgg439
  z232 := Tryz.sizeOf439
  v232 := Tryz.zeroValue439
  t233 := Tryz.underlying449
  a233 := Tryz.isAgg449
  z233 := Tryz.sizeOf449
  v233 := Tryz.zeroValue449
  g17 := by kernel_rfl
  g18 := by kernel_rfl
  g19 := by kernel_rfl }
open Go.RowKit Go.Sort Go.Lib in
theorem Tryz.strconv_Itoa_small (i : Nat) (hi : i < 100) (w : World) :
    Calls Tryz.prog 233 #[.int .i64 i] w fun e w' => e = .returned (.string ⟨(Lib.decDigits i).toArray⟩) ∧ w' = w := Any.strconv_Itoa_small Tryz.lays171 i hi w
open Go.RowKit Go.Lib in
open Go.RowKit Go.Lib in
open Go.RowKit Go.Lib in
open Go.RowKit Go.Lib in
open Go.RowKit Go.Lib in
open Go.RowKit Go.Lib in
open Go.RowKit Go.Lib in
def Tryz.lays145_ren : Go.Shelf.Ren := ⟨fun | 145 => 149 | 220 => 223 | 219 => 270 | 217 => 303 | 225 => 304 | 224 => 305 | 267 => 306 | 266 => 324 | 314 => 325 | n => n, fun | 9 => 9 | 4 => 4 | 59 => 277 | 3 => 3 | 5 => 5 | 46 => 301 | 146 => 429 | 51 => 217 | n => n, fun | 1 => 1 | n => n⟩
theorem Tryz.lays145 : Go.Proofs.Lays.n145 Tryz.prog Tryz.lays145_ren := {
  mixed := by kernel_rfl
  f145 := Tryz.func149.trans (congrArg some (by kernel_rfl))
  f217 := Tryz.func303.trans (congrArg some (by kernel_rfl))
  f219 := Tryz.func270.trans (congrArg some (by kernel_rfl))
  f220 := Tryz.func223.trans (congrArg some (by kernel_rfl))
  f224 := Tryz.func305.trans (congrArg some (by kernel_rfl))
  f225 := Tryz.func304.trans (congrArg some (by kernel_rfl))
  f266 := Tryz.func324.trans (congrArg some (by kernel_rfl))
  f267 := Tryz.func306.trans (congrArg some (by kernel_rfl))
  f314 := Tryz.func325.trans (congrArg some (by kernel_rfl))
  t3 := Tryz.underlying3
  a3 := Tryz.isAgg3
  z3 := Tryz.sizeOf3
  v3 := Tryz.zeroValue3
  t4 := Tryz.underlying4
  a4 := Tryz.isAgg4
  z4 := Tryz.sizeOf4
  v4 := Tryz.zeroValue4
  t5 := Tryz.underlying5
  a5 := Tryz.isAgg5
  z5 := Tryz.sizeOf5
  v5 := Tryz.zeroValue5
  t9 := Tryz.underlying9
  a9 := Tryz.isAgg9
  z9 := Tryz.sizeOf9
  v9 := Tryz.zeroValue9
  t46 := Tryz.underlying301
  a46 := Tryz.isAgg301
  z46 := Tryz.sizeOf301
  v46 := Tryz.zeroValue301
  t51 := Tryz.underlying217
  a51 := Tryz.isAgg217
  z51 := Tryz.sizeOf217
  v51 := Tryz.zeroValue217
  t59 := Tryz.underlying277
  a59 := Tryz.isAgg277
  z59 := Tryz.sizeOf277
  v59 := Tryz.zeroValue277
  t146 := Tryz.underlying429
  a146 := Tryz.isAgg429
  z146 := Tryz.sizeOf429
  v146 := Tryz.zeroValue429
  g1 := by kernel_rfl }
open Go.RowKit Go.Lib in
theorem Tryz.strings_Cut (s sep : ByteArray) (m : Int) (w : World) (hs : s.size < 4294967281) (hm : w.cell? ⟨1, 0, none⟩ = some (.int .i64 m)) :
    Calls Tryz.prog 149 #[.string s, .string sep] w fun e w' => e = .returned (.tuple #[.string ⟨(Lib.cut s.data.toList sep.data.toList).1.toArray⟩, .string ⟨(Lib.cut s.data.toList sep.data.toList).2.1.toArray⟩, .bool (Lib.cut s.data.toList sep.data.toList).2.2]) ∧ ∃ n, w' = w.drewN n := Any.strings_Cut Tryz.lays145 s sep m w hs hm
open Go.RowKit Go.Lib in
open Go.RowKit Go.Lib in
open Go.RowKit Go.Lib in
open Go.Sort Go.RowKit in
open Go.RowKit Go.Lib in
def Tryz.lays99_ren : Go.Shelf.Ren := ⟨fun | 99 => 271 | 206 => 307 | n => n, fun | 9 => 9 | 4 => 4 | 3 => 3 | n => n, fun | n => n⟩
theorem Tryz.lays99 : Go.Proofs.Lays.n99 Tryz.prog Tryz.lays99_ren := {
  mixed := by kernel_rfl
  f99 := Tryz.func271.trans (congrArg some (by kernel_rfl))
  f206 := Tryz.func307.trans (congrArg some (by kernel_rfl))
  t3 := Tryz.underlying3
  a3 := Tryz.isAgg3
  z3 := Tryz.sizeOf3
  v3 := Tryz.zeroValue3
  t4 := Tryz.underlying4
  a4 := Tryz.isAgg4
  z4 := Tryz.sizeOf4
  v4 := Tryz.zeroValue4
  t9 := Tryz.underlying9
  a9 := Tryz.isAgg9
  z9 := Tryz.sizeOf9
  v9 := Tryz.zeroValue9 }
open Go.RowKit Go.Lib in
theorem Tryz.strings_HasPrefix (s p : ByteArray) (w : World) :
    Calls Tryz.prog 271 #[.string s, .string p] w fun e w' => e = .returned (.bool (Lib.hasPrefix s.data.toList p.data.toList)) ∧ w' = w := Any.strings_HasPrefix Tryz.lays99 s p w
def Tryz.lays197_ren : Go.Shelf.Ren := ⟨fun | 197 => 309 | 260 => 328 | n => n, fun | 9 => 9 | 21 => 21 | 3 => 3 | 4 => 4 | 5 => 5 | 105 => 417 | 119 => 442 | 0 => 0 | 46 => 301 | 139 => 445 | 138 => 444 | n => n, fun | 3 => 3 | 4 => 4 | n => n⟩
theorem Tryz.lays197 : Go.Proofs.Lays.n197 Tryz.prog Tryz.lays197_ren := {
  mixed := by kernel_rfl
  f197 := Tryz.func309.trans (congrArg some (by kernel_rfl))
  f260 := Tryz.func328.trans (congrArg some (by kernel_rfl))
  t0 := Tryz.underlying0
  a0 := Tryz.isAgg0
  z0 := Tryz.sizeOf0
  v0 := Tryz.zeroValue0
  t3 := Tryz.underlying3
  a3 := Tryz.isAgg3
  z3 := Tryz.sizeOf3
  v3 := Tryz.zeroValue3
  t4 := Tryz.underlying4
  a4 := Tryz.isAgg4
  z4 := Tryz.sizeOf4
  v4 := Tryz.zeroValue4
  t5 := Tryz.underlying5
  a5 := Tryz.isAgg5
  z5 := Tryz.sizeOf5
  v5 := Tryz.zeroValue5
  t9 := Tryz.underlying9
  a9 := Tryz.isAgg9
  z9 := Tryz.sizeOf9
  v9 := Tryz.zeroValue9
  t21 := Tryz.underlying21
  a21 := Tryz.isAgg21
  z21 := Tryz.sizeOf21
  v21 := Tryz.zeroValue21
  t46 := Tryz.underlying301
  a46 := Tryz.isAgg301
  z46 := Tryz.sizeOf301
  v46 := Tryz.zeroValue301
  t105 := Tryz.underlying417
  a105 := Tryz.isAgg417
  z105 := Tryz.sizeOf417
  v105 := Tryz.zeroValue417
  t119 := Tryz.underlying442
  a119 := Tryz.isAgg442
  z119 := Tryz.sizeOf442
  t138 := Tryz.underlying444
  a138 := Tryz.isAgg444
  z138 := Tryz.sizeOf444
  v138 := Tryz.zeroValue444
  t139 := Tryz.underlying445
  a139 := Tryz.isAgg445
  z139 := Tryz.sizeOf445
  v139 := Tryz.zeroValue445
  g3 := by kernel_rfl
  g4 := by kernel_rfl }
open Go.RowKit Go.Lib in
def Tryz.lays260_ren : Go.Shelf.Ren := ⟨fun | 260 => 328 | n => n, fun | 9 => 9 | 21 => 21 | 3 => 3 | 4 => 4 | 5 => 5 | 119 => 442 | 0 => 0 | 46 => 301 | 139 => 445 | 138 => 444 | n => n, fun | 3 => 3 | 4 => 4 | n => n⟩
theorem Tryz.lays260 : Go.Proofs.Lays.n260 Tryz.prog Tryz.lays260_ren := {
  mixed := by kernel_rfl
  f260 := Tryz.func328.trans (congrArg some (by kernel_rfl))
  t0 := Tryz.underlying0
  a0 := Tryz.isAgg0
  z0 := Tryz.sizeOf0
  v0 := Tryz.zeroValue0
  t3 := Tryz.underlying3
  a3 := Tryz.isAgg3
  z3 := Tryz.sizeOf3
  v3 := Tryz.zeroValue3
  t4 := Tryz.underlying4
  a4 := Tryz.isAgg4
  z4 := Tryz.sizeOf4
  v4 := Tryz.zeroValue4
  t5 := Tryz.underlying5
  a5 := Tryz.isAgg5
  z5 := Tryz.sizeOf5
  v5 := Tryz.zeroValue5
  t9 := Tryz.underlying9
  a9 := Tryz.isAgg9
  z9 := Tryz.sizeOf9
  v9 := Tryz.zeroValue9
  t21 := Tryz.underlying21
  a21 := Tryz.isAgg21
  z21 := Tryz.sizeOf21
  v21 := Tryz.zeroValue21
  t46 := Tryz.underlying301
  a46 := Tryz.isAgg301
  z46 := Tryz.sizeOf301
  v46 := Tryz.zeroValue301
  t119 := Tryz.underlying442
  a119 := Tryz.isAgg442
  z119 := Tryz.sizeOf442
  t138 := Tryz.underlying444
  a138 := Tryz.isAgg444
  z138 := Tryz.sizeOf444
  v138 := Tryz.zeroValue444
  t139 := Tryz.underlying445
  a139 := Tryz.isAgg445
  z139 := Tryz.sizeOf445
  v139 := Tryz.zeroValue445
  g3 := by kernel_rfl
  g4 := by kernel_rfl }
open Go.RowKit Go.Lib in
open Go.RowKit Go.Lib in
theorem Tryz.utf8_DecodeRuneInString (s : ByteArray) (w : World) (hT : Lib.Utf8Tabs 3 4 w) :
    Calls Tryz.prog 309 #[.string s] w fun e w' => e = .returned (.tuple #[.int .i32 (Lib.decodeGo s).1, .int .i64 (Lib.decodeGo s).2]) ∧ Below w.heap.size w w' := Any.utf8_DecodeRuneInString Tryz.lays197 s w hT
open Go.RowKit Go.Lib in
open Go.RowKit Go.Lib in
open Go.RowKit Go.Sort in
def Tryz.lays115_ren : Go.Shelf.Ren := ⟨fun | 115 => 217 | n => n, fun | 37 => 22 | 4 => 4 | 9 => 9 | 5 => 5 | n => n, fun | n => n⟩
theorem Tryz.lays115 : Go.Proofs.Lays.n115 Tryz.prog Tryz.lays115_ren := {
  mixed := by kernel_rfl
  f115 := Tryz.func217.trans (congrArg some (by kernel_rfl))
  t4 := Tryz.underlying4
  a4 := Tryz.isAgg4
  z4 := Tryz.sizeOf4
  v4 := Tryz.zeroValue4
  t9 := Tryz.underlying9
  a9 := Tryz.isAgg9
  z9 := Tryz.sizeOf9
  v9 := Tryz.zeroValue9
  t37 := Tryz.underlying22
  a37 := Tryz.isAgg22
  z37 := Tryz.sizeOf22
  v37 := Tryz.zeroValue22 }
open Go.Proofs Go.RowKit Go.Lib in
theorem Tryz.bytes_Equal_strs (v1 v2 : Value) (t1 t2 : ByteArray) (w : World) (h1 : (convert 22 9 v1).run Tryz.prog w = .ok (.string t1) w) (h2 : (convert 22 9 v2).run Tryz.prog w = .ok (.string t2) w) :
    Calls Tryz.prog 217 #[v1, v2] w fun e w' => e = .returned (.bool (t1.toList == t2.toList)) ∧ w' = w := Any.bytes_Equal_strs Tryz.lays115 v1 v2 t1 t2 w h1 h2
end Go.Proofs
namespace Go.Proofs.YtmbiiemlepfoaaaGreatDoor
open Go.RowKit
set_option linter.unusedVariables false
theorem info5q : (Tryz.prog.info? 5).map (fun i => (i.zero, i.size, i.bytes)) = some (some (.int .u8 0), 1, 1) := by kernel_rfl
theorem infoB : (Tryz.prog.info? 178).map (·.size) = some 2 := by kernel_rfl
abbrev Bd (B b : Nat) (l : List UInt8) (w : World) : Prop := Lib.IsBuilder 178 5 B b (l.map bv) w
structure Wrote (w w' : World) (B b : Nat) (l : List UInt8) : Prop where
  bd : Bd B b l w'
  below : Below B w w'
  others : Lib.OthersKept 5 (some b) w w'
theorem Wrote.trans {w w1 w2 : World} {B b : Nat} {l l' : List UInt8} (h : Wrote w w1 B b l) (h' : Wrote w1 w2 B b l') : Wrote w w2 B b l' :=
  ⟨h'.bd, h.below.trans h'.below, h.others.trans h'.others⟩
theorem Bd.lt {B b : Nat} {l : List UInt8} {w : World} (h : Bd B b l w) : b < w.heap.size := by
  rcases h with h | h <;> exact h.lt
theorem row_ltB {w : World} {b : Nat} {o : Obj} (h : w.heap[b]? = some o) : b < w.heap.size := by
  rcases Nat.lt_or_ge b w.heap.size with h1 | h1
  · exact h1
  · rw [Array.getElem?_eq_none h1] at h; cases h
structure Check (w w' : World) (B b : Nat) (l : List UInt8) : Prop where
  at_ : Lib.BuilderAt 178 5 B b (.pointer (some ⟨b, 0, none⟩)) (l.map bv) w'
  below : Below B w w'
  others : Lib.OthersKept 5 (some b) w w'
set_option maxHeartbeats 1000000 in
set_option maxRecDepth 100000 in
theorem check (w : World) {B b : Nat} {l : List UInt8} (h : Bd B b l w) :
    Calls Tryz.prog 160 #[.pointer (some ⟨b, 0, none⟩)] w fun e w' => e = .returned (.tuple #[]) ∧ Check w w' B b l := by
  obtain ⟨j, hj, hjs⟩ := Option.map_eq_some_iff.1 infoB
  rcases h with h | h
  · have h0 := h.cell0
    have hz := h.frozen0
    have hsh := h.shape
    have HB := Lib.hid h
    have u1 : ∀ W, W.shape? b = some (178, 2) → (convert 176 360 (.pointer (some ⟨b, 0, none⟩))).run Tryz.prog W = .ok (.pointer (some ⟨b, 0, none⟩)) W := fun W hW =>
      Lib.run_to_unsafe W ⟨b, 0, none⟩ Tryz.underlying176 Tryz.underlying360 hj (by rw [hjs]; decide) hW (Nat.zero_lt_succ 1)
    have u2 : ∀ W, W.shape? b = some (178, 2) → (convert 360 176 (.pointer (some ⟨b, 0, none⟩))).run Tryz.prog W = .ok (.pointer (some ⟨b, 0, none⟩)) W := fun W hW =>
      Lib.run_from_unsafe W ⟨b, 0, none⟩ Tryz.underlying360 Tryz.underlying176 hj hW (by kernel_rfl)
    have v1 := u1 w hsh
    have v2 := u2 w hsh
    clear h u1 u2
    go_enter Tryz.func160, Tryz.ntmps160
    go_wp2
    rw [run_callFunc_extern Tryz.func235 (by kernel_rfl) (by kernel_rfl) (by kernel_rfl) (e := Extern.AbiNoEscape.same) (by kernel_rfl)]
    rw [Lib.run_noEscape]
    simp only [Result.andThen]
    rw [Oper.upon_value]
    go_wp2
    go_end0
    exact ⟨rfl, HB.out.used _, (Below.refl B w).setCell (p := ⟨b, 0, none⟩) HB.out.1 _, (Lib.OthersKept.refl _ _ _).setCell ⟨b, 0, none⟩ rfl _⟩
  · have h0 := h.cell0
    have HB := Lib.hid h
    have hn := Lib.run_neq_ptr_same (P := Tryz.prog) w ⟨b, 0, none⟩ Tryz.underlying176 hj
    clear h
    go_enter Tryz.func160, Tryz.ntmps160
    go_wp2
    go_end0
    exact ⟨rfl, HB.out, Below.refl B _, Lib.OthersKept.refl _ _ _⟩
theorem kind_of {w : World} {B : Nat} {v : Value} {n : Nat} {xs : List Value} (h : w.ownsRow B 5 1 v n xs) : ∀ g, v.ownBlock = some g → ∃ c fz, w.heap[g]? = some (.cells c 5 fz) := by
  intro g hg
  rcases h.2 with ⟨rfl, _⟩ | ⟨k, cap, cur, rfl, _, hk, _⟩
  · simp [Value.ownBlock] at hg
  · simp [Value.ownBlock] at hg
    subst hg
    exact ⟨_, _, hk⟩
theorem own_slq {w : World} {base : Nat} {e : TypeId} {s n : Nat} {v : Value} {xs : List Value} (h : w.ownsRow base e s v n xs) : ∃ p c, v = .slice p n c := by
  rcases h.2 with ⟨rfl, rfl⟩ | ⟨g, cap, cur, rfl, _⟩
  · exact ⟨_, _, rfl⟩
  · exact ⟨_, _, rfl⟩
set_option maxHeartbeats 1000000 in
set_option maxRecDepth 100000 in
theorem wByte (w : World) {B b : Nat} {l : List UInt8} (h : Bd B b l w) (c : UInt8) (hl : l.length ≤ 1000000) (hB : B ≤ w.heap.size) :
    Calls Tryz.prog 274 #[.pointer (some ⟨b, 0, none⟩), .int .u8 (c.toNat : Int)] w fun e w' => e = .returned .nilIface ∧ Wrote w w' B b (l ++ [c]) := by
  obtain ⟨i0, hi, hz0, hz1, hz2⟩ := info_parts info5q
  have HC := Lib.hid (check w h)
  clear h
  go_enter Tryz.func274, Tryz.ntmps274
  go_wp2_with fail
  refine HC.out.mono ?_
  rintro e w1 ⟨rfl, hat, hb1, hk1⟩
  obtain ⟨hBb, v, hbk, hown, hne⟩ := hat
  have c1 : w1.cell? ⟨b, 1, none⟩ = some v := by rw [Lib.cell_of_heap hbk]; rfl
  have hs1 := hb1.size
  have HBK := Lib.hid hbk
  have HOWN := Lib.hid hown
  have HNE : Hid (v.ownBlock ≠ some b) := hne
  have HB1 := Lib.hid hb1
  have HK1 : Hid (Lib.OthersKept 5 (some b) w w1) := hk1
  clear HC hbk hown hne hb1 hk1
  go_wp2_with (at_builtin; refine wpList_append_own _ rfl _ _ 22 rfl B 5 i0 (.int .u8 0) 1 1 Tryz.underlying22 hi hz0 hz1 hz2 rfl (by decide) _ _ _ rfl (HOWN.out.alloc _) ⟨w1.heap.size, 0, none⟩ 1 1 [.int .u8 (c.toNat : Int)] rfl rfl ?c1 ?c2 ?c3 ?c4 ?c5 ?_)
  case c1 =>
    intro j u hj
    match j, hj with
    | 0, hj => simp at hj; subst hj; simp [Addr.add]
  case c2 => intro u hu; simp at hu; subst hu; rfl
  case c3 => unfold maxLen; simp; omega
  case c4 => simp; omega
  case c5 => simp; omega
  intro v' w2 hown' hgrow _
  have hlt := row_ltB HBK.out
  have hb2 : w2.heap[b]? = some (.cells #[.pointer (some ⟨b, 0, none⟩), v] 178 (0, 0)) := by
    rw [hgrow.block b (by simp; omega) (fun e => HNE.out e.symm), Lib.alloc_old w1 _ b hlt]
    exact HBK.out
  have d1 : w2.cell? ⟨b, 1, none⟩ = some v := by rw [Lib.cell_of_heap hb2]; rfl
  have f1 : w2.frozen? ⟨b, 1, none⟩ = false := Lib.frozen_of_heap hb2 1
  have hfin : Wrote w (w2.setCell ⟨b, 1, none⟩ v') B b (l ++ [c]) := by
    refine ⟨.inr ?_, ?_, ?_⟩
    · refine Lib.BuilderAt.put hBb hb2 ?_ (by decide)
      simpa [bv] using hown'
    · exact ((HB1.out.alloc (by omega) _).grown hgrow (by simp; omega) (fun k hk => (HOWN.out.lt k hk).1)).setCell (p := ⟨b, 1, none⟩) hBb _
    · exact ((HK1.out.alloc _).grown hgrow (kind_of (HOWN.out.alloc _))).setCell ⟨b, 1, none⟩ rfl _
  have HF := Lib.hid hfin
  obtain ⟨q, d, rfl⟩ := own_slq hown'
  clear hown' hgrow hb2 hfin c1
  go_wp2
  go_ret
  exact ⟨rfl, HF.out⟩
set_option maxHeartbeats 1000000 in
set_option maxRecDepth 100000 in
theorem wStr (w : World) {B b : Nat} {l : List UInt8} (h : Bd B b l w) (s : ByteArray) (hl : l.length ≤ 1000000) (hs : s.size ≤ 1000000) (hB : B ≤ w.heap.size) :
    Calls Tryz.prog 78 #[.pointer (some ⟨b, 0, none⟩), .string s] w fun e w' => e = .returned (.tuple #[.int .i64 s.size, .nilIface]) ∧ Wrote w w' B b (l ++ s.data.toList) := by
  obtain ⟨i0, hi, hz0, hz1, hz2⟩ := info_parts info5q
  have HC := Lib.hid (check w h)
  clear h
  go_enter Tryz.func78, Tryz.ntmps78
  go_wp2_with fail
  refine HC.out.mono ?_
  rintro e w1 ⟨rfl, hat, hb1, hk1⟩
  obtain ⟨hBb, v, hbk, hown, hne⟩ := hat
  have c1 : w1.cell? ⟨b, 1, none⟩ = some v := by rw [Lib.cell_of_heap hbk]; rfl
  have hs1 := hb1.size
  have HBK := Lib.hid hbk
  have HOWN := Lib.hid hown
  have HNE : Hid (v.ownBlock ≠ some b) := hne
  have HB1 := Lib.hid hb1
  have HK1 : Hid (Lib.OthersKept 5 (some b) w w1) := hk1
  clear HC hbk hown hne hb1 hk1
  go_wp2_with (at_builtin; refine Lib.wpList_append_own_string _ rfl _ _ 22 9 rfl B 5 i0 Tryz.underlying22 Tryz.underlying9 hi hz0 hz1 hz2 _ _ _ rfl HOWN.out s rfl ?c3 ?c4 ?c5 ?_)
  case c3 => unfold maxLen; simp; omega
  case c4 => simp; omega
  case c5 => omega
  intro v' w2 hown' hgrow _
  have hlt := row_ltB HBK.out
  have hb2 : w2.heap[b]? = some (.cells #[.pointer (some ⟨b, 0, none⟩), v] 178 (0, 0)) := by
    rw [hgrow.block b hlt (fun e => HNE.out e.symm)]
    exact HBK.out
  have d1 : w2.cell? ⟨b, 1, none⟩ = some v := by rw [Lib.cell_of_heap hb2]; rfl
  have f1 : w2.frozen? ⟨b, 1, none⟩ = false := Lib.frozen_of_heap hb2 1
  have hfin : Wrote w (w2.setCell ⟨b, 1, none⟩ v') B b (l ++ s.data.toList) := by
    refine ⟨.inr ?_, ?_, ?_⟩
    · refine Lib.BuilderAt.put hBb hb2 ?_ (by decide)
      rw [List.map_append, List.length_append, List.length_map, List.length_map]
      have : s.size = s.data.toList.length := by simp
      rw [← this]
      have hsc : Lib.strCells s = s.data.toList.map bv := rfl
      rw [hsc] at hown'
      simpa using hown'
    · exact (HB1.out.grown hgrow (by omega) (fun k hk => (HOWN.out.lt k hk).1)).setCell (p := ⟨b, 1, none⟩) hBb _
    · exact (HK1.out.grown hgrow (kind_of HOWN.out)).setCell ⟨b, 1, none⟩ rfl _
  have HF := Lib.hid hfin
  obtain ⟨q, d, rfl⟩ := own_slq hown'
  clear hown' hgrow hb2 hfin c1
  go_wp2
  go_ret2
  exact ⟨rfl, HF.out⟩
set_option maxHeartbeats 1000000 in
set_option maxRecDepth 100000 in
theorem wRune (w : World) {B b : Nat} {l : List UInt8} (h : Bd B b l w) (r : Nat) (m : List UInt8) (hr : r ≤ 1114111) (hm : Lib.runeCells (r : Int) = m.map bv) (hl : l.length ≤ 1000000) (hB : B ≤ w.heap.size) :
    Calls Tryz.prog 277 #[.pointer (some ⟨b, 0, none⟩), .int .i32 (r : Int)] w fun e w' => (∃ k : Int, e = .returned (.tuple #[.int .i64 k, .nilIface])) ∧ Wrote w w' B b (l ++ m) := by
  have HC := Lib.hid (check w h)
  have hk4 := Lib.runeCells_le (r : Int)
  have HM := Lib.hid hm
  clear h hm
  go_enter Tryz.func277, Tryz.ntmps277
  go_wp2_with fail
  refine HC.out.mono ?_
  rintro e w1 ⟨rfl, hat, hb1, hk1⟩
  obtain ⟨hBb, v, hbk, hown, hne⟩ := hat
  rw [List.length_map] at hown
  obtain ⟨q0, d0, rfl⟩ := own_slq hown
  have c1 : w1.cell? ⟨b, 1, none⟩ = some (.slice q0 l.length d0) := by rw [Lib.cell_of_heap hbk]; rfl
  have hs1 := hb1.size
  have HBK := Lib.hid hbk
  have HOWN := Lib.hid hown
  have HNE : Hid (_ ≠ _) := hne
  have HB1 := Lib.hid hb1
  have HK1 : Hid (Lib.OthersKept 5 (some b) w w1) := hk1
  clear HC hbk hown hne hb1 hk1
  go_wp2_with fail
  ((with_reducible refine (Tryz.utf8_AppendRune_plain B _ _ _ (r : Int) (by omega) (by omega) _ HOWN.out (by omega) (by omega)).mono ?_))
  rintro e w2 ⟨v', rfl, hown', o, hgrow⟩
  have hlt := row_ltB HBK.out
  have hb2 : w2.heap[b]? = some (.cells #[.pointer (some ⟨b, 0, none⟩), .slice q0 l.length d0] 178 (0, 0)) := by
    rw [hgrow.block b (by simp; omega) (fun e => HNE.out e.symm), Lib.alloc_old w1 _ b hlt]
    exact HBK.out
  have d1 : w2.cell? ⟨b, 1, none⟩ = some (.slice q0 l.length d0) := by rw [Lib.cell_of_heap hb2]; rfl
  have f1 : w2.frozen? ⟨b, 1, none⟩ = false := Lib.frozen_of_heap hb2 1
  have hfin : Wrote w (w2.setCell ⟨b, 1, none⟩ v') B b (l ++ m) := by
    refine ⟨.inr ?_, ?_, ?_⟩
    · refine Lib.BuilderAt.put hBb hb2 ?_ (by decide)
      rw [HM.out] at hown'
      simpa using hown'
    · exact ((HB1.out.alloc (by omega) _).grown hgrow (by simp; omega) (fun k hk => (HOWN.out.lt k hk).1)).setCell (p := ⟨b, 1, none⟩) hBb _
    · exact ((HK1.out.alloc _).grown hgrow (kind_of (HOWN.out.alloc _))).setCell ⟨b, 1, none⟩ rfl _
  have HF := Lib.hid hfin
  obtain ⟨q, d, rfl⟩ := own_slq hown'
  clear hown' hgrow hb2 hfin c1
  go_wp2
  go_ret2
  exact ⟨⟨_, rfl⟩, HF.out⟩
def hx (n : Nat) : Nat → List UInt8
  | 0 => []
  | k + 1 => dig (n / 16 ^ k % 16) :: hx n k
theorem and15 (n m : Nat) (hn : n < 65536) : bits .and .u32 ((n : Int) / 2 ^ (4 * m)) 15 = ((n / 16 ^ m % 16 : Nat) : Int) := by
  have e1 : (2 : Nat) ^ (4 * m) = 16 ^ m := by rw [Nat.pow_mul]
  have e2 : ((n : Int) / 2 ^ (4 * m)) = ((n / 16 ^ m : Nat) : Int) := by rw [← e1]; simp
  have e3 : n / 16 ^ m < 4294967296 := Nat.lt_of_le_of_lt (Nat.div_le_self _ _) (by omega)
  rw [e2, show (15 : Int) = ((15 : Nat) : Int) from rfl, u32_and_nat _ _ e3 (by omega)]
  rw [show (15 : Nat) = 2 ^ 4 - 1 from rfl, Nat.and_two_pow_sub_one_eq_mod]
def digits : ByteArray := ⟨#[48, 49, 50, 51, 52, 53, 54, 55, 56, 57, 97, 98, 99, 100, 101, 102]⟩
set_option maxRecDepth 100000 in
theorem index_dig (W : World) (d : Nat) (hd : d < 16) : (Instr.index 9 (.string ⟨#[48, 49, 50, 51, 52, 53, 54, 55, 56, 57, 97, 98, 99, 100, 101, 102]⟩) (.int .u32 (d : Int))).run Tryz.prog W = .ok (.int .u8 ((dig d).toNat : Int)) W := by
  match d, hd with
  | 0, _ | 1, _ | 2, _ | 3, _ | 4, _ | 5, _ | 6, _ | 7, _ | 8, _ | 9, _ | 10, _ | 11, _ | 12, _ | 13, _ | 14, _ | 15, _ => rfl
  | k + 16, h => exact absurd h (by omega)
set_option maxHeartbeats 1000000 in
set_option maxRecDepth 100000 in
theorem hexW (w : World) {B b : Nat} {l : List UInt8} (h : Bd B b l w) (n k : Nat) (hn : n < 65536) (hk : k ≤ 4) (hl : l.length ≤ 900000) (hB : B ≤ w.heap.size) :
    Calls Tryz.prog 276 #[.pointer (some ⟨b, 0, none⟩), .int .u32 (n : Int), .int .i64 (k : Int)] w fun e w' => e = .returned (.tuple #[]) ∧ Wrote w w' B b (l ++ hx n k) := by
  have H : Hid (Wrote w w B b l) := ⟨h, Below.refl _ _, Lib.OthersKept.refl _ _ _⟩
  clear h
  go_enter Tryz.func276, Tryz.ntmps276
  go_wp2
  go_loopw [6] (fun v6 wr => ∃ (j : Nat) (A : List UInt8), v6 = .int .i64 ((j : Int) - 1) ∧ j ≤ k ∧ Hid (A ++ hx n j = hx n k) ∧ A.length ≤ 4 - j ∧ Wrote w wr B b (l ++ A)) (fun v6 _ => (intOf v6 + 1).toNat)
  case atStart => exact ⟨k, [], rfl, Nat.le_refl _, rfl, Nat.zero_le _, by rw [List.append_nil]; exact H.out⟩
  case round =>
    obtain ⟨j, A, rfl, hj, HA, hAl, hw⟩ := hrel
    cases j with
    | zero =>
      have HW := Lib.hid hw
      clear hw
      have e0 : ((0 : Nat) : Int) - 1 = -1 := rfl
      rw [e0]
      go_wp2
      go_end0
      refine ⟨rfl, ?_⟩
      have := HA.out
      rw [show hx n 0 = [] from rfl, List.append_nil] at this
      rw [← this]
      exact HW.out
    | succ m =>
      have e0 : ((m + 1 : Nat) : Int) - 1 = (m : Int) := by omega
      rw [e0]
      have HW := Lib.hid hw
      have hstep : (A ++ [dig (n / 16 ^ m % 16)]) ++ hx n m = hx n k := by
        rw [List.append_assoc]
        exact HA.out
      have HST := Lib.hid hstep
      obtain ⟨dd, hdd⟩ : ∃ dd, dd = n / 16 ^ m % 16 := ⟨_, rfl⟩
      have hlt : dd < 16 := by omega
      have hbits := and15 n m hn
      rw [← hdd] at hbits
      have hix := fun W => index_dig W dd hlt
      have HDD := Lib.hid hdd
      clear hw e0 hstep hdd
      go_wp2_with fail
      refine (wByte wr HW.out.bd (dig dd) (by rw [List.length_append]; omega) (by have := HW.out.below.size; omega)).mono ?_
      rintro e w2 ⟨rfl, h2⟩
      have HW2 := Lib.hid (HW.out.trans h2)
      clear h2 hbits hix
      go_wp2
      go_roundw
      case rel => exact ⟨m, A ++ [dig dd], rfl, by omega, by rw [HDD.out]; exact HST, by rw [List.length_append]; simp; omega, by rw [← List.append_assoc]; exact HW2.out⟩
      case measure => first | (simp [intOf]; done) | (simp [intOf]; omega)
theorem get_bA (s : ByteArray) (i : Nat) : (s.get! i).toNat = bA s.data.toList i := by
  unfold bA
  by_cases h : i < s.size
  · congr 1
    have h1 : s.get! i = s[i]'h := by
      simp [ByteArray.get!, getElem!_pos, h]
      rfl
    rw [h1, List.getD_eq_getElem?_getD, List.getElem?_eq_getElem (by simpa using h)]
    rfl
  · have h2 : s.data.toList[i]? = none := List.getElem?_eq_none (by simp; omega)
    rw [List.getD_eq_getElem?_getD, h2]
    have h4 : s.data[i]? = none := Array.getElem?_eq_none (Nat.le_of_not_lt h)
    simp only [ByteArray.get!, getElem!_def, h4]
    rfl
theorem decode_dec (s : ByteArray) (i : Nat) : Utf8.decode s i = decq (s.data.toList.drop i) := by
  rw [Lib.decode_at]
  unfold decq
  rw [get_bA, get_bA, get_bA, get_bA, bA_drop, bA_drop, bA_drop, bA_drop, List.length_drop]
  simp
theorem decodeGo_dec (s : ByteArray) (h : 0 < s.size) : Lib.decodeGo s = decq s.data.toList := by
  have : Lib.decodeGo s = if s.size = 0 then (65533, 0) else Utf8.decode s 0 := rfl
  rw [this, if_neg (by omega), decode_dec, List.drop_zero]
set_option maxHeartbeats 1000000 in
set_option maxRecDepth 100000 in
theorem strayYes (w : World) (s : ByteArray) (hs : 0 < s.size) (hT : Lib.Utf8Tabs 3 4 w) (hw : wid s.data.toList = 0) :
    Calls Tryz.prog 275 #[.string s] w fun e w' => e = .returned (.bool true) ∧ Below w.heap.size w w' := by
  have hc := Tryz.utf8_DecodeRuneInString s w hT
  rw [decodeGo_dec s hs] at hc
  obtain ⟨h1, h2⟩ := (stray_iff _).2 hw
  rw [h1, h2] at hc
  have HC := Lib.hid hc
  clear hc h1 h2 hw
  go_enter Tryz.func275, Tryz.ntmps275
  go_wp2_with fail
  refine HC.out.mono ?_
  rintro e w' ⟨rfl, hb⟩
  have HB := Lib.hid hb
  clear hb
  go_wp2
  go_ret
  exact ⟨rfl, HB.out⟩
set_option maxHeartbeats 1000000 in
set_option maxRecDepth 100000 in
theorem strayNo (w : World) (s : ByteArray) (hs : 0 < s.size) (hT : Lib.Utf8Tabs 3 4 w) (hw : wid s.data.toList ≠ 0) :
    Calls Tryz.prog 275 #[.string s] w fun e w' => e = .returned (.bool false) ∧ Below w.heap.size w w' := by
  have hc := Tryz.utf8_DecodeRuneInString s w hT
  rw [decodeGo_dec s hs] at hc
  have hn : ¬ ((decq s.data.toList).1 = 65533 ∧ (decq s.data.toList).2 = 1) := fun h => hw ((stray_iff _).1 h)
  obtain ⟨⟨r, n⟩, hd⟩ : ∃ p, decq s.data.toList = p := ⟨_, rfl⟩
  rw [hd] at hc hn
  dsimp only at hc hn
  have HC := Lib.hid hc
  clear hc hw hd
  by_cases h1 : r = 65533
  · subst h1
    have h2 : ((n : Int) == 1) = false := by
      have : n ≠ 1 := fun e => hn ⟨rfl, e⟩
      simp; omega
    go_enter Tryz.func275, Tryz.ntmps275
    go_wp2_with fail
    refine HC.out.mono ?_
    rintro e w' ⟨rfl, hb⟩
    have HB := Lib.hid hb
    clear hb
    go_wp2
    go_ret
    exact ⟨rfl, HB.out⟩
  · have h2 : ((r : Int) == 65533) = false := by simp; omega
    go_enter Tryz.func275, Tryz.ntmps275
    go_wp2_with fail
    refine HC.out.mono ?_
    rintro e w' ⟨rfl, hb⟩
    have HB := Lib.hid hb
    clear hb
    go_wp2
    go_ret
    exact ⟨rfl, HB.out⟩
end Go.Proofs.YtmbiiemlepfoaaaGreatDoor
