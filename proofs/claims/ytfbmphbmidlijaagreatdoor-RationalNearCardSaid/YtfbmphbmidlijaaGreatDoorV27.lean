/- A part of a proof; the last text of this claim says of what. -/
import Derived.Test.YtfbmphbmidlijaaGreatDoorV26
import Derived.Shelf.Strings.Builder1
import Derived.Shelf.Strings.Builder2
import Derived.Shelf.Small.Utf8
import Derived.Shelf.Small.Strs
import Derived.Shelf.Strings.BuilderF
import Derived.Shelf.Strings.BuilderK
import Derived.Shelf.Strconv.Itoa0
import Derived.Shelf.Strconv.Itoa1
import Derived.Shelf.LaysM
import Derived.Shelf.Strconv.Itoa2
import Derived.Shelf.Strconv.Itoa3
import Derived.Shelf.Strconv.Itoa4
import Derived.Shelf.Strconv.ParseIntEmpty
import Derived.Shelf.Strconv.Clone
import Derived.Shelf.Strconv.SyntaxError
import Derived.Shelf.LaysC
import Derived.Shelf.Strconv.ToError
import Derived.Shelf.Strconv.Lower
import Derived.Shelf.Strconv.ParseUint10
import Derived.Shelf.Strconv.ParseUint10Empty
import Derived.Shelf.Strconv.ParseUint10Any
import Derived.Shelf.Strconv.ParseInt10
import Derived.Shelf.Strconv.RangeError
import Derived.Shelf.Strconv.ToErrorRange
import Derived.Shelf.Strconv.ParseUintEmpty
import Derived.Shelf.Strconv.ParseUint10b64
import Derived.Shelf.Strconv.ParseUint10b32
import Derived.Shelf.Strconv.ParseUint10b16
import Derived.Shelf.Strconv.ParseUint10b8
import Derived.Shelf.Strconv.ParseUint10At
import Derived.Shelf.Strconv.ParseInt10At64
import Derived.Shelf.Strconv.ParseInt10At32
import Derived.Shelf.Strconv.ParseInt10At16
import Derived.Shelf.Strconv.ParseInt10At8
import Derived.Shelf.Strconv.ParseInt10All
import Derived.Shelf.Strconv.ParseIntPublic10
import Derived.Ground.MpProg
import Derived.Shelf.Pu.ParseUintPublic10
import Derived.Shelf.Strings.Search1
import Derived.Shelf.Strings.Search2
import Derived.Shelf.Strings.Cut
import Derived.Shelf.Strings.Shaped
import Derived.Shelf.Strings.Prefix
import Derived.Shelf.Strings.Runes
import Derived.Shelf.Strings.AsciiSet
import Derived.Shelf.Bits.Mul64
import Derived.Shelf.Strings.Repeat
import Derived.Shelf.Unicode.DecodeSlow
import Derived.Test.YtfbmphbmidlijaaGreatDoorProg
import Derived.Lib.Walk
import Derived.Lib.ItoaMem
import Derived.Lib.AppendIntMem
import Derived.WalkKit
import Derived.BigCall
import Derived.BigGuard
import Derived.Below
import Derived.Lib.OthersKept
import Derived.RangeFuncCalls
import Derived.RangeFuncWrites
import Derived.Lib.Bytealg
import Derived.Lib.ParseIntB
import Derived.MapKept
import Derived.Carry
import Derived.Lib.Repeat
set_option linter.unusedVariables false
set_option linter.unusedSimpArgs false
set_option linter.unusedSectionVars false
namespace Go.Proofs
open Go.Shelf
def Tryz.lays169_ren : Go.Shelf.Ren := ⟨fun | 169 => 129 | n => n, fun | 70 => 134 | 9 => 9 | 0 => 0 | 72 => 137 | 37 => 135 | 127 => 187 | 3 => 3 | 5 => 5 | n => n, fun | n => n⟩
theorem Tryz.lays169 : Go.Proofs.Lays.n169 Tryz.prog Tryz.lays169_ren := {
  mixed := by kernel_rfl
  f169 := Tryz.func129.trans (congrArg some (by kernel_rfl))
  t0 := Tryz.underlying0
  a0 := Tryz.isAgg0
  z0 := Tryz.sizeOf0
  v0 := Tryz.zeroValue0
  t3 := Tryz.underlying3
  a3 := Tryz.isAgg3
  z3 := Tryz.sizeOf3
  v3 := Tryz.zeroValue3
  t9 := Tryz.underlying9
  a9 := Tryz.isAgg9
  z9 := Tryz.sizeOf9
  v9 := Tryz.zeroValue9
  t37 := Tryz.underlying135
  a37 := Tryz.isAgg135
  z37 := Tryz.sizeOf135
  v37 := Tryz.zeroValue135
  t70 := Tryz.underlying134
  a70 := Tryz.isAgg134
  z70 := Tryz.sizeOf134
  v70 := Tryz.zeroValue134
  t72 := Tryz.underlying137
  a72 := Tryz.isAgg137
  z72 := Tryz.sizeOf137
  v72 := Tryz.zeroValue137
  t127 := Tryz.underlying187
  a127 := Tryz.isAgg187
  z127 := Tryz.sizeOf187
  v127 := Tryz.zeroValue187 }
theorem Tryz.Builder_Extra_169 : Builder.Extra Tryz.prog Tryz.lays169_ren := {
  sizeBuilder := by kernel_rfl
  liesBuilder := by kernel_rfl
  t5 := Tryz.underlying5
  a5 := Tryz.isAgg5
  z5 := Tryz.sizeOf5
  v5 := Tryz.zeroValue5
  infoByte := by kernel_rfl
  cellsByte := by kernel_rfl
  sizeByte := by kernel_rfl
  neB5 := by decide }
open Go.RowKit in
theorem Tryz.Builder_String_any_k (B b : Nat) (l : List UInt8) (w : World) (h : Lib.IsBuilderF 137 5 B b (Lib.byteCells l) w) (hBw : B ≤ w.heap.size) :
    Calls Tryz.prog 129 #[.pointer (some ⟨b, 0, none⟩)] w fun e w' => e = .returned (.string ⟨l.toArray⟩) ∧ (Lib.IsBuilderF 137 5 B b (Lib.byteCells l) w' ∧ Below B w w' ∧ Lib.OthersKept 5 (some b) w w') := Any.Builder_String_any_k Tryz.lays169 Tryz.Builder_Extra_169 B b l w h hBw
def Tryz.lays283_ren : Go.Shelf.Ren := ⟨fun | 283 => 209 | n => n, fun | 3 => 3 | 9 => 9 | 4 => 4 | n => n, fun | n => n⟩
theorem Tryz.lays283 : Go.Proofs.Lays.n283 Tryz.prog Tryz.lays283_ren := {
  mixed := by kernel_rfl
  f283 := Tryz.func209.trans (congrArg some (by kernel_rfl))
  t3 := Tryz.underlying3
  a3 := Tryz.isAgg3
  z3 := Tryz.sizeOf3
  v3 := Tryz.zeroValue3
  t4 := Tryz.underlying4
  a4 := Tryz.isAgg4
  z4 := Tryz.sizeOf4
  v4 := Tryz.zeroValue4
  t9 := Tryz.underlying9
  a9 := Tryz.isAgg9
  z9 := Tryz.sizeOf9
  v9 := Tryz.zeroValue9 }
open Go.Lib in
theorem Tryz.internal_strconv_small (i : Nat) (h : i < 100) (w : World) :
    Calls Tryz.prog 209 #[.int .i64 i] w fun e w' => e = .returned (.string ⟨(Lib.decDigits i).toArray⟩) ∧ w' = w := Any.internal_strconv_small Tryz.lays283 i h w
def Tryz.laysM284_ren : Go.Shelf.Ren := ⟨fun | 284 => 210 | 129 => 223 | 317 => 222 | 318 => 224 | n => n, fun | 53 => 156 | 3 => 3 | 212 => 227 | 0 => 0 | 4 => 4 | 46 => 130 | 5 => 5 | 9 => 9 | n => n, fun | 17 => 5 | n => n⟩
theorem Tryz.laysM284 : Go.Proofs.LaysM.n284 Tryz.prog Tryz.laysM284_ren := {
  mixed := by kernel_rfl
  f129 := Tryz.func223.trans (congrArg some (by kernel_rfl))
  f284 := Tryz.func210.trans (congrArg some (by kernel_rfl))
  f317 := Tryz.func222.trans (congrArg some (by kernel_rfl))
  f318 := Tryz.func224.trans (congrArg some (by kernel_rfl))
  t0 := Tryz.underlying0
  a0 := Tryz.isAgg0
  z0 := Tryz.sizeOf0
  v0 := Tryz.zeroValue0
  t3 := Tryz.underlying3
  a3 := Tryz.isAgg3
  z3 := Tryz.sizeOf3
  v3 := Tryz.zeroValue3
  t4 := Tryz.underlying4
  a4 := Tryz.isAgg4
  z4 := Tryz.sizeOf4
  v4 := Tryz.zeroValue4
  t5 := Tryz.underlying5
  a5 := Tryz.isAgg5
  z5 := Tryz.sizeOf5
  v5 := Tryz.zeroValue5
  t9 := Tryz.underlying9
  a9 := Tryz.isAgg9
  z9 := Tryz.sizeOf9
  v9 := Tryz.zeroValue9
  t46 := Tryz.underlying130
  a46 := Tryz.isAgg130
  z46 := Tryz.sizeOf130
  v46 := Tryz.zeroValue130
  t53 := Tryz.underlying156
  a53 := Tryz.isAgg156
  z53 := Tryz.sizeOf156
  v53 := Tryz.zeroValue156
  t212 := Tryz.underlying227
  a212 := Tryz.isAgg227
  z212 := Tryz.sizeOf227
  v212 := Tryz.zeroValue227
  g17 := by kernel_rfl
  i0 := by kernel_rfl
  i3 := by kernel_rfl
  i4 := by kernel_rfl
  i5 := by kernel_rfl
  i9 := by kernel_rfl
  i46 := by kernel_rfl
  i53 := by kernel_rfl
  i212 := by kernel_rfl
  m17 := by kernel_rfl }
open Go.Lib in
theorem Tryz.internal_strconv_numDigits (u : Nat) (h1 : 1 ≤ u) (h2 : u < 18446744073709551616) (w : World) (htab : Lib.TabIs Tryz.prog w "internal/strconv.uint64pow10" .u64 Lib.pow10Tab) :
    Calls Tryz.prog 210 #[.int .u64 u] w fun e w' => e = .returned (.int .i64 (Lib.nDigits u)) ∧ w' = w := Any.internal_strconv_numDigits Tryz.laysM284 u h1 h2 w htab
def Tryz.lays285_ren : Go.Shelf.Ren := ⟨fun | 285 => 211 | n => n, fun | 37 => 135 | 53 => 156 | 3 => 3 | 4 => 4 | 51 => 92 | 9 => 9 | 5 => 5 | 0 => 0 | n => n, fun | n => n⟩
theorem Tryz.lays285 : Go.Proofs.Lays.n285 Tryz.prog Tryz.lays285_ren := {
  mixed := by kernel_rfl
  f285 := Tryz.func211.trans (congrArg some (by kernel_rfl))
  t0 := Tryz.underlying0
  a0 := Tryz.isAgg0
  z0 := Tryz.sizeOf0
  v0 := Tryz.zeroValue0
  t3 := Tryz.underlying3
  a3 := Tryz.isAgg3
  z3 := Tryz.sizeOf3
  v3 := Tryz.zeroValue3
  t4 := Tryz.underlying4
  a4 := Tryz.isAgg4
  z4 := Tryz.sizeOf4
  v4 := Tryz.zeroValue4
  t5 := Tryz.underlying5
  a5 := Tryz.isAgg5
  z5 := Tryz.sizeOf5
  v5 := Tryz.zeroValue5
  t9 := Tryz.underlying9
  a9 := Tryz.isAgg9
  z9 := Tryz.sizeOf9
  v9 := Tryz.zeroValue9
  t37 := Tryz.underlying135
  a37 := Tryz.isAgg135
  z37 := Tryz.sizeOf135
  v37 := Tryz.zeroValue135
  t51 := Tryz.underlying92
  a51 := Tryz.isAgg92
  z51 := Tryz.sizeOf92
  v51 := Tryz.zeroValue92
  t53 := Tryz.underlying156
  a53 := Tryz.isAgg156
  z53 := Tryz.sizeOf156
  v53 := Tryz.zeroValue156 }
open Go.RowKit Go.Sort Go.Lib in
theorem Tryz.internal_strconv_formatBase10 (blk off cap : Nat) (u : Nat) (d : Array UInt8) (w : World) (hH : Holds (fun (b : UInt8) => Value.int .u8 (b.toNat : Int)) w blk off d) (hu : u < 10 ^ d.size) (hu64 : u < 18446744073709551616) (hsz : d.size < 4611686018427387904) :
    Calls Tryz.prog 211 #[.slice (some ⟨blk, off, none⟩) d.size cap, .int .u64 u] w fun e w' =>
      e = .returned (.tuple #[]) ∧ ∃ (n v' : Nat) (dk : Array UInt8), w' = (putRow (fun (b : UInt8) => Value.int .u8 (b.toNat : Int)) w blk off dk).drewN n ∧ FmtInv d.size u 0 v' dk := Any.internal_strconv_formatBase10 Tryz.lays285 blk off cap u d w hH hu hu64 hsz
def Tryz.laysM171_ren : Go.Shelf.Ren := ⟨fun | 171 => 221 | 243 => 227 | 246 => 200 | 283 => 209 | 284 => 210 | 285 => 211 | 286 => 212 | 129 => 223 | 317 => 222 | 318 => 224 | 319 => 225 | 320 => 226 | 337 => 228 | 338 => 229 | n => n, fun | 3 => 3 | 9 => 9 | 2 => 2 | 4 => 4 | 171 => 211 | 0 => 0 | 53 => 156 | 37 => 135 | 5 => 5 | 173 => 214 | 212 => 227 | 51 => 92 | 20 => 20 | 213 => 228 | 46 => 130 | 232 => 234 | 233 => 235 | n => n, fun | 17 => 5 | 18 => 6 | 19 => 7 | n => n⟩
theorem Tryz.laysM171 : Go.Proofs.LaysM.n171 Tryz.prog Tryz.laysM171_ren := {
  mixed := by kernel_rfl
  f129 := Tryz.func223.trans (congrArg some (by kernel_rfl))
  f171 := Tryz.func221.trans (congrArg some (by kernel_rfl))
  f243 := Tryz.func227.trans (congrArg some (by kernel_rfl))
  f246 := Tryz.func200.trans (congrArg some (by kernel_rfl))
  f283 := Tryz.func209.trans (congrArg some (by kernel_rfl))
  f284 := Tryz.func210.trans (congrArg some (by kernel_rfl))
  f285 := Tryz.func211.trans (congrArg some (by kernel_rfl))
  f286 := Tryz.func212.trans (congrArg some (by kernel_rfl))
  f317 := Tryz.func222.trans (congrArg some (by kernel_rfl))
  f318 := Tryz.func224.trans (congrArg some (by kernel_rfl))
  f319 := Tryz.func225.trans (congrArg some (by kernel_rfl))
  f320 := Tryz.func226.trans (congrArg some (by kernel_rfl))
  f337 := Tryz.func228.trans (congrArg some (by kernel_rfl))
  f338 := Tryz.func229.trans (congrArg some (by kernel_rfl))
  t0 := Tryz.underlying0
  a0 := Tryz.isAgg0
  z0 := Tryz.sizeOf0
  v0 := Tryz.zeroValue0
  t2 := Tryz.underlying2
  a2 := Tryz.isAgg2
  z2 := Tryz.sizeOf2
  v2 := Tryz.zeroValue2
  t3 := Tryz.underlying3
  a3 := Tryz.isAgg3
  z3 := Tryz.sizeOf3
  v3 := Tryz.zeroValue3
  t4 := Tryz.underlying4
  a4 := Tryz.isAgg4
  z4 := Tryz.sizeOf4
  v4 := Tryz.zeroValue4
  t5 := Tryz.underlying5
  a5 := Tryz.isAgg5
  z5 := Tryz.sizeOf5
  v5 := Tryz.zeroValue5
  t9 := Tryz.underlying9
  a9 := Tryz.isAgg9
  z9 := Tryz.sizeOf9
  v9 := Tryz.zeroValue9
  t20 := Tryz.underlying20
  a20 := Tryz.isAgg20
  z20 := Tryz.sizeOf20
  v20 := Tryz.zeroValue20
  t37 := Tryz.underlying135
  a37 := Tryz.isAgg135
  z37 := Tryz.sizeOf135
  v37 := Tryz.zeroValue135
  t46 := Tryz.underlying130
  a46 := Tryz.isAgg130
  z46 := Tryz.sizeOf130
  v46 := Tryz.zeroValue130
  t51 := Tryz.underlying92
  a51 := Tryz.isAgg92
  z51 := Tryz.sizeOf92
  v51 := Tryz.zeroValue92
  t53 := Tryz.underlying156
  a53 := Tryz.isAgg156
  z53 := Tryz.sizeOf156
  v53 := Tryz.zeroValue156
  t171 := Tryz.underlying211
  a171 := Tryz.isAgg211
  z171 := Tryz.sizeOf211
  v171 := Tryz.zeroValue211
  t173 := Tryz.underlying214
  a173 := Tryz.isAgg214
  z173 := Tryz.sizeOf214
  v173 := Tryz.zeroValue214
  t212 := Tryz.underlying227
  a212 := Tryz.isAgg227
  z212 := Tryz.sizeOf227
  v212 := Tryz.zeroValue227
  t213 := Tryz.underlying228
  a213 := Tryz.isAgg228
  z213 := Tryz.sizeOf228
  t232 := Tryz.underlying234
  a232 := Tryz.isAgg234
  z232 := Tryz.sizeOf234
  v232 := Tryz.zeroValue234
  t233 := Tryz.underlying235
  a233 := Tryz.isAgg235
  z233 := Tryz.sizeOf235
  v233 := Tryz.zeroValue235
  g17 := by kernel_rfl
  g18 := by kernel_rfl
  g19 := by kernel_rfl
  i0 := by kernel_rfl
  i2 := by kernel_rfl
  i3 := by kernel_rfl
  i4 := by kernel_rfl
  i5 := by kernel_rfl
  i9 := by kernel_rfl
  i20 := by kernel_rfl
  i37 := by kernel_rfl
  i46 := by kernel_rfl
  i51 := by kernel_rfl
  i53 := by kernel_rfl
  i171 := by kernel_rfl
  i173 := by kernel_rfl
  i212 := by kernel_rfl
  i232 := by kernel_rfl
  i233 := by kernel_rfl
  m17 := by kernel_rfl
  m18 := by kernel_rfl
  m19 := by kernel_rfl }
open Go.RowKit Go.Sort Go.Lib in
theorem Tryz.strconv_Itoa (n : Int) (h0 : -9223372036854775808 ≤ n) (h1 : n ≤ 9223372036854775807) (w : World) (htab : Lib.TabIs Tryz.prog w "internal/strconv.uint64pow10" .u64 Lib.pow10Tab) :
    Calls Tryz.prog 221 #[.int .i64 n] w fun e w' => e = .returned (.string ⟨(Lib.itoa n).toArray⟩) ∧ ∃ k os, w' = grow (w.drewN k) os := Any.strconv_Itoa Tryz.laysM171 n h0 h1 w htab
def Tryz.laysM173_ren : Go.Shelf.Ren := ⟨fun | 173 => 178 | 246 => 200 | 283 => 209 | 284 => 210 | 285 => 211 | 286 => 212 | 129 => 223 | 317 => 222 | 318 => 224 | 319 => 225 | 320 => 226 | 337 => 228 | 338 => 229 | n => n, fun | 2 => 2 | 3 => 3 | 9 => 9 | 4 => 4 | 171 => 211 | 0 => 0 | 53 => 156 | 37 => 135 | 5 => 5 | 173 => 214 | 212 => 227 | 51 => 92 | 20 => 20 | 213 => 228 | 46 => 130 | 232 => 234 | 233 => 235 | n => n, fun | 17 => 5 | 18 => 6 | 19 => 7 | n => n⟩
theorem Tryz.laysM173 : Go.Proofs.LaysM.n173 Tryz.prog Tryz.laysM173_ren := {
  mixed := by kernel_rfl
  f129 := Tryz.func223.trans (congrArg some (by kernel_rfl))
  f173 := Tryz.func178.trans (congrArg some (by kernel_rfl))
  f246 := Tryz.func200.trans (congrArg some (by kernel_rfl))
  f283 := Tryz.func209.trans (congrArg some (by kernel_rfl))
  f284 := Tryz.func210.trans (congrArg some (by kernel_rfl))
  f285 := Tryz.func211.trans (congrArg some (by kernel_rfl))
  f286 := Tryz.func212.trans (congrArg some (by kernel_rfl))
  f317 := Tryz.func222.trans (congrArg some (by kernel_rfl))
  f318 := Tryz.func224.trans (congrArg some (by kernel_rfl))
  f319 := Tryz.func225.trans (congrArg some (by kernel_rfl))
  f320 := Tryz.func226.trans (congrArg some (by kernel_rfl))
  f337 := Tryz.func228.trans (congrArg some (by kernel_rfl))
  f338 := Tryz.func229.trans (congrArg some (by kernel_rfl))
  t0 := Tryz.underlying0
  a0 := Tryz.isAgg0
  z0 := Tryz.sizeOf0
  v0 := Tryz.zeroValue0
  t2 := Tryz.underlying2
  a2 := Tryz.isAgg2
  z2 := Tryz.sizeOf2
  v2 := Tryz.zeroValue2
  t3 := Tryz.underlying3
  a3 := Tryz.isAgg3
  z3 := Tryz.sizeOf3
  v3 := Tryz.zeroValue3
  t4 := Tryz.underlying4
  a4 := Tryz.isAgg4
  z4 := Tryz.sizeOf4
  v4 := Tryz.zeroValue4
  t5 := Tryz.underlying5
  a5 := Tryz.isAgg5
  z5 := Tryz.sizeOf5
  v5 := Tryz.zeroValue5
  t9 := Tryz.underlying9
  a9 := Tryz.isAgg9
  z9 := Tryz.sizeOf9
  v9 := Tryz.zeroValue9
  t20 := Tryz.underlying20
  a20 := Tryz.isAgg20
  z20 := Tryz.sizeOf20
  v20 := Tryz.zeroValue20
  t37 := Tryz.underlying135
  a37 := Tryz.isAgg135
  z37 := Tryz.sizeOf135
  v37 := Tryz.zeroValue135
  t46 := Tryz.underlying130
  a46 := Tryz.isAgg130
  z46 := Tryz.sizeOf130
  v46 := Tryz.zeroValue130
  t51 := Tryz.underlying92
  a51 := Tryz.isAgg92
  z51 := Tryz.sizeOf92
  v51 := Tryz.zeroValue92
  t53 := Tryz.underlying156
  a53 := Tryz.isAgg156
  z53 := Tryz.sizeOf156
  v53 := Tryz.zeroValue156
  t171 := Tryz.underlying211
  a171 := Tryz.isAgg211
  z171 := Tryz.sizeOf211
  v171 := Tryz.zeroValue211
  t173 := Tryz.underlying214
  a173 := Tryz.isAgg214
  z173 := Tryz.sizeOf214
  v173 := Tryz.zeroValue214
  t212 := Tryz.underlying227
  a212 := Tryz.isAgg227
  z212 := Tryz.sizeOf227
  v212 := Tryz.zeroValue227
  t213 := Tryz.underlying228
  a213 := Tryz.isAgg228
  z213 := Tryz.sizeOf228
  t232 := Tryz.underlying234
  a232 := Tryz.isAgg234
  z232 := Tryz.sizeOf234
  v232 := Tryz.zeroValue234
  t233 := Tryz.underlying235
  a233 := Tryz.isAgg235
  z233 := Tryz.sizeOf235
  v233 := Tryz.zeroValue235
  g17 := by kernel_rfl
  g18 := by kernel_rfl
  g19 := by kernel_rfl
  i0 := by kernel_rfl
  i2 := by kernel_rfl
  i3 := by kernel_rfl
  i4 := by kernel_rfl
  i5 := by kernel_rfl
  i9 := by kernel_rfl
  i20 := by kernel_rfl
  i37 := by kernel_rfl
  i46 := by kernel_rfl
  i51 := by kernel_rfl
  i53 := by kernel_rfl
  i171 := by kernel_rfl
  i173 := by kernel_rfl
  i212 := by kernel_rfl
  i232 := by kernel_rfl
  i233 := by kernel_rfl
  m17 := by kernel_rfl
  m18 := by kernel_rfl
  m19 := by kernel_rfl }
open Go.RowKit Go.Sort Go.Lib in
theorem Tryz.strconv_FormatInt_10 (n : Int) (h0 : -9223372036854775808 ≤ n) (h1 : n ≤ 9223372036854775807) (w : World) (htab : Lib.TabIs Tryz.prog w "internal/strconv.uint64pow10" .u64 Lib.pow10Tab) :
    Calls Tryz.prog 178 #[.int .i64 n, .int .i64 10] w fun e w' => e = .returned (.string ⟨(Lib.itoa n).toArray⟩) ∧ ∃ k os, w' = grow (w.drewN k) os := Any.strconv_FormatInt_10 Tryz.laysM173 n h0 h1 w htab
def Tryz.laysC174_ren : Go.Shelf.Ren := ⟨fun | 174 => 177 | 247 => 199 | 245 => 184 | 287 => 183 | 279 => 205 | 280 => 206 | 281 => 207 | 282 => 208 | 321 => 203 | 322 => 204 | 316 => 219 | 171 => 221 | 205 => 220 | 243 => 227 | 246 => 200 | 283 => 209 | 284 => 210 | 285 => 211 | 286 => 212 | 129 => 223 | 317 => 222 | 318 => 224 | 319 => 225 | 320 => 226 | 337 => 228 | 338 => 229 | n => n, fun | 9 => 9 | 3 => 3 | 2 => 2 | 75 => 140 | 85 => 192 | 4 => 4 | 167 => 206 | 5 => 5 | 53 => 156 | 175 => 162 | 46 => 130 | 168 => 208 | 37 => 135 | 0 => 0 | 210 => 225 | 21 => 21 | 127 => 187 | 145 => 232 | 143 => 230 | 171 => 211 | 173 => 214 | 212 => 227 | 51 => 92 | 20 => 20 | 213 => 228 | 232 => 234 | 233 => 235 | 80 => 84 | n => n, fun | 15 => 3 | 16 => 4 | 17 => 5 | 18 => 6 | 19 => 7 | n => n⟩
theorem Tryz.laysC174 : Go.Proofs.LaysC.n174 Tryz.prog Tryz.laysC174_ren := {
  mixed := by kernel_rfl
  f129 := Tryz.func223.trans (congrArg some (by kernel_rfl))
  f171 := Tryz.func221.trans (congrArg some (by kernel_rfl))
  f174 := Tryz.func177.trans (congrArg some (by kernel_rfl))
  f205 := Tryz.func220.trans (congrArg some (by kernel_rfl))
  f243 := Tryz.func227.trans (congrArg some (by kernel_rfl))
  f245 := Tryz.func184.trans (congrArg some (by kernel_rfl))
  f246 := Tryz.func200.trans (congrArg some (by kernel_rfl))
  f247 := Tryz.func199.trans (congrArg some (by kernel_rfl))
  f279 := Tryz.func205.trans (congrArg some (by kernel_rfl))
  f280 := Tryz.func206.trans (congrArg some (by kernel_rfl))
  f281 := Tryz.func207.trans (congrArg some (by kernel_rfl))
  f282 := Tryz.func208.trans (congrArg some (by kernel_rfl))
  f283 := Tryz.func209.trans (congrArg some (by kernel_rfl))
  f284 := Tryz.func210.trans (congrArg some (by kernel_rfl))
  f285 := Tryz.func211.trans (congrArg some (by kernel_rfl))
  f286 := Tryz.func212.trans (congrArg some (by kernel_rfl))
  f287 := Tryz.func183.trans (congrArg some (by kernel_rfl))
  f316 := Tryz.func219.trans (congrArg some (by kernel_rfl))
  f317 := Tryz.func222.trans (congrArg some (by kernel_rfl))
  f318 := Tryz.func224.trans (congrArg some (by kernel_rfl))
  f319 := Tryz.func225.trans (congrArg some (by kernel_rfl))
  f320 := Tryz.func226.trans (congrArg some (by kernel_rfl))
  f321 := Tryz.func203.trans (congrArg some (by kernel_rfl))
  f322 := Tryz.func204.trans (congrArg some (by kernel_rfl))
  f337 := Tryz.func228.trans (congrArg some (by kernel_rfl))
  f338 := Tryz.func229.trans (congrArg some (by kernel_rfl))
  t0 := Tryz.underlying0
  a0 := Tryz.isAgg0
  z0 := Tryz.sizeOf0
  v0 := Tryz.zeroValue0
  t2 := Tryz.underlying2
  a2 := Tryz.isAgg2
  z2 := Tryz.sizeOf2
  v2 := Tryz.zeroValue2
  t3 := Tryz.underlying3
  a3 := Tryz.isAgg3
  z3 := Tryz.sizeOf3
  v3 := Tryz.zeroValue3
  t4 := Tryz.underlying4
  a4 := Tryz.isAgg4
  z4 := Tryz.sizeOf4
  v4 := Tryz.zeroValue4
  t5 := Tryz.underlying5
  a5 := Tryz.isAgg5
  z5 := Tryz.sizeOf5
  v5 := Tryz.zeroValue5
  t9 := Tryz.underlying9
  a9 := Tryz.isAgg9
  z9 := Tryz.sizeOf9
  v9 := Tryz.zeroValue9
  t20 := Tryz.underlying20
  a20 := Tryz.isAgg20
  z20 := Tryz.sizeOf20
  v20 := Tryz.zeroValue20
  t21 := Tryz.underlying21
  a21 := Tryz.isAgg21
  z21 := Tryz.sizeOf21
  v21 := Tryz.zeroValue21
  t37 := Tryz.underlying135
  a37 := Tryz.isAgg135
  z37 := Tryz.sizeOf135
  v37 := Tryz.zeroValue135
  t46 := Tryz.underlying130
  a46 := Tryz.isAgg130
  z46 := Tryz.sizeOf130
  v46 := Tryz.zeroValue130
  t51 := Tryz.underlying92
  a51 := Tryz.isAgg92
  z51 := Tryz.sizeOf92
  v51 := Tryz.zeroValue92
  t53 := Tryz.underlying156
  a53 := Tryz.isAgg156
  z53 := Tryz.sizeOf156
  v53 := Tryz.zeroValue156
  t75 := Tryz.underlying140
  a75 := Tryz.isAgg140
  z75 := Tryz.sizeOf140
  v75 := Tryz.zeroValue140
  t85 := Tryz.underlying192
  a85 := Tryz.isAgg192
  z85 := Tryz.sizeOf192
  v85 := Tryz.zeroValue192
  t127 := Tryz.underlying187
  a127 := Tryz.isAgg187
  z127 := Tryz.sizeOf187
  v127 := Tryz.zeroValue187
  t143 := Tryz.underlying230
  a143 := Tryz.isAgg230
  z143 := Tryz.sizeOf230
  v143 := Tryz.zeroValue230
  t145 := Tryz.underlying232
  a145 := Tryz.isAgg232
  z145 := Tryz.sizeOf232
  v145 := Tryz.zeroValue232
  t167 := Tryz.underlying206
  a167 := Tryz.isAgg206
  z167 := Tryz.sizeOf206
  v167 := Tryz.zeroValue206
  t168 := Tryz.underlying208
  a168 := Tryz.isAgg208
  z168 := Tryz.sizeOf208
  v168 := Tryz.zeroValue208
  t171 := Tryz.underlying211
  a171 := Tryz.isAgg211
  z171 := Tryz.sizeOf211
  v171 := Tryz.zeroValue211
  t173 := Tryz.underlying214
  a173 := Tryz.isAgg214
  z173 := Tryz.sizeOf214
  v173 := Tryz.zeroValue214
  t175 := Tryz.underlying162
  a175 := Tryz.isAgg162
  z175 := Tryz.sizeOf162
  v175 := Tryz.zeroValue162
  t210 := Tryz.underlying225
  a210 := Tryz.isAgg225
  z210 := Tryz.sizeOf225
  v210 := Tryz.zeroValue225
  t212 := Tryz.underlying227
  a212 := Tryz.isAgg227
  z212 := Tryz.sizeOf227
  v212 := Tryz.zeroValue227
  t213 := Tryz.underlying228
  a213 := Tryz.isAgg228
  z213 := Tryz.sizeOf228
  t232 := Tryz.underlying234
  a232 := Tryz.isAgg234
  z232 := Tryz.sizeOf234
  v232 := Tryz.zeroValue234
  t233 := Tryz.underlying235
  a233 := Tryz.isAgg235
  z233 := Tryz.sizeOf235
  v233 := Tryz.zeroValue235
  g15 := by kernel_rfl
  g16 := by kernel_rfl
  g17 := by kernel_rfl
  g18 := by kernel_rfl
  g19 := by kernel_rfl
  t80 := Tryz.underlying84
  a80 := Tryz.isAgg84
  z80 := Tryz.sizeOf84
  v80 := Tryz.zeroValue84
  i0 := by kernel_rfl
  i2 := by kernel_rfl
  i3 := by kernel_rfl
  i4 := by kernel_rfl
  i5 := by kernel_rfl
  i9 := by kernel_rfl
  i20 := by kernel_rfl
  i21 := by kernel_rfl
  i37 := by kernel_rfl
  i46 := by kernel_rfl
  i51 := by kernel_rfl
  i53 := by kernel_rfl
  i75 := by kernel_rfl
  i80 := by kernel_rfl
  i85 := by kernel_rfl
  i127 := by kernel_rfl
  i143 := by kernel_rfl
  i145 := by kernel_rfl
  i167 := by kernel_rfl
  i168 := by kernel_rfl
  i171 := by kernel_rfl
  i173 := by kernel_rfl
  i175 := by kernel_rfl
  i210 := by kernel_rfl
  i212 := by kernel_rfl
  i232 := by kernel_rfl
  i233 := by kernel_rfl
  m15 := by kernel_rfl
  m16 := by kernel_rfl
  m17 := by kernel_rfl
  m18 := by kernel_rfl
  m19 := by kernel_rfl
  c0 := by kernel_rfl
  c2 := by kernel_rfl
  c3 := by kernel_rfl
  c4 := by kernel_rfl
  c5 := by kernel_rfl
  c9 := by kernel_rfl
  c20 := by kernel_rfl
  c21 := by kernel_rfl
  c37 := by kernel_rfl
  c46 := by kernel_rfl
  c51 := by kernel_rfl
  c53 := by kernel_rfl
  c75 := by kernel_rfl
  c80 := by kernel_rfl
  c85 := by kernel_rfl
  c127 := by kernel_rfl
  c143 := by kernel_rfl
  c145 := by kernel_rfl
  c167 := by kernel_rfl
  c168 := by kernel_rfl
  c171 := by kernel_rfl
  c173 := by kernel_rfl
  c175 := by kernel_rfl
  c210 := by kernel_rfl
  c212 := by kernel_rfl
  c213 := by kernel_rfl
  c232 := by kernel_rfl
  c233 := by kernel_rfl }
open Go.RowKit in
theorem Tryz.strconv_ParseInt_10_at64_ok (s : ByteArray) (hmax : s.size ≤ 9223372036854775806) (v : Int) (h : Lib.parseIntB 64 s.data.toList = .ok v) (w : World) :
    Calls Tryz.prog 177 #[.string s, .int .i64 10, .int .i64 64] w fun e w' => e = .returned (.tuple #[.int .i64 v, .nilIface]) ∧ (w' = w ∨ ∃ t, w' = Lib.bytesWorld w 5 t) := Any.strconv_ParseInt_10_at64_ok Tryz.laysC174 s hmax v h w
def Tryz.laysPu14_ren : Go.Shelf.Ren := ⟨fun | 14 => 147 | 16 => 183 | 17 => 184 | 19 => 203 | 20 => 204 | 21 => 205 | 22 => 206 | 23 => 207 | 24 => 208 | 25 => 219 | 27 => 221 | 26 => 220 | 28 => 227 | 29 => 200 | 30 => 209 | 31 => 210 | 32 => 211 | 33 => 212 | 35 => 223 | 34 => 222 | 36 => 224 | 37 => 225 | 38 => 226 | 39 => 228 | 40 => 229 | n => n, fun | 9 => 9 | 3 => 3 | 22 => 156 | 24 => 140 | 25 => 162 | 4 => 4 | 34 => 206 | 5 => 5 | 36 => 130 | 37 => 135 | 0 => 0 | 39 => 208 | 21 => 21 | 44 => 225 | 47 => 187 | 50 => 232 | 48 => 230 | 2 => 2 | 52 => 211 | 55 => 214 | 59 => 227 | 60 => 92 | 20 => 20 | 61 => 228 | 65 => 234 | 66 => 235 | 67 => 84 | n => n, fun | 0 => 3 | 1 => 4 | 2 => 5 | 3 => 6 | 4 => 7 | n => n⟩
theorem Tryz.laysPu14 : Go.Proofs.LaysPu.n14 Tryz.prog Tryz.laysPu14_ren := {
  mixed := by kernel_rfl
  f14 := Tryz.func147.trans (congrArg some (by kernel_rfl))
  f16 := Tryz.func183.trans (congrArg some (by kernel_rfl))
  f17 := Tryz.func184.trans (congrArg some (by kernel_rfl))
  f19 := Tryz.func203.trans (congrArg some (by kernel_rfl))
  f20 := Tryz.func204.trans (congrArg some (by kernel_rfl))
  f21 := Tryz.func205.trans (congrArg some (by kernel_rfl))
  f22 := Tryz.func206.trans (congrArg some (by kernel_rfl))
  f23 := Tryz.func207.trans (congrArg some (by kernel_rfl))
  f24 := Tryz.func208.trans (congrArg some (by kernel_rfl))
  f25 := Tryz.func219.trans (congrArg some (by kernel_rfl))
  f26 := Tryz.func220.trans (congrArg some (by kernel_rfl))
  f27 := Tryz.func221.trans (congrArg some (by kernel_rfl))
  f28 := Tryz.func227.trans (congrArg some (by kernel_rfl))
  f29 := Tryz.func200.trans (congrArg some (by kernel_rfl))
  f30 := Tryz.func209.trans (congrArg some (by kernel_rfl))
  f31 := Tryz.func210.trans (congrArg some (by kernel_rfl))
  f32 := Tryz.func211.trans (congrArg some (by kernel_rfl))
  f33 := Tryz.func212.trans (congrArg some (by kernel_rfl))
  f34 := Tryz.func222.trans (congrArg some (by kernel_rfl))
  f35 := Tryz.func223.trans (congrArg some (by kernel_rfl))
  f36 := Tryz.func224.trans (congrArg some (by kernel_rfl))
  f37 := Tryz.func225.trans (congrArg some (by kernel_rfl))
  f38 := Tryz.func226.trans (congrArg some (by kernel_rfl))
  f39 := Tryz.func228.trans (congrArg some (by kernel_rfl))
  f40 := Tryz.func229.trans (congrArg some (by kernel_rfl))
  t0 := Tryz.underlying0
  a0 := Tryz.isAgg0
  z0 := Tryz.sizeOf0
  v0 := Tryz.zeroValue0
  i0 := by kernel_rfl
  t2 := Tryz.underlying2
  a2 := Tryz.isAgg2
  z2 := Tryz.sizeOf2
  v2 := Tryz.zeroValue2
  i2 := by kernel_rfl
  t3 := Tryz.underlying3
  a3 := Tryz.isAgg3
  z3 := Tryz.sizeOf3
  v3 := Tryz.zeroValue3
  i3 := by kernel_rfl
  t4 := Tryz.underlying4
  a4 := Tryz.isAgg4
  z4 := Tryz.sizeOf4
  v4 := Tryz.zeroValue4
  i4 := by kernel_rfl
  t5 := Tryz.underlying5
  a5 := Tryz.isAgg5
  z5 := Tryz.sizeOf5
  v5 := Tryz.zeroValue5
  i5 := by kernel_rfl
  t9 := Tryz.underlying9
  a9 := Tryz.isAgg9
  z9 := Tryz.sizeOf9
  v9 := Tryz.zeroValue9
  i9 := by kernel_rfl
  t20 := Tryz.underlying20
  a20 := Tryz.isAgg20
  z20 := Tryz.sizeOf20
  v20 := Tryz.zeroValue20
  i20 := by kernel_rfl
  t21 := Tryz.underlying21
  a21 := Tryz.isAgg21
  z21 := Tryz.sizeOf21
  v21 := Tryz.zeroValue21
  i21 := by kernel_rfl
  t22 := Tryz.underlying156
  a22 := Tryz.isAgg156
  z22 := Tryz.sizeOf156
  v22 := Tryz.zeroValue156
  i22 := by kernel_rfl
  t24 := Tryz.underlying140
  a24 := Tryz.isAgg140
  z24 := Tryz.sizeOf140
  v24 := Tryz.zeroValue140
  i24 := by kernel_rfl
  t25 := Tryz.underlying162
  a25 := Tryz.isAgg162
  z25 := Tryz.sizeOf162
  v25 := Tryz.zeroValue162
  i25 := by kernel_rfl
  t34 := Tryz.underlying206
  a34 := Tryz.isAgg206
  z34 := Tryz.sizeOf206
  v34 := Tryz.zeroValue206
  i34 := by kernel_rfl
  c34 := by kernel_rfl
  t36 := Tryz.underlying130
  a36 := Tryz.isAgg130
  z36 := Tryz.sizeOf130
  v36 := Tryz.zeroValue130
  i36 := by kernel_rfl
  t37 := Tryz.underlying135
  a37 := Tryz.isAgg135
  z37 := Tryz.sizeOf135
  v37 := Tryz.zeroValue135
  i37 := by kernel_rfl
  t39 := Tryz.underlying208
  a39 := Tryz.isAgg208
  z39 := Tryz.sizeOf208
  v39 := Tryz.zeroValue208
  i39 := by kernel_rfl
  t44 := Tryz.underlying225
  a44 := Tryz.isAgg225
  z44 := Tryz.sizeOf225
  v44 := Tryz.zeroValue225
  i44 := by kernel_rfl
  t47 := Tryz.underlying187
  a47 := Tryz.isAgg187
  z47 := Tryz.sizeOf187
  v47 := Tryz.zeroValue187
  i47 := by kernel_rfl
  t48 := Tryz.underlying230
  a48 := Tryz.isAgg230
  z48 := Tryz.sizeOf230
  v48 := Tryz.zeroValue230
  i48 := by kernel_rfl
  t50 := Tryz.underlying232
  a50 := Tryz.isAgg232
  z50 := Tryz.sizeOf232
  v50 := Tryz.zeroValue232
  i50 := by kernel_rfl
  t52 := Tryz.underlying211
  a52 := Tryz.isAgg211
  z52 := Tryz.sizeOf211
  v52 := Tryz.zeroValue211
  i52 := by kernel_rfl
  t55 := Tryz.underlying214
  a55 := Tryz.isAgg214
  z55 := Tryz.sizeOf214
  v55 := Tryz.zeroValue214
  i55 := by kernel_rfl
  t59 := Tryz.underlying227
  a59 := Tryz.isAgg227
  z59 := Tryz.sizeOf227
  v59 := Tryz.zeroValue227
  i59 := by kernel_rfl
  t60 := Tryz.underlying92
  a60 := Tryz.isAgg92
  z60 := Tryz.sizeOf92
  v60 := Tryz.zeroValue92
  i60 := by kernel_rfl
  t61 := Tryz.underlying228
  a61 := Tryz.isAgg228
  z61 := Tryz.sizeOf228
  t65 := Tryz.underlying234
  a65 := Tryz.isAgg234
  z65 := Tryz.sizeOf234
  v65 := Tryz.zeroValue234
  i65 := by kernel_rfl
  t66 := Tryz.underlying235
  a66 := Tryz.isAgg235
  z66 := Tryz.sizeOf235
  v66 := Tryz.zeroValue235
  i66 := by kernel_rfl
  t67 := Tryz.underlying84
  a67 := Tryz.isAgg84
  z67 := Tryz.sizeOf84
  v67 := Tryz.zeroValue84
  i67 := by kernel_rfl
  g0 := by kernel_rfl
  m0 := by kernel_rfl
  g1 := by kernel_rfl
  m1 := by kernel_rfl
  g2 := by kernel_rfl
  m2 := by kernel_rfl
  g3 := by kernel_rfl
  m3 := by kernel_rfl
  g4 := by kernel_rfl
  m4 := by kernel_rfl }
open Go.RowKit in
theorem Tryz.strconv_ParseUint_10_at32_ok (s : ByteArray) (hmax : s.size ≤ 9223372036854775806) (u : Nat) (h : Lib.parseUintB 32 s.data.toList = .ok u) (w : World) :
    Calls Tryz.prog 147 #[.string s, .int .i64 10, .int .i64 32] w fun e w' => e = .returned (.tuple #[.int .u64 u, .nilIface]) ∧ (w' = w ∨ w' = Lib.bytesWorld w 5 s) := Any.strconv_ParseUint_10_at32_ok Tryz.laysPu14 s hmax u h w
def Tryz.lays219_ren : Go.Shelf.Ren := ⟨fun | 219 => 146 | 217 => 179 | 225 => 180 | 224 => 181 | 267 => 182 | 266 => 201 | 314 => 202 | n => n, fun | 9 => 9 | 3 => 3 | 4 => 4 | 5 => 5 | 46 => 130 | 146 => 183 | 51 => 92 | n => n, fun | 1 => 0 | n => n⟩
theorem Tryz.lays219 : Go.Proofs.Lays.n219 Tryz.prog Tryz.lays219_ren := {
  mixed := by kernel_rfl
  f217 := Tryz.func179.trans (congrArg some (by kernel_rfl))
  f219 := Tryz.func146.trans (congrArg some (by kernel_rfl))
  f224 := Tryz.func181.trans (congrArg some (by kernel_rfl))
  f225 := Tryz.func180.trans (congrArg some (by kernel_rfl))
  f266 := Tryz.func201.trans (congrArg some (by kernel_rfl))
  f267 := Tryz.func182.trans (congrArg some (by kernel_rfl))
  f314 := Tryz.func202.trans (congrArg some (by kernel_rfl))
  t3 := Tryz.underlying3
  a3 := Tryz.isAgg3
  z3 := Tryz.sizeOf3
  v3 := Tryz.zeroValue3
  t4 := Tryz.underlying4
  a4 := Tryz.isAgg4
  z4 := Tryz.sizeOf4
  v4 := Tryz.zeroValue4
  t5 := Tryz.underlying5
  a5 := Tryz.isAgg5
  z5 := Tryz.sizeOf5
  v5 := Tryz.zeroValue5
  t9 := Tryz.underlying9
  a9 := Tryz.isAgg9
  z9 := Tryz.sizeOf9
  v9 := Tryz.zeroValue9
  t46 := Tryz.underlying130
  a46 := Tryz.isAgg130
  z46 := Tryz.sizeOf130
  v46 := Tryz.zeroValue130
  t51 := Tryz.underlying92
  a51 := Tryz.isAgg92
  z51 := Tryz.sizeOf92
  v51 := Tryz.zeroValue92
  t146 := Tryz.underlying183
  a146 := Tryz.isAgg183
  z146 := Tryz.sizeOf183
  v146 := Tryz.zeroValue183
  g1 := by kernel_rfl }
open Go.RowKit Go.Lib in
theorem Tryz.stringslite_Index_one (s : ByteArray) (c : UInt8) (w : World) :
    Calls Tryz.prog 146 #[.string s, .string ⟨#[c]⟩] w fun e w' => e = .returned (.int .i64 (Lib.indexByte s.data.toList c)) ∧ w' = w := Any.stringslite_Index_one Tryz.lays219 s c w
def Tryz.lays105_ren : Go.Shelf.Ren := ⟨fun | 105 => 77 | 212 => 124 | 99 => 125 | 165 => 126 | 166 => 127 | 170 => 128 | 169 => 129 | 263 => 167 | 264 => 168 | 206 => 151 | 240 => 169 | 241 => 170 | 276 => 194 | 277 => 195 | n => n, fun | 9 => 9 | 3 => 3 | 4 => 4 | 20 => 20 | 0 => 0 | 46 => 130 | 109 => 131 | 5 => 5 | 72 => 137 | 76 => 141 | 51 => 92 | 146 => 183 | 53 => 156 | 148 => 185 | 70 => 134 | 37 => 135 | 75 => 140 | 127 => 187 | 164 => 201 | 80 => 84 | n => n, fun | n => n⟩
theorem Tryz.lays105 : Go.Proofs.Lays.n105 Tryz.prog Tryz.lays105_ren := {
  mixed := by kernel_rfl
  f99 := Tryz.func125.trans (congrArg some (by kernel_rfl))
  f105 := Tryz.func77.trans (congrArg some (by kernel_rfl))
  f165 := Tryz.func126.trans (congrArg some (by kernel_rfl))
  f166 := Tryz.func127.trans (congrArg some (by kernel_rfl))
  f169 := Tryz.func129.trans (congrArg some (by kernel_rfl))
  f170 := Tryz.func128.trans (congrArg some (by kernel_rfl))
  f206 := Tryz.func151.trans (congrArg some (by kernel_rfl))
  f212 := Tryz.func124.trans (congrArg some (by kernel_rfl))
  f240 := Tryz.func169.trans (congrArg some (by kernel_rfl))
  f241 := Tryz.func170.trans (congrArg some (by kernel_rfl))
  f263 := Tryz.func167.trans (congrArg some (by kernel_rfl))
  f264 := Tryz.func168.trans (congrArg some (by kernel_rfl))
  f276 := Tryz.func194.trans (congrArg some (by kernel_rfl))
  f277 := Tryz.func195.trans (congrArg some (by kernel_rfl))
  t0 := Tryz.underlying0
  a0 := Tryz.isAgg0
  z0 := Tryz.sizeOf0
  v0 := Tryz.zeroValue0
  t3 := Tryz.underlying3
  a3 := Tryz.isAgg3
  z3 := Tryz.sizeOf3
  v3 := Tryz.zeroValue3
  t4 := Tryz.underlying4
  a4 := Tryz.isAgg4
  z4 := Tryz.sizeOf4
  v4 := Tryz.zeroValue4
  t5 := Tryz.underlying5
  a5 := Tryz.isAgg5
  z5 := Tryz.sizeOf5
  v5 := Tryz.zeroValue5
  t9 := Tryz.underlying9
  a9 := Tryz.isAgg9
  z9 := Tryz.sizeOf9
  v9 := Tryz.zeroValue9
  t20 := Tryz.underlying20
  a20 := Tryz.isAgg20
  z20 := Tryz.sizeOf20
  v20 := Tryz.zeroValue20
  t37 := Tryz.underlying135
  a37 := Tryz.isAgg135
  z37 := Tryz.sizeOf135
  v37 := Tryz.zeroValue135
  t46 := Tryz.underlying130
  a46 := Tryz.isAgg130
  z46 := Tryz.sizeOf130
  v46 := Tryz.zeroValue130
  t51 := Tryz.underlying92
  a51 := Tryz.isAgg92
  z51 := Tryz.sizeOf92
  v51 := Tryz.zeroValue92
  t53 := Tryz.underlying156
  a53 := Tryz.isAgg156
  z53 := Tryz.sizeOf156
  v53 := Tryz.zeroValue156
  t70 := Tryz.underlying134
  a70 := Tryz.isAgg134
  z70 := Tryz.sizeOf134
  v70 := Tryz.zeroValue134
  t72 := Tryz.underlying137
  a72 := Tryz.isAgg137
  z72 := Tryz.sizeOf137
  v72 := Tryz.zeroValue137
  t75 := Tryz.underlying140
  a75 := Tryz.isAgg140
  z75 := Tryz.sizeOf140
  v75 := Tryz.zeroValue140
  t76 := Tryz.underlying141
  a76 := Tryz.isAgg141
  z76 := Tryz.sizeOf141
  v76 := Tryz.zeroValue141
  t109 := Tryz.underlying131
  a109 := Tryz.isAgg131
  z109 := Tryz.sizeOf131
  v109 := Tryz.zeroValue131
  t127 := Tryz.underlying187
  a127 := Tryz.isAgg187
  z127 := Tryz.sizeOf187
  v127 := Tryz.zeroValue187
  t146 := Tryz.underlying183
  a146 := Tryz.isAgg183
  z146 := Tryz.sizeOf183
  v146 := Tryz.zeroValue183
  t148 := Tryz.underlying185
  a148 := Tryz.isAgg185
  z148 := Tryz.sizeOf185
  v148 := Tryz.zeroValue185
  t164 := Tryz.underlying201
  a164 := Tryz.isAgg201
  z164 := Tryz.sizeOf201
  v164 := Tryz.zeroValue201 }
theorem Tryz.Builder_Extra_105 : Builder.Extra Tryz.prog Tryz.lays105_ren := {
  sizeBuilder := by kernel_rfl
  liesBuilder := by kernel_rfl
  t5 := Tryz.underlying5
  a5 := Tryz.isAgg5
  z5 := Tryz.sizeOf5
  v5 := Tryz.zeroValue5
  infoByte := by kernel_rfl
  cellsByte := by kernel_rfl
  sizeByte := by kernel_rfl
  neB5 := by decide }
open Go.RowKit Go.Lib in
theorem Tryz.strings_Repeat (s : ByteArray) (c : Nat) (w : World) (hc : c ≤ 9223372036854775807) (hlen : s.size * c ≤ 140737488355328) :
    Calls Tryz.prog 77 #[.string s, .int .i64 c] w fun e w' => e = .returned (.string ⟨(Lib.repeatL s.data.toList c).toArray⟩) ∧ Below w.heap.size w w' := Any.strings_Repeat Tryz.lays105 Tryz.Builder_Extra_105 s c w hc hlen
end Go.Proofs
namespace Go.Proofs.YtfbmphbmidlijaaGreatDoor.T
open Go.Shelf Go.RowKit Go.Sort Go.Lib
theorem fin_zero (w : World) (o : Obj) (dk : Array UInt8) (k : Nat) : ∃ os, (putRow (fun (b : UInt8) => Value.int .u8 (b.toNat : Int)) (w.alloc o) w.heap.size 0 dk).drewN k = grow (w.drewN k) os := by
  rw [alloc_eq_grow]
  obtain ⟨os', _, e⟩ := putRow_grow_new (fun (b : UInt8) => Value.int .u8 (b.toNat : Int)) w #[o] w.heap.size 0 dk (Nat.le_refl _)
  exact ⟨os', by rw [e]; rfl⟩
set_option maxHeartbeats 6400000 in
set_option maxRecDepth 100000 in
theorem internal_FormatUint (u : Nat) (hu64 : u < 18446744073709551616) (w : World) (htab : Lib.TabIs Tryz.prog w "internal/strconv.uint64pow10" .u64 Lib.pow10Tab) :
    Calls Tryz.prog 186 #[.int .u64 u, .int .i64 10] w fun e w' => e = .returned (.string ⟨(Lib.decDigits u).toArray⟩) ∧ ∃ k os, w' = grow (w.drewN k) os := by
  by_cases hs : u < 100
  · have hwr : IntKind.i64.wrap (u : Int) = (u : Int) := by rw [IntKind.wrap_i64]; omega
    go_enter Tryz.func186, Tryz.ntmps186
    go_wp2_with (go_at_call 209; refine (Tryz.internal_strconv_small u hs _).mono ?_; rintro e w' ⟨rfl, rfl⟩)
    go_ret
    exact ⟨rfl, 0, #[], by simp [World.drewN_zero]⟩
  · have hu1 : 1 ≤ u := by omega
    have hnd20 : Lib.nDigits u ≤ 20 := by have := Lib.numDigits_eq u hu1 hu64; split at this <;> omega
    have hal : Tryz.prog.arrayLen 211 = 24 := by kernel_rfl
    have hsl1 : ∀ W, (Instr.sliceAt 211 (.pointer (some ⟨w.heap.size, 0, none⟩)) none (some (.int .i64 (Lib.nDigits u : Int))) none).run Tryz.prog W = .ok (.slice (some ⟨w.heap.size, 0, none⟩) (Lib.nDigits u) 24) W := fun W => by
      rw [run_sliceAt_array_h W 211 ⟨w.heap.size, 0, none⟩ (by kernel_rfl) .i64 (Lib.nDigits u : Int) (by omega) (by rw [hal]; omega)]
      rw [hal]; go_simp
    have hH0 := Lib.holds_zero0 w 211 (Lib.nDigits u) (by omega)
    have hfmt := Tryz.internal_strconv_formatBase10 w.heap.size 0 24 u (Array.replicate (Lib.nDigits u) 0) (w.alloc (.cells Lib.zeros24 211)) hH0 (by rw [Array.size_replicate]; exact Lib.lt_pow_nDigits u) hu64 (by rw [Array.size_replicate]; omega)
    rw [Array.size_replicate] at hfmt
    have HH0 := Lib.hid hH0
    clear hH0 hal
    go_enter Tryz.func186, Tryz.ntmps186
    go_wp2_with (first
      | (go_at_call 210; refine (Tryz.internal_strconv_numDigits u hu1 hu64 _ (Lib.tabIs_alloc htab _)).mono ?_; rintro e w' ⟨rfl, rfl⟩))
    go_at_call 211
    refine hfmt.mono ?_
    rintro e w' ⟨rfl, k, v', dk, rfl, hF⟩
    have hcv : (convert 135 9 (.slice (some ⟨w.heap.size, 0, none⟩) (Lib.nDigits u) 24)).run Tryz.prog ((putRow (fun (b : UInt8) => Value.int .u8 (b.toNat : Int)) (w.alloc (.cells Lib.zeros24 211)) w.heap.size 0 dk).drewN k) = .ok (.string ⟨(Lib.decDigits u).toArray⟩) ((putRow (fun (b : UInt8) => Value.int .u8 (b.toNat : Int)) (w.alloc (.cells Lib.zeros24 211)) w.heap.size 0 dk).drewN k) := by
      have h := run_convert_bytes_back (P := Tryz.prog) ((putRow (fun (b : UInt8) => Value.int .u8 (b.toNat : Int)) (w.alloc (.cells Lib.zeros24 211)) w.heap.size 0 dk).drewN k) 135 9 5 ⟨w.heap.size, 0, none⟩ 24 (Lib.decDigits u) (by kernel_rfl) (by kernel_rfl) (by kernel_rfl) (fun j hj => by
        rw [Lib.row_is_numeral hF j hj, Lib.add_plain, World.cell?_drewN]
        exact cell?_putRow (fun (b : UInt8) => Value.int .u8 (b.toNat : Int)) _ w.heap.size 0 _ dk HH0.out (by rw [hF.size, Array.size_replicate]) j (by rw [hF.size]; rw [Lib.decDigits_length] at hj; exact hj))
      rw [Lib.decDigits_length] at h
      exact h
    go_wp2
    go_ret
    obtain ⟨os, eo⟩ := fin_zero w (.cells Lib.zeros24 211) dk k
    exact ⟨rfl, k, os, eo⟩
set_option maxRecDepth 100000 in
theorem strconv_FormatUint (u : Nat) (hu64 : u < 18446744073709551616) (w : World) (htab : Lib.TabIs Tryz.prog w "internal/strconv.uint64pow10" .u64 Lib.pow10Tab) :
    Calls Tryz.prog 150 #[.int .u64 u, .int .i64 10] w fun e w' => e = .returned (.string ⟨(Lib.decDigits u).toArray⟩) ∧ ∃ k os, w' = grow (w.drewN k) os := by
  go_enter Tryz.func150, Tryz.ntmps150
  go_wp2_with (go_at_call 186; refine (internal_FormatUint u hu64 _ htab).mono ?_; rintro e w' ⟨rfl, k, os, rfl⟩)
  go_ret
  exact ⟨rfl, k, os, rfl⟩
end Go.Proofs.YtfbmphbmidlijaaGreatDoor.T
namespace Go.Proofs.YtfbmphbmidlijaaGreatDoor.T
open Go.RowKit Go.Shelf
attribute [local go_sem] Oper.semAt_some
theorem isBuilderF_kept {T e : TypeId} {B b : Nat} {bs : List Value} {w w' : World} {row : Option Nat} (h : Lib.IsBuilderF T e B b bs w) (hg : w.grownBy w' row)
    (hr : ∀ r, row = some r → ∃ o : Obj, w.heap[r]? = some o ∧ o.isCells = false) : Lib.IsBuilderF T e B b bs w' := by
  have one : ∀ p, Lib.BuilderAtF T e B b p bs w → Lib.BuilderAtF T e B b p bs w' := by
    rintro p ⟨hB, v, hb, hown, hne⟩
    refine ⟨hB, v, ?_, hown.kept hg ?_, hne⟩
    · rw [hg.block b (Array.getElem?_eq_some_iff.1 hb).1 (fun e => by
        obtain ⟨o, ho, hc⟩ := hr b e.symm
        rw [hb] at ho; cases ho; cases hc)]
      exact hb
    · cases hv : v.ownBlock with
      | none => exact .inl rfl
      | some g =>
        refine .inr (fun e => ?_)
        obtain ⟨c, fz, hc⟩ := Lib.ownsRowF_kind hown g hv
        obtain ⟨o, ho, hn⟩ := hr g e.symm
        rw [hc] at ho; cases ho; cases hn
  exact h.elim (fun x => .inl (one _ x)) (fun x => .inr (one _ x))
theorem isBuilderF_own {β : Type} (T e : TypeId) (B b : Nat) (f : β → List Value) : Own (fun s W => Lib.IsBuilderF T e B b (f s) W) :=
  fun _ _ _ _ hs hg hr => isBuilderF_kept hs hg hr
def piece (len : Nat) (x : Nat × W9) : List UInt8 := (if x.1 + 1 < len then List.replicate (9 - Lib.nDigits x.2.val) 48 else []) ++ Lib.decDigits x.2.val
def txt (len : Nat) (pre : List (Nat × W9)) : List UInt8 := pre.flatMap (piece len)
theorem txt_snoc (len : Nat) (pre : List (Nat × W9)) (x : Nat × W9) : txt len (pre ++ [x]) = txt len pre ++ piece len x := by simp [txt]
def text (zs : List W9) : List UInt8 := if zs = [] then [48] else txt zs.length (upto (bk zs zs.length) zs.length)
theorem nDigits_le (k : Nat) : ∀ u, u < 10 ^ (k + 1) → Lib.nDigits u ≤ k + 1 := by
  induction k with
  | zero => intro u h; rw [Lib.nDigits_small (by simpa using h)]; omega
  | succ k ih =>
    intro u h
    by_cases h1 : u < 10
    · rw [Lib.nDigits_small h1]; omega
    · rw [Lib.nDigits_big h1]
      have := ih (u / 10) (by rw [Nat.pow_succ] at h; omega)
      omega
theorem nDigits_nine (x : W9) : Lib.nDigits x.val ≤ 9 := nDigits_le 8 x.val x.isLt
theorem piece_len (len : Nat) (x : Nat × W9) : (piece len x).length ≤ 9 := by
  have := nDigits_nine x.2
  unfold piece
  split <;> simp [Lib.decDigits_length] <;> omega
theorem txt_len (len : Nat) (pre : List (Nat × W9)) : (txt len pre).length ≤ 9 * pre.length := by
  induction pre with
  | nil => simp [txt]
  | cons x l ih => have := piece_len len x; simp only [txt, List.flatMap_cons, List.length_append, List.length_cons] at ih ⊢; omega
theorem WriteString_k (B b : Nat) (bs : List Value) (s : ByteArray) (w : World) (h : Lib.IsBuilderF 137 5 B b bs w) (hlen : bs.length + s.size ≤ 140737488355328) (hBw : B ≤ w.heap.size) :
    Calls Tryz.prog 127 #[.pointer (some ⟨b, 0, none⟩), .string s] w fun e w' => e = .returned (.tuple #[.int .i64 s.size, .nilIface]) ∧ (Lib.BuilderAtF 137 5 B b (.pointer (some ⟨b, 0, none⟩)) (bs ++ Lib.strCells s) w' ∧ Below B w w' ∧ Lib.OthersKept 5 (some b) w w') :=
  Any.Builder_WriteString_k (ρ := Tryz.lays105_ren) { Tryz.lays105 with } Tryz.Builder_Extra_105 B b bs s w h hlen hBw
theorem strCells_list (l : List UInt8) : Lib.strCells ⟨l.toArray⟩ = Lib.byteCells l := by simp [Lib.strCells, Lib.byteCells]
theorem repeat_zero (n : Nat) : Lib.repeatL [48] n = List.replicate n (48 : UInt8) := by
  induction n with
  | zero => rfl
  | succ n ih => simp [Lib.repeatL, List.replicate_succ] at ih ⊢; try exact ih
theorem isBuilderF_below {T e : TypeId} {B b : Nat} {bs : List Value} {w w' : World} (h : Lib.IsBuilderF T e B b bs w) (hB : Below w.heap.size w w') : Lib.IsBuilderF T e B b bs w' :=
  isBuilderF_kept (row := none) h ⟨hB.os, hB.tape, hB.output, hB.size, fun k hk _ => hB.block k hk⟩ (fun r e => by cases e)
theorem heap_own {β : Type} (b : Nat) (c : Array Value) (t : TypeId) (fz : Nat × Nat) : Own (fun (_ : β) W => W.heap[b]? = some (.cells c t fz)) := fun s X Y row hs hg hr => by
  show Y.heap[b]? = _
  rw [hg.block b (Array.getElem?_eq_some_iff.1 hs).1 (fun e => by
    obtain ⟨o, ho, hc⟩ := hr b e.symm
    rw [show X.heap[b]? = _ from hs] at ho; cases ho; cases hc)]
  exact hs
def Step (n₀ b : Nat) (W W' : World) : Prop := KeepsOthers W W' ∧ Below n₀ W W' ∧ ∀ k c fz, k ≠ b → W.heap[k]? = some (.cells c 104 fz) → W'.heap[k]? = some (.cells c 104 fz)
theorem Step.trans {n₀ b : Nat} {A B C : World} (h : Step n₀ b A B) (k : Step n₀ b B C) : Step n₀ b A C :=
  ⟨h.1.trans k.1, h.2.1.trans k.2.1, fun i c fz hi x => k.2.2 i c fz hi (h.2.2 i c fz hi x)⟩
theorem Step.of_below {n₀ b : Nat} {w w' : World} (hn : n₀ ≤ w.heap.size) (h : Below w.heap.size w w') : Step n₀ b w w' :=
  ⟨⟨h.size, fun k o ho _ => by rw [h.block k (Array.getElem?_eq_some_iff.1 ho).1]; exact ho⟩, h.mono hn, fun k c fz _ x => by rw [h.block k (Array.getElem?_eq_some_iff.1 x).1]; exact x⟩
theorem Step.of_written {n₀ b : Nat} {w w' : World} (h : Below n₀ w w') (ho : Lib.OthersKept 5 (some b) w w') (hc : ∃ c T fz, w.heap[b]? = some (.cells c T fz)) : Step n₀ b w w' := by
  refine ⟨⟨h.size, fun k o hk hn => ?_⟩, h, fun k c fz hk x => ho k _ x (fun e => hk (by cases e; rfl)) (fun c' fz' e => by cases e)⟩
  refine ho k o hk (fun e => ?_) (fun c fz e => by subst e; cases hn)
  cases e
  obtain ⟨c, T, fz, hb⟩ := hc
  rw [hb] at hk; cases hk; cases hn
theorem isBuilderF_cells {T e : TypeId} {B b : Nat} {bs : List Value} {w : World} (h : Lib.IsBuilderF T e B b bs w) : ∃ c T fz, w.heap[b]? = some (.cells c T fz) := by
  rcases h with ⟨_, v, hb, _⟩ | ⟨_, v, hb, _⟩ <;> exact ⟨_, _, _, hb⟩
theorem formatUint_b (u : Nat) (hu64 : u < 18446744073709551616) (w : World) (htab : Lib.TabIs Tryz.prog w "internal/strconv.uint64pow10" .u64 Lib.pow10Tab) :
    Calls Tryz.prog 150 #[.int .u64 u, .int .i64 10] w fun e w' => e = .returned (.string ⟨(Lib.decDigits u).toArray⟩) ∧ Below w.heap.size w w' :=
  (strconv_FormatUint u hu64 w htab).mono fun e w' ⟨he, k, os, hw⟩ => ⟨he, hw ▸ Lib.below_grow _ _ (Nat.le_refl _) _ _⟩
set_option maxRecDepth 100000 in
set_option maxHeartbeats 4000000 in
theorem text_calls (a : Option Addr) (cap : Nat) (zs : List W9) (hlen : zs.length ≤ 4294967296) (w : World) (hI : zs ≠ [] → Ints w.heap.size w (.slice a zs.length cap) zs) (htab : Lib.TabIs Tryz.prog w "internal/strconv.uint64pow10" .u64 Lib.pow10Tab) :
    Calls Tryz.prog 101 #[.slice a zs.length cap] w fun e w' => e = .returned (.string ⟨(text zs).toArray⟩) ∧ Below w.heap.size w w' := by
  refine (callsIn_wide (n := 3)).1 ?_
  refine callsIn_of_wp_marks Tryz.func101 rfl trivial ?_ rfl
  simp only [Tryz.ntmps101, List.size_toArray, List.length_cons, List.length_nil, Nat.reduceAdd, Nat.reduceSub, Array.replicate_succ, Array.replicate_zero, List.push_toArray, List.append_toArray, List.nil_append, List.cons_append]
  by_cases h0 : zs = []
  · subst h0
    gi_wp2
    exact ⟨_, results_tmp rfl _ _ _, by simp [text], (Below.refl _ w).alloc (Nat.le_refl _) _⟩
  · have hp : zs.length ≠ 0 := by simpa using h0
    gi_wp2_with (refine ⟨trivial, ?_⟩; gi_at_call 149; refine (back_in _ _ trivial rfl _ _ _ _).mono ?_; rintro e w' ⟨rfl, rfl⟩)
    have hB0 : Below w.heap.size w (((w.alloc (.cells #[.slice a zs.length cap] 104)).alloc (.cells #[.pointer none, .slice none 0 0] 137)).alloc (.cells #[.slice a zs.length cap] 104)) :=
      (((Below.refl _ w).alloc (Nat.le_refl _) _).alloc (by simp) _).alloc (by simp; omega) _
    have hx0 : (((w.alloc (.cells #[.slice a zs.length cap] 104)).alloc (.cells #[.pointer none, .slice none 0 0] 137)).alloc (.cells #[.slice a zs.length cap] 104)).heap[w.heap.size]? = some (.cells #[.slice a zs.length cap] 104 (0, 0)) := by
      exact ((((Below.refl (w.heap.size + 1) _).alloc (by simp) _).alloc (by simp) _).block w.heap.size (by omega)).trans (World.alloc_heap_new w _)
    have hx1 : (((w.alloc (.cells #[.slice a zs.length cap] 104)).alloc (.cells #[.pointer none, .slice none 0 0] 137)).alloc (.cells #[.slice a zs.length cap] 104)).heap[w.heap.size + 1]? = some (.cells #[.pointer none, .slice none 0 0] 137 (0, 0)) := by
      have h2 := World.alloc_heap_new (w.alloc (.cells #[.slice a zs.length cap] 104)) (.cells #[.pointer none, .slice none 0 0] 137)
      rw [World.size_alloc] at h2
      exact ((((Below.refl (w.heap.size + 2) _).alloc (by simp) _).block (w.heap.size + 1) (by omega))).trans h2
    have hx2 : (((w.alloc (.cells #[.slice a zs.length cap] 104)).alloc (.cells #[.pointer none, .slice none 0 0] 137)).alloc (.cells #[.slice a zs.length cap] 104)).heap[w.heap.size + 1 + 1]? = some (.cells #[.slice a zs.length cap] 104 (0, 0)) := by
      have h2 := World.alloc_heap_new ((w.alloc (.cells #[.slice a zs.length cap] 104)).alloc (.cells #[.pointer none, .slice none 0 0] 137)) (.cells #[.slice a zs.length cap] 104)
      rw [World.size_alloc, World.size_alloc] at h2
      exact h2
    refine wpIn_rangeFunc_ownG rfl (by omega) (gf := 185) (lb := #[.pointer (some ⟨w.heap.size + 1 + 1, 0, none⟩)]) rfl trivial (enters_of Tryz.func185 (by kernel_rfl) rfl)
      (back_stops Fence.wide _ trivial rfl (by omega) (w.heap.size + 1 + 1) w.heap.size (.slice a zs.length cap) zs (by omega) _ (by simp) (by simp; omega) (0, 0) hx2 ((hI h0).below hB0))
      Kq.trans (Kq.turn (by simp; omega) (by simp)) (Below.refl _ _) (fun _ => rfl)
      (fun pre W => (Lib.IsBuilderF 137 5 (w.heap.size + 1) (w.heap.size + 1) (Lib.byteCells (txt zs.length pre)) W ∧ W.heap[w.heap.size]? = some (.cells #[.slice a zs.length cap] 104 (0, 0))) ∧ Below w.heap.size w W)
      (fun _ _ _ => False)
      (OwnFrom.and (OwnFrom.and (Own.from (isBuilderF_own _ _ _ _ _) _) (Own.from (heap_own _ _ _ _) _)) (ownFrom_below (Nat.le_refl _) (by simp; omega)))
      (fun _ _ _ _ _ hs _ _ => hs)
      ⟨⟨.inl ⟨Nat.le_refl _, _, hx1, World.ownsRowF_nil _ _ _ _, by simp [Value.ownBlock]⟩, hx0⟩, hB0⟩
      (fun x => { tmps := #[.slice a zs.length cap, .pointer (some ⟨w.heap.size, 0, none⟩), .string ⟨#[]⟩, .pointer (some ⟨w.heap.size + 1, 0, none⟩), .int .i64 (x.1 : Int), .int .u32 (x.2.val : Int), undef, .slice a zs.length cap, .int .i64 (zs.length : Int), .bool false, .slice a zs.length cap, .func (.func 185) #[] #[.pointer (some ⟨w.heap.size + 1 + 1, 0, none⟩)], .int .i64 (x.1 : Int), .int .u32 (x.2.val : Int), undef, undef, undef, undef, undef, undef, undef, undef, undef, undef, undef, undef, undef, undef, undef, undef], defers := [] }) ?assign ?body ?done ?stop
    case assign =>
      intro l x W K hK
      gi_wp2
      exact hK
    case stop =>
      rintro D c pre W _ _ h _
      exact h.elim
    case body =>
      rintro l pre x W ⟨⟨hb, hbox⟩, hB⟩ hlt
      have hx := x.2.isLt
      have hboxc := cell_heap hbox
      have hnd := nDigits_nine x.2
      have hnp := Lib.nDigits_pos x.2.val
      have htab' : Lib.TabIs Tryz.prog W "internal/strconv.uint64pow10" .u64 Lib.pow10Tab := Lib.tabBelow_of_tabIs htab W hB
      have hu : IntKind.u64.wrap (x.2.val : Int) = (x.2.val : Int) := by rw [IntKind.wrap_u64]; omega
      have hw1 : wrap64 ((zs.length : Int) - 1) = (zs.length : Int) - 1 := by unfold wrap64; omega
      have hw9 : wrap64 (9 - (Lib.nDigits x.2.val : Int)) = ((9 - Lib.nDigits x.2.val : Nat) : Int) := by unfold wrap64; omega
      have htl := txt_len zs.length pre
      have hs0 : w.heap.size ≤ W.heap.size := hB.size
      obtain ⟨cb, Tb, fb, hcb⟩ := isBuilderF_cells hb
      have hsb := (Array.getElem?_eq_some_iff.1 hcb).1
      clear hcb
      gi_wp2_with (refine ⟨trivial, ?_⟩; gi_at_call 150; refine (CallsIn.inRound l (callsIn_wide.2 (formatUint_b x.2.val (by omega) _ htab'))).mono ?_; rintro e W1 ⟨rfl, hB1⟩; have hb1 := isBuilderF_below hb hB1; have hS1 := Step.of_below (b := w.heap.size + 1) hs0 hB1; have hbox1 := hS1.2.2 _ _ _ (by omega) hbox; have hboxc1 := cell_heap hbox1)
      ·
        rename_i hlt1
        have hlt2 : x.1 + 1 < zs.length := by omega
        rw [Lib.decDigits_length, hw9]
        refine ⟨trivial, ?_⟩
        refine (CallsIn.inRound l (callsIn_wide.2 (Tryz.strings_Repeat ⟨#[48]⟩ (9 - Lib.nDigits x.2.val) W1 (by omega) (by show 1 * _ ≤ _; omega)))).mono ?_
        rintro e W2 ⟨rfl, hB2⟩
        have hb2 := isBuilderF_below hb1 hB2
        have hS2 := hS1.trans (Step.of_below (Nat.le_trans hs0 hB1.size) hB2)
        gi_wp2
        refine ⟨trivial, ?_⟩
        refine (CallsIn.inRound l (callsIn_wide.2 (WriteString_k (w.heap.size + 1) (w.heap.size + 1) _ _ W2 hb2 (by rw [Lib.byteCells_length]; simp [ByteArray.size, Lib.repeatL_length]; omega) (by have := hB1.size; have := hB2.size; omega)))).mono ?_
        rintro e W3 ⟨rfl, hb3, hB3, hO3⟩
        have hS3 := hS2.trans (Step.of_written (hB3.mono (Nat.le_succ _)) hO3 (isBuilderF_cells hb2))
        gi_wp2
        refine ⟨trivial, ?_⟩
        refine (CallsIn.inRound l (callsIn_wide.2 (WriteString_k (w.heap.size + 1) (w.heap.size + 1) _ _ W3 (.inr hb3) (by rw [List.length_append, Lib.byteCells_length, Lib.strCells_length]; simp [ByteArray.size, Lib.decDigits_length, Lib.repeatL_length]; omega) (by have := hB1.size; have := hB2.size; have := hB3.size; omega)))).mono ?_
        rintro e W4 ⟨rfl, hb4, hB4, hO4⟩
        have hS4 := hS3.trans (Step.of_written (hB4.mono (Nat.le_succ _)) hO4 (isBuilderF_cells (.inr hb3)))
        gi_wp2
        refine ⟨hS4.1.from _, ⟨hS4.2.1, fun c fz hc => hS4.2.2 _ c fz (by omega) hc⟩, ⟨.inr ?_, hS4.2.2 _ _ _ (by omega) hbox⟩, hB.trans hS4.2.1⟩
        rw [txt_snoc]
        unfold piece
        rw [if_pos hlt2]
        rw [strCells_list, strCells_list, repeat_zero] at hb4
        simpa [Lib.byteCells] using hb4
      · have hlt2 : ¬ x.1 + 1 < zs.length := by rename_i hlt1; omega
        refine ⟨trivial, ?_⟩
        refine (CallsIn.inRound l (callsIn_wide.2 (WriteString_k (w.heap.size + 1) (w.heap.size + 1) _ _ W1 hb1 (by rw [Lib.byteCells_length]; simp [ByteArray.size, Lib.decDigits_length]; omega) (by have := hB1.size; omega)))).mono ?_
        rintro e W2 ⟨rfl, hb2, hB2, hO2⟩
        have hS2 := hS1.trans (Step.of_written (hB2.mono (Nat.le_succ _)) hO2 (isBuilderF_cells hb1))
        gi_wp2
        refine ⟨hS2.1.from _, ⟨hS2.2.1, fun c fz hc => hS2.2.2 _ c fz (by omega) hc⟩, ⟨.inr ?_, hS2.2.2 _ _ _ (by omega) hbox⟩, hB.trans hS2.2.1⟩
        rw [txt_snoc]
        unfold piece
        rw [if_neg hlt2]
        rw [strCells_list] at hb2
        simpa [Lib.byteCells] using hb2
    case done =>
      rintro D ys W hD rfl ⟨⟨hb, hbox⟩, hB⟩ hK
      gi_wp2
      obtain ⟨cb, Tb, fb, hcb⟩ := isBuilderF_cells hb
      have hsb := (Array.getElem?_eq_some_iff.1 hcb).1
      clear hcb
      refine ⟨trivial, ?_⟩
      refine (callsIn_wide.2 (Tryz.Builder_String_any_k (w.heap.size + 1) (w.heap.size + 1) _ W hb (by omega))).mono ?_
      rintro e W2 ⟨rfl, hb2, hB2, hO2⟩
      have hD2 : w.heap.size + 3 ≤ D := by simp at hD; omega
      have hK2 : W2.heap[D]? = some (.deferred (some [])) := hO2 D _ hK (by intro e; cases e; omega) (fun c fz e => by cases e)
      gi_wp2
      refine ⟨by simp, .inl ⟨_, _, rfl, run_takeDeferred hK2, ?_⟩⟩
      exact ⟨_, results_tmp rfl _ _ _, by simp [text, h0], (hB.trans (hB2.mono (Nat.le_succ _))).trans (belowK_b (w := w) (Nat.le_refl _) W2 D _ _ (by omega) hK2 rfl rfl)⟩
end Go.Proofs.YtfbmphbmidlijaaGreatDoor.T
namespace Gb
open Go Go.RowKit Go.Proofs.YtfbmphbmidlijaaGreatDoor.T
def valW (zs : List W9) : Nat := zs.foldr (fun x v => x.val + 1000000000 * v) 0
theorem valW_nil : valW [] = 0 := rfl
theorem valW_cons (x : W9) (zs : List W9) : valW (x :: zs) = x.val + 1000000000 * valW zs := rfl
theorem valW_drop (zs : List W9) (i : Nat) (hi : i < zs.length) : valW (zs.drop i) = (zs[i]?.getD 0).val + 1000000000 * valW (zs.drop (i + 1)) := by
  rw [List.drop_eq_getElem_cons hi, valW_cons, List.getElem?_eq_getElem hi]; rfl
theorem natOf_zeros (n : Nat) : natOf (List.replicate n 48) = 0 := by
  induction n with
  | zero => rfl
  | succ n ih => rw [List.replicate_succ', natOf_snoc, ih]; rfl
theorem piece_natOf (len : Nat) (x : Nat × W9) : natOf (piece len x) = x.2.val := by
  unfold piece
  split
  · rw [natOf_append, natOf_zeros, natOf_dec]; omega
  · rw [List.nil_append, natOf_dec]
theorem piece_isD (len : Nat) (x : Nat × W9) : ∀ c ∈ piece len x, isD c = true := by
  intro c hc
  unfold piece at hc
  rcases List.mem_append.1 hc with h | h
  · split at h
    · rw [List.mem_replicate] at h; rw [h.2]; decide
    · cases h
  · exact dec_isD _ c h
theorem piece_nine (len : Nat) (x : Nat × W9) (h : x.1 + 1 < len) : (piece len x).length = 9 := by
  have := nDigits_nine x.2
  unfold piece
  rw [if_pos h, List.length_append, List.length_replicate, Lib.decDigits_length]; omega
theorem txt_val (zs : List W9) : ∀ k, k ≤ zs.length → natOf (txt zs.length (upto (bk zs zs.length) k)) = valW (zs.drop (zs.length - k)) := by
  intro k
  induction k with
  | zero => intro _; rw [Nat.sub_zero, List.drop_length]; rfl
  | succ k ih =>
    intro hk
    have h1 := ih (by omega)
    have hd := valW_drop zs (zs.length - (k + 1)) (by omega)
    rw [show zs.length - (k + 1) + 1 = zs.length - k by omega] at hd
    rw [upto_succ, txt_snoc, natOf_append, h1, hd, piece_natOf]
    have hb : (bk zs zs.length k).2.val = (zs[zs.length - (k + 1)]?.getD 0).val := by unfold bk; rw [show zs.length - 1 - k = zs.length - (k + 1) by omega]
    rw [hb]
    by_cases h0 : k = 0
    · subst h0
      rw [Nat.sub_zero, List.drop_length, valW_nil]; omega
    · rw [piece_nine _ _ (by unfold bk; show zs.length - 1 - k + 1 < _; omega)]
      omega
theorem txt_isD (zs : List W9) (pre : List (Nat × W9)) : ∀ c ∈ txt zs.length pre, isD c = true := by
  intro c hc
  unfold txt at hc
  obtain ⟨x, _, hx⟩ := List.mem_flatMap.1 hc
  exact piece_isD _ _ c hx
theorem txt_head (zs : List W9) (h0 : zs ≠ []) (ht : (zs[zs.length - 1]?.getD 0).val ≠ 0) : ∀ k, (txt zs.length (upto (bk zs zs.length) (k + 1))).head? = (Lib.decDigits (zs[zs.length - 1]?.getD 0).val).head? := by
  have hp := List.length_pos_iff.2 h0
  intro k
  induction k with
  | zero =>
    rw [upto_succ, txt_snoc]
    have : piece zs.length (bk zs zs.length 0) = Lib.decDigits (zs[zs.length - 1]?.getD 0).val := by
      unfold piece bk
      rw [if_neg (by show ¬ (zs.length - 1 - 0 + 1 < zs.length); omega), List.nil_append, Nat.sub_zero]
    rw [this]; rfl
  | succ k ih =>
    rw [upto_succ, txt_snoc]
    have hne : txt zs.length (upto (bk zs zs.length) (k + 1)) ≠ [] := by
      intro h
      rw [h] at ih
      cases hd : Lib.decDigits (zs[zs.length - 1]?.getD 0).val with
      | nil => exact dec_ne _ hd
      | cons c l => rw [hd] at ih; cases ih
    rw [← ih]
    cases hd : txt zs.length (upto (bk zs zs.length) (k + 1)) with
    | nil => exact absurd hd hne
    | cons c l => rfl
theorem text_dec (zs : List W9) (ht : zs ≠ [] → (zs[zs.length - 1]?.getD 0).val ≠ 0) : text zs = Lib.decDigits (valW zs) := by
  unfold text
  by_cases h0 : zs = []
  · rw [if_pos h0, h0, valW_nil]
    have h := dec_natOf (l := [48]) (by decide)
    rw [show natOf [48] = 0 from rfl] at h
    exact h.symm
  · rw [if_neg h0]
    have hp := List.length_pos_iff.2 h0
    have hv := txt_val zs zs.length (Nat.le_refl _)
    rw [Nat.sub_self, List.drop_zero] at hv
    rw [← hv]
    refine (dec_natOf ?_).symm
    have hh := txt_head zs h0 (ht h0) (zs.length - 1)
    rw [show zs.length - 1 + 1 = zs.length by omega] at hh
    refine isNat_iff.2 ⟨?_, txt_isD zs _, .inr ?_⟩
    · intro h
      rw [h] at hh
      cases hd : Lib.decDigits (zs[zs.length - 1]?.getD 0).val with
      | nil => exact dec_ne _ hd
      | cons c l => rw [hd] at hh; cases hh
    · rw [hh]
      intro h48
      rcases dec_head (zs[zs.length - 1]?.getD 0).val with h1 | h1
      · cases hd : Lib.decDigits (zs[zs.length - 1]?.getD 0).val with
        | nil => exact dec_ne _ hd
        | cons c l =>
          rw [hd] at h1 h48
          have hl : l = [] := List.length_eq_zero_iff.1 (by simpa using h1)
          subst hl
          injection h48 with h48
          subst h48
          have := natOf_dec (zs[zs.length - 1]?.getD 0).val
          rw [hd] at this
          exact ht h0 (by rw [← this]; rfl)
      · exact h1 h48
theorem parseM_digits (l : List UInt8) : ∀ (acc : Nat), (∀ c ∈ l, isD c = true) → acc * 10 ^ l.length + natOf l < 4294967296 → Lib.parseUintM 4294967295 acc l = .ok (acc * 10 ^ l.length + natOf l) := by
  induction l with
  | nil => intro acc _ _; simp [Lib.parseUintM, natOf]
  | cons c r ih =>
    intro acc hd h
    have hc := isD_iff.1 (hd c (List.mem_cons_self ..))
    have e : natOf (c :: r) = (c.toNat - 48) * 10 ^ r.length + natOf r := by
      rw [show c :: r = [c] ++ r from rfl, natOf_append]
      congr 2
      simp [natOf]
    have hp : 0 < 10 ^ r.length := Nat.pow_pos (by omega)
    have e2 : acc * 10 ^ (r.length + 1) + ((c.toNat - 48) * 10 ^ r.length + natOf r) = (acc * 10 + (c.toNat - 48)) * 10 ^ r.length + natOf r := by
      rw [Nat.pow_succ]; grind
    rw [e, List.length_cons, e2] at h ⊢
    have hb : acc * 10 + (c.toNat - 48) < 4294967296 := by
      have : (acc * 10 + (c.toNat - 48)) * 1 ≤ (acc * 10 + (c.toNat - 48)) * 10 ^ r.length := Nat.mul_le_mul_left _ hp
      omega
    rw [Lib.parseUintM, if_pos ⟨hc.1, hc.2⟩, if_neg (by omega), if_neg (by omega)]
    exact ih _ (fun x hx => hd x (List.mem_cons_of_mem _ hx)) h
theorem parse_chunk (l : List UInt8) (h0 : l ≠ []) (hd : ∀ c ∈ l, isD c = true) (h9 : l.length ≤ 9) : Lib.parseUintB 32 l = .ok (natOf l) := by
  have h1 := natOf_lt l hd
  have h2 : 10 ^ l.length ≤ 10 ^ 9 := Nat.pow_le_pow_right (by omega) h9
  have := parseM_digits l 0 hd (by omega)
  rw [Nat.zero_mul, Nat.zero_add] at this
  rw [Lib.parseUintB, if_neg h0]
  exact this
end Gb
namespace Go.Sx
open Go Go.RowKit Go.Shelf Go.Proofs
theorem meets_val {P : Program} {G : World → Prop} {f : FuncId} (args : List Value) {r : PV} (u : Value) (hent : Enters P f) (hrep : ∀ B w, RepP B w r u) (h : ∀ w, G w → Calls P f ⟨args⟩ w fun e w' => e = .returned u ∧ Below w.heap.size w w') : Meets P G f (args.map .val) r := by
  refine ⟨hent, fun B vs w hB hr hG => ?_⟩
  have : vs = args := by
    clear h
    induction args generalizing vs with
    | nil => simpa only [List.map_nil, RepL] using hr
    | cons x l ih =>
      simp only [List.map_cons, RepL, RepP] at hr
      obtain ⟨y, ys, rfl, rfl, h2⟩ := hr
      rw [ih ys h2]
  subst this
  refine (h w hG).mono ?_
  rintro e w' ⟨rfl, hb⟩
  exact ⟨u, rfl, hrep _ _, hb⟩
end Go.Sx
namespace Go.Proofs.YtfbmphbmidlijaaGreatDoor.S
open Go Go.Sx Go.RowKit Gb Go.Proofs.YtfbmphbmidlijaaGreatDoor.T Go.Shelf
def Gd (w : World) : Prop := Lib.TabIs Tryz.prog w "internal/strconv.uint64pow10" .u64 Lib.pow10Tab
theorem gd (w w' : World) (h : Gd w) (hB : Below w.heap.size w w') : Gd w' := Lib.tabBelow_of_tabIs h w' hB
theorem parse_n (l : List UInt8) (h0 : l ≠ []) (hd : ∀ c ∈ l, isD c = true) (h9 : l.length ≤ 9) : Meets Tryz.prog Gd 147 [strP l, .val (.int .i64 10), .val (.int .i64 32)] (.tup [.val (.int .u64 (natOf l : Nat)), .val .nilIface]) := by
  refine meets_val [.string ⟨l.toArray⟩, .int .i64 10, .int .i64 32] (.tuple ⟨[.int .u64 (natOf l : Nat), .nilIface]⟩) (enters_of Tryz.func147 (by kernel_rfl) rfl) ?_ ?_
  · intro B w
    simp [RepP, RepL]
  · intro w _
    refine (Tryz.strconv_ParseUint_10_at32_ok ⟨l.toArray⟩ (by show l.toArray.size ≤ _; simp; omega) (natOf l) (parse_chunk l h0 hd h9) w).mono ?_
    rintro e w' ⟨rfl, hw⟩
    refine ⟨rfl, ?_⟩
    rcases hw with rfl | rfl
    · exact Below.refl _ _
    · exact Lib.bytesWorld_below _ _ _
def wd (v : Int) : W9 := ⟨v.toNat % 1000000000, Nat.mod_lt _ (by decide)⟩
theorem wd_val {v : Int} (h : 0 ≤ v ∧ v < 1000000000) : ((wd v).val : Int) = v := by unfold wd; show ((v.toNat % 1000000000 : Nat) : Int) = v; omega
theorem valW_wd (l : List Int) (h : Dig l) : (valW (l.map wd) : Int) = val l := by
  induction l with
  | nil => rfl
  | cons x l ih =>
    rw [List.map_cons, valW_cons, val_cons, ← ih h.tail, Int.natCast_add, wd_val h.head]
    simp
theorem text_n (n : Nat) (hn : Lw n < 1000000) : Meets Tryz.prog Gd 101 [nP n] (strP (Lib.decDigits n)) := by
  refine ⟨enters_of Tryz.func101 (by kernel_rfl) rfl, ?_⟩
  intro B vs w hB hr hG
  rw [nP_c] at hr
  simp only [RepL, RepP] at hr
  obtain ⟨v, ys, rfl, ⟨a, c, rfl, hnc, hc0, hcs⟩, rfl⟩ := hr
  have hN := wl_norm n
  have hlen : ((wl n).map wd).length = (wl n).length := by simp
  have hI : (wl n).map wd ≠ [] → Ints w.heap.size w (.slice a ((wl n).map wd).length c) ((wl n).map wd) := by
    intro hne
    rcases hcs with h | ⟨b, o, rfl, hb, hC⟩
    · exact absurd (by simpa using h) (by simpa using hne)
    · refine .inr ⟨_, c, rfl, hB b hb, fun j hj => ?_⟩
      rw [List.length_map] at hj
      obtain ⟨us, h1, h2⟩ := repC_cells hC
      obtain ⟨x, h3, h4⟩ := h1.get j (wv ((wl n).getD j 0)) (by rw [List.getElem?_map, List.getElem?_eq_getElem hj, List.getD_eq_getElem?_getD, List.getElem?_eq_getElem hj]; rfl)
      have h5 := h2 j x h3
      rw [wv_c] at h4
      simp only [RepP] at h4
      rw [h5, h4, List.getElem?_map, List.getElem?_eq_getElem hj]
      have hv := hN.1 _ (List.getElem_mem hj)
      rw [List.getD_eq_getElem?_getD, List.getElem?_eq_getElem hj]
      show some (Value.int .u32 (wl n)[j]) = some (.int .u32 ((wd (wl n)[j]).val : Int))
      rw [wd_val hv]
  have ht := text_calls a c ((wl n).map wd) (by rw [hlen]; show Lw n ≤ _; omega) w hI hG
  rw [hlen, text_dec _ (fun hne => by
    have hl := List.length_pos_iff.2 hne
    rw [hlen] at hl
    have h1 := hN.2 (List.length_pos_iff.1 hl)
    have h2 := hN.1.getD ((wl n).length - 1)
    rw [hlen, List.getElem?_map, List.getElem?_eq_getElem (by omega)]
    rw [List.getD_eq_getElem?_getD, List.getElem?_eq_getElem (by omega)] at h1 h2
    show (wd (wl n)[(wl n).length - 1]).val ≠ 0
    have h3 := wd_val (v := (wl n)[(wl n).length - 1]) h2
    have h1' : (wl n)[(wl n).length - 1] ≠ 0 := h1
    omega)] at ht
  have hval : valW ((wl n).map wd) = n := by
    have := valW_wd (wl n) hN.1
    rw [wl_val] at this
    exact Int.ofNat_inj.1 this
  rw [hval] at ht
  refine ht.mono ?_
  rintro e w' ⟨rfl, hb⟩
  exact ⟨_, rfl, by rw [strP_c]; simp only [RepP], hb⟩
end Go.Proofs.YtfbmphbmidlijaaGreatDoor.S
namespace Gb
open Go Go.RowKit Go.Sx
def lsd : Nat → Nat → List UInt8
  | 0, _ => []
  | m + 1, n => UInt8.ofNat (48 + n % 10) :: lsd m (n / 10)
theorem lsd_len : ∀ (m n : Nat), (lsd m n).length = m
  | 0, _ => rfl
  | m + 1, n => by simp [lsd, lsd_len m]
theorem lsd_snoc : ∀ (m n : Nat), lsd (m + 1) n = lsd m n ++ [UInt8.ofNat (48 + n / 10 ^ m % 10)]
  | 0, n => by simp [lsd]
  | m + 1, n => by
    rw [lsd, lsd_snoc m (n / 10), lsd, List.cons_append, Nat.div_div_eq_div_mul, Nat.pow_succ', ]
theorem lsd_rev : ∀ (m n : Nat), 0 < m → n < 10 ^ m → (m = 1 ∨ 10 ^ (m - 1) ≤ n) → (lsd m n).reverse = Lib.decDigits n
  | 0, n, h, _, _ => by omega
  | m + 1, n, _, h1, h2 => by
    rw [lsd, List.reverse_cons, Lib.decDigits]
    cases m with
    | zero =>
      rw [dif_pos (by omega)]
      simp only [lsd, List.reverse_nil, List.nil_append]
      rw [Nat.mod_eq_of_lt (by omega)]
    | succ m =>
      have h3 : 10 ^ (m + 1) ≤ n := by rcases h2 with h2 | h2; omega; exact h2
      have h4 : 10 ≤ n := by
        have : 0 < 10 ^ m := Nat.pow_pos (by omega)
        rw [Nat.pow_succ] at h3; omega
      rw [dif_neg (by omega)]
      rw [lsd_rev (m + 1) (n / 10) (by omega) (by rw [Nat.pow_succ] at h1; omega) ?_]
      by_cases hm : m = 0
      · left; omega
      · right
        rw [show m + 1 - 1 = m by omega]
        rw [Nat.pow_succ] at h3
        omega
def rvl (i : Nat) (l : List UInt8) : List UInt8 := (List.range l.length).map fun j => if j < i ∨ l.length - i ≤ j then l.getD (l.length - 1 - j) 0 else l.getD j 0
theorem rvl_len (i : Nat) (l : List UInt8) : (rvl i l).length = l.length := by simp [rvl]
theorem rvl_get (i : Nat) (l : List UInt8) (j : Nat) (hj : j < l.length) : (rvl i l)[j]? = some (if j < i ∨ l.length - i ≤ j then l.getD (l.length - 1 - j) 0 else l.getD j 0) := by
  simp [rvl, hj]
theorem rvl_getD (i : Nat) (l : List UInt8) (j : Nat) (hj : j < l.length) : (rvl i l).getD j 0 = if j < i ∨ l.length - i ≤ j then l.getD (l.length - 1 - j) 0 else l.getD j 0 := by
  rw [List.getD_eq_getElem?_getD, rvl_get i l j hj]; rfl
theorem rvl_zero (l : List UInt8) : rvl 0 l = l := by
  apply List.ext_getElem?
  intro j
  by_cases hj : j < l.length
  · rw [rvl_get 0 l j hj, if_neg (by omega), List.getD_eq_getElem?_getD, List.getElem?_eq_getElem hj]; rfl
  · rw [List.getElem?_eq_none (by rw [rvl_len]; omega), List.getElem?_eq_none (by omega)]
theorem rvl_end (i : Nat) (l : List UInt8) (h : l.length ≤ 2 * i + 1) : rvl i l = l.reverse := by
  apply List.ext_getElem?
  intro j
  by_cases hj : j < l.length
  · rw [rvl_get i l j hj, List.getElem?_reverse hj, List.getElem?_eq_getElem (show l.length - 1 - j < l.length by omega)]
    split
    · rw [List.getD_eq_getElem?_getD, List.getElem?_eq_getElem (show l.length - 1 - j < l.length by omega)]; rfl
    · have : l.length - 1 - j = j := by omega
      rw [List.getD_eq_getElem?_getD, List.getElem?_eq_getElem hj]
      simp only [this]; rfl
  · rw [List.getElem?_eq_none (by rw [rvl_len]; omega), List.getElem?_eq_none (by simp; omega)]
theorem rvl_step (i : Nat) (l : List UInt8) (h : 2 * i + 1 < l.length) : ((rvl i l).set i ((rvl i l).getD (l.length - 1 - i) 0)).set (l.length - 1 - i) ((rvl i l).getD i 0) = rvl (i + 1) l := by
  apply List.ext_getElem?
  intro j
  rw [rvl_getD i l _ (by omega), rvl_getD i l _ (by omega), if_neg (by omega), if_neg (by omega)]
  by_cases hj : j < l.length
  · rw [rvl_get (i + 1) l j hj]
    by_cases h1 : j = l.length - 1 - i
    · subst h1
      rw [List.getElem?_set_self (by simp [rvl_len]; omega), if_pos (by omega)]
      congr 2; omega
    · rw [List.getElem?_set_ne (by omega)]
      by_cases h2 : j = i
      · subst h2
        rw [List.getElem?_set_self (by simp [rvl_len]; omega), if_pos (by omega)]
      · rw [List.getElem?_set_ne (by omega), rvl_get i l j hj]
        congr 1
        by_cases h3 : j < i ∨ l.length - i ≤ j
        · rw [if_pos h3, if_pos (by omega)]
        · rw [if_neg h3, if_neg (by omega)]
  · rw [List.getElem?_eq_none (by simp [rvl_len]; omega), List.getElem?_eq_none (by rw [rvl_len]; omega)]
def bv (l : List UInt8) : List PV := l.map fun c => .val (.int .u8 (c.toNat : Int))
theorem bv_len (l : List UInt8) : (bv l).length = l.length := by simp [bv]
theorem bv_nil : bv [] = [] := rfl
theorem bv_app (l m : List UInt8) : bv l ++ bv m = bv (l ++ m) := by simp [bv]
theorem bv_one (c : UInt8) : [PV.val (.int .u8 (c.toNat : Int))] = bv [c] := rfl
theorem bv_bytes : ∀ l : List UInt8, bytesP (bv l) = some l
  | [] => rfl
  | c :: l => by
    have := bv_bytes l
    simp only [bv, List.map_cons] at this ⊢
    simp only [bytesP, this]
    simp
theorem bv_set (l : List UInt8) (i : Nat) (c : UInt8) (h : i < l.length) : (bv l).take i ++ [PV.val (.int .u8 (c.toNat : Int))] ++ (bv l).drop (i + 1) = bv (l.set i c) := by
  unfold bv
  rw [List.map_set, List.set_eq_take_append_cons_drop, if_pos (by simpa using h)]
  simp
theorem bv_get (l : List UInt8) (i : Nat) (h : i < l.length) : (bv l)[i]? = some (.val (.int .u8 ((l.getD i 0).toNat : Int))) := by
  rw [bv, List.getElem?_map, List.getElem?_eq_getElem h, List.getD_eq_getElem?_getD, List.getElem?_eq_getElem h]; rfl
theorem dig_byte (n : Nat) : ((UInt8.ofNat (48 + n % 10)).toNat : Int) = 48 + (n : Int) % 10 := by
  rw [UInt8.toNat_ofNat']; omega
theorem wl_getD : ∀ (i n : Nat), (wl n).getD i 0 = ((n / 1000000000 ^ i % 1000000000 : Nat) : Int)
  | 0, n => by
    by_cases h : n = 0
    · subst h; rw [wl_zero]; rfl
    · rw [wl_pos h]; simp
  | i + 1, n => by
    by_cases h : n = 0
    · subst h; rw [wl_zero]; simp
    · rw [wl_pos h, List.getD_cons_succ, wl_getD i (n / 1000000000), Nat.div_div_eq_div_mul, Nat.pow_succ']
theorem ten_pow (i : Nat) : 1000000000 ^ i = 10 ^ (9 * i) := by rw [Nat.pow_mul]
theorem Lw_low {n : Nat} (h : n ≠ 0) : 10 ^ (9 * (Lw n - 1)) ≤ n := by
  rw [← ten_pow]
  have hne : wl n ≠ [] := by intro h0; have := wl_val n; rw [h0] at this; simp [val] at this; omega
  have := (wl_norm n).lo hne
  rw [wl_val] at this
  rw [← cast_pow] at this
  exact Int.ofNat_le.1 this
theorem Lw_high (n : Nat) : n < 10 ^ (9 * Lw n) := by rw [← ten_pow]; exact lt_Lw n
def wAt (n i k : Nat) : Nat := n / 10 ^ (9 * i + k) % 10 ^ (9 - k)
theorem wAt_zero (n i : Nat) : wAt n i 0 = n / 1000000000 ^ i % 1000000000 := by rw [ten_pow]; rfl
theorem wAt_lt (n i k : Nat) : wAt n i k < 10 ^ 9 := by
  have h1 : wAt n i k < 10 ^ (9 - k) := Nat.mod_lt _ (Nat.pow_pos (by omega))
  have h2 : 10 ^ (9 - k) ≤ 10 ^ 9 := Nat.pow_le_pow_right (by omega) (by omega)
  omega
theorem wAt_mod (n i k : Nat) (h : k < 9) : wAt n i k % 10 = n / 10 ^ (9 * i + k) % 10 := by
  unfold wAt
  exact Nat.mod_mod_of_dvd _ (Nat.dvd_trans (by exact ⟨1, rfl⟩ : 10 ∣ 10 ^ 1) (Nat.pow_dvd_pow 10 (by omega)))
theorem wAt_div (n i k : Nat) (h : k < 9) : wAt n i k / 10 = wAt n i (k + 1) := by
  unfold wAt
  rw [show 9 - k = (9 - (k + 1)) + 1 by omega, Nat.pow_succ', Nat.mod_mul_right_div_self, Nat.div_div_eq_div_mul, ← Nat.pow_succ]
  rfl
theorem wAt_pos {n i k : Nat} (h : 0 < wAt n i k) : 10 ^ (9 * i + k) ≤ n := by
  unfold wAt at h
  by_cases h1 : 10 ^ (9 * i + k) ≤ n
  · exact h1
  · rw [Nat.div_eq_of_lt (by omega)] at h; simp at h
theorem wAt_end {n i k : Nat} (hk : k ≤ 9) (hi : Lw n ≤ i + 1) (h : wAt n i k = 0) : n < 10 ^ (9 * i + k) := by
  unfold wAt at h
  have h1 : n < 10 ^ (9 * i + 9) := Nat.lt_of_lt_of_le (Lw_high n) (Nat.pow_le_pow_right (by omega) (by omega))
  have h2 : n / 10 ^ (9 * i + k) < 10 ^ (9 - k) := by
    apply Nat.div_lt_of_lt_mul
    rw [← Nat.pow_add]
    rwa [show 9 * i + k + (9 - k) = 9 * i + 9 by omega]
  rw [Nat.mod_eq_of_lt h2] at h
  rcases Nat.div_eq_zero_iff.1 h with h3 | h3
  · have := Nat.pow_pos (n := 9 * i + k) (show 0 < 10 by omega); omega
  · exact h3
end Gb
namespace Go.Proofs.YtfbmphbmidlijaaGreatDoor.S
open Go Go.Sx Go.RowKit Gb
set_option maxRecDepth 100000 in
set_option maxHeartbeats 20000000 in
theorem nvalid_n (l : List UInt8) (hl : l.length < 100000000) : Meets Tryz.prog Gd 98 [strP l] (.val (.bool (isNat l))) := by
  refine meets_of_vc (Y := {}) (N := 32) (rs := [.tmp 2]) mix tk gd Tryz.func98 rfl (by kernel_rfl) rfl rfl (by simp) (by kernel_rfl) ?_
  simp (maxSteps := 10000000) only [↓sx, sx, ↓ty, ↓reduceIte, Nat.reduceEqDiff, Nat.reduceLT, strP_c]
  refine vcIf_b (fun h0 => ?_) (fun h0 => vcIf_dec (fun h1 => ⟨by omega, vcIf_b (fun h2 => ?_) (fun h2 => ?_)⟩) (fun h1 => ?_))
  · have h0 : l = [] := by simpa using h0
    subst h0
    rfl
  · have : isNat l = false := by
      rw [Bool.eq_false_iff]; intro hN
      obtain ⟨_, _, h3⟩ := isNat_iff.1 hN
      rcases h3 with h3 | h3
      · omega
      · apply h3
        cases l with
        | nil => simp at h1
        | cons c l =>
          simp at h2
          have : c = 48 := UInt8.toNat_inj.1 (by rw [show (48 : UInt8).toNat = 48 from rfl]; omega)
          rw [this]; rfl
    rw [this]
  all_goals
    have hz : l ≠ [] ∧ (l.length = 1 ∨ l.head? ≠ some 48) := by
      have hne : l ≠ [] := by intro h; rw [h] at h0; simp at h0
      refine ⟨hne, ?_⟩
      cases l with
      | nil => exact absurd rfl hne
      | cons c l =>
        first
          | (left; simp only [List.length_cons] at h1 ⊢; omega)
          | (right
             simp only [List.head?_cons, ne_eq, Option.some.injEq]
             rintro rfl
             simp at h2)
    clear h0 h1
    refine loopK_of (fun i : Nat => [(0, .p (.val (.string ⟨l.toArray⟩))), (17, .p (.val (.int .i64 (l.length : Nat)))), (18, .p (.val (.int .i64 (i : Nat))))]) (fun _ => []) (fun _ => []) (fun i => i ≤ l.length ∧ ∀ c ∈ l.take i, isD c = true) (fun i => l.length - i) 0 ⟨Nat.zero_le _, by simp⟩ ?_ ?_
    · simp (maxSteps := 10000000) only [isE_nil, is_cons, bo_p, all_nil', ↓sx, sx, ↓reduceIte, Nat.reduceEqDiff]
      try rfl
    · rintro i ⟨h1, h2⟩
      simp (maxSteps := 10000000) only [↓sx, sx, ↓ty, ↓reduceIte, Nat.reduceEqDiff, Nat.reduceLT, getD_get]
      refine vcIf_dec (fun hi => ?_) (fun hi => ?_)
      · have hmem : l.getD i 0 ∈ l := by
          rw [List.getD_eq_getElem?_getD, List.getElem?_eq_getElem (by omega)]; exact List.getElem_mem _
        refine ⟨by omega, vcIf_dec (fun hc => ?_) (fun hc => ?_)⟩
        · have : isNat l = false := by
            rw [Bool.eq_false_iff]; intro hN
            have := isD_iff.1 ((isNat_iff.1 hN).2.1 _ hmem)
            omega
          rw [this]
        · refine ⟨by omega, vcIf_dec (fun hc2 => ?_) (fun hc2 => ?_)⟩
          · have : isNat l = false := by
              rw [Bool.eq_false_iff]; intro hN
              have := isD_iff.1 ((isNat_iff.1 hN).2.1 _ hmem)
              omega
            rw [this]
          · refine NextK.mk (i + 1) (by omega) ⟨by omega, ?_⟩ ?_
            · intro c hc3
              rw [take_succ_getD _ _ (by omega)] at hc3
              rcases List.mem_append.1 hc3 with hc3 | hc3
              · exact h2 c hc3
              · obtain rfl := List.mem_singleton.1 hc3
                rw [isD_iff]; omega
            · simp (maxSteps := 10000000) only [isE_nil, is_cons, bo_p, all_nil', ↓sx, sx, ↓reduceIte, Nat.reduceEqDiff]
              rw [i64_id (by omega) (by omega)]
              rfl
      · obtain rfl : i = l.length := by omega
        rw [List.take_length] at h2
        have : isNat l = true := isNat_iff.2 ⟨hz.1, h2, hz.2⟩
        rw [this]
theorem chunk_eq (l : List UInt8) (k : Nat) (hk : k ≤ l.length) : natOf (l.take k) = natOf ((l.take k).drop (k - 9)) + 1000000000 * natOf (l.take (k - 9)) := by
  have h1 : l.take k = (l.take k).take (k - 9) ++ (l.take k).drop (k - 9) := (List.take_append_drop _ _).symm
  have h2 : (l.take k).take (k - 9) = l.take (k - 9) := by rw [List.take_take]; congr 1; omega
  rw [h2] at h1
  conv => lhs; rw [h1, natOf_append]
  have hlen : ((l.take k).drop (k - 9)).length = k - (k - 9) := by rw [List.length_drop, List.length_take]; omega
  rw [hlen]
  by_cases h9 : 9 ≤ k
  · rw [show k - (k - 9) = 9 by omega]; omega
  · rw [show k - 9 = 0 by omega, List.take_zero, natOf_nil]; omega
set_option maxRecDepth 100000 in
set_option maxHeartbeats 20000000 in
theorem nread_n (l : List UInt8) (hd : ∀ c ∈ l, isD c = true) (hl : l.length < 1000000) : Meets Tryz.prog Gd 99 [strP l] (nP (natOf l)) := by
  refine meets_of_vc (Y := {}) (N := 31) (rs := [.tmp 2]) mix tk gd Tryz.func99 rfl (by kernel_rfl) rfl rfl (by simp) (by kernel_rfl) ?_
  simp (maxSteps := 10000000) only [↓sx, sx, ↓ty, ↓reduceIte, Nat.reduceEqDiff, strP_c]
  refine loopK_of (fun s : Nat × List Int => [(0, .p (.val (.string ⟨(l.take s.1).toArray⟩))), (3, .orow 3)]) (fun _ => []) (fun s => [(3, ⟨92, 1, s.2.length, s.2.map wv, false⟩)]) (fun s => s.1 ≤ l.length ∧ s.1 + s.2.length ≤ l.length ∧ Dig s.2 ∧ val s.2 + 1000000000 ^ s.2.length * (natOf (l.take s.1) : Nat) = (natOf l : Nat)) (fun s => s.1) (l.length, []) ⟨Nat.le_refl _, Nat.le_refl _, Dig.nil, by simp [val]⟩ ?_ ?_
  · simp (maxSteps := 10000000) only [isE_nil, is_cons, bo_p, bo_orow, any_cons', all_cons', all_nil', Bool.true_or, ↓sx, sx, ↓reduceIte, Nat.reduceEqDiff]
    simp
  · rintro ⟨k, out⟩ ⟨h1, h2, h3, h4⟩
    dsimp only at h1 h2 h3 h4 ⊢
    have hlk : (l.take k).length = k := by rw [List.length_take]; omega
    simp (maxSteps := 10000000) only [↓sx, sx, ↓ty, ↓reduceIte, Nat.reduceEqDiff, hlk]
    refine vcIf_dec (fun hk => ?_) (fun hk => ?_)
    · have hmx : (if (0 : Int) > IntKind.i64.wrap ((k : Int) - 9) then 0 else IntKind.i64.wrap ((k : Int) - 9)) = ((k - 9 : Nat) : Int) := by
        rw [i64_id (by omega) (by omega)]; split <;> omega
      rw [hmx, Int.toNat_natCast]
      have hcl : ((l.take k).drop (k - 9)).length = k - (k - 9) := by rw [List.length_drop, hlk]
      have hcd : ∀ c ∈ (l.take k).drop (k - 9), isD c = true := fun c hc => hd c (List.mem_of_mem_take (List.mem_of_mem_drop hc))
      have hcn := natOf_lt _ hcd
      have hce := chunk_eq l k h1
      have hc9 : natOf ((l.take k).drop (k - 9)) < 1000000000 := by
        have : 10 ^ ((l.take k).drop (k - 9)).length ≤ 10 ^ 9 := Nat.pow_le_pow_right (by omega) (by omega)
        omega
      refine ⟨by omega, ?_⟩
      refine CallT.to (parse_n ((l.take k).drop (k - 9)) (by intro h0; rw [h0] at hcl; simp at hcl; omega) hcd (by omega)) (by rw [List.take_of_length_le (by omega)]; rfl) ?_
      simp (maxSteps := 10000000) only [↓sx, sx, ↓ty, ↓reduceIte, Nat.reduceEqDiff, Nat.reduceAdd, Nat.reduceLeDiff, Nat.reduceLT, ne_eq, not_false_eq_true, hlk]
      refine ⟨⟨by simp only [maxLen]; omega, by omega⟩, by omega, ?_⟩
      refine NextK.mk (k - 9, out ++ [((natOf ((l.take k).drop (k - 9)) : Nat) : Int)]) (by dsimp only; omega) ⟨by dsimp only; omega, by simp; omega, h3.snoc (by omega) (by omega), ?_⟩ ?_
      · dsimp only
        rw [val_snoc, List.length_append, List.length_singleton, Int.pow_succ, ← h4, hce]
        generalize natOf ((l.take k).drop (k - 9)) = x at *
        generalize natOf (l.take (k - 9)) = y at *
        rw [Int.natCast_add, Int.natCast_mul]
        grind
      · simp (maxSteps := 10000000) only [isE_nil, is_cons, bo_p, bo_orow, any_cons', all_cons', all_nil', Bool.true_or, ↓sx, sx, ↓reduceIte, Nat.reduceEqDiff]
        have e1 : (l.take k).take (k - 9) = l.take (k - 9) := by rw [List.take_take]; congr 1; omega
        rw [u32_id (x := ((natOf ((l.take k).drop (k - 9)) : Nat) : Int)) (by omega) (by omega)]
        simp [wv_c, e1]
    · obtain rfl : k = 0 := by omega
      rw [List.take_zero, natOf_nil] at h4
      refine CallT.mk (ntrim_n gd out (by omega) h3 (natOf l) (by omega)) ?_
      simp (maxSteps := 10000000) only [↓sx, sx, ↓reduceIte]
end Go.Proofs.YtfbmphbmidlijaaGreatDoor.S
namespace Gb
open Go Go.RowKit Go.Sx
def zmk (b : Bool) (n : Nat) : Int := if b then -(n : Int) else n
theorem zmk_abs (b : Bool) (n : Nat) : (zmk b n).natAbs = n := by unfold zmk; split <;> simp
def zP (z : Int) : PV := .agg [.val (.bool (decide (z < 0))), nP z.natAbs]
theorem zP_c (z : Int) : zP z = .agg [.val (.bool (decide (z < 0))), .sl (wl z.natAbs).length ((wl z.natAbs).map wv)] := rfl
theorem zP_mk (b : Bool) (n : Nat) : zP (zmk b n) = .agg [.val (.bool (b && decide (0 < (wl n).length))), .sl (wl n).length ((wl n).map wv)] := by
  rw [zP_c, zmk_abs]
  congr 4
  have h : (0 < (wl n).length) ↔ n ≠ 0 := by
    constructor
    · intro h h0; subst h0; rw [wl_zero] at h; simp at h
    · intro h; rw [wl_pos h]; simp
  unfold zmk
  cases b
  · simp
  · simp only [if_true, Bool.true_and, decide_eq_decide]
    rw [h]; omega
theorem zmk_self (z : Int) : zmk (decide (z < 0)) z.natAbs = z := by unfold zmk; split <;> rename_i h <;> simp at h <;> omega
def iD (z : Int) : List UInt8 := if z < 0 then 45 :: Lib.decDigits z.natAbs else Lib.decDigits z.natAbs
def siP (z : Int) : PV := strP (iD z)
theorem siP_c (z : Int) : siP z = .val (.string ⟨(iD z).toArray⟩) := rfl
def isInt : List UInt8 → Bool
  | [] => false
  | c :: r => if c = 45 then isNat r && r != [48] else isNat (c :: r)
def intOf : List UInt8 → Int
  | [] => 0
  | c :: r => if c = 45 then -(natOf r : Int) else natOf (c :: r)
theorem isNat_head {c : UInt8} {r : List UInt8} (h : isNat (c :: r) = true) : c ≠ 45 := by
  have := isD_iff.1 ((isNat_iff.1 h).2.1 c (List.mem_cons_self ..))
  rintro rfl
  simp at this
theorem isInt_nat {l : List UInt8} (h : isNat l = true) : isInt l = true ∧ intOf l = natOf l := by
  cases l with
  | nil => simp [isNat] at h
  | cons c r =>
    have := isNat_head h
    simp [isInt, intOf, this, h]
theorem dec_pos_ne {n : Nat} (h : n ≠ 0) : Lib.decDigits n ≠ [48] := by
  intro h0
  have := natOf_dec n
  rw [h0] at this
  simp [natOf] at this
  omega
theorem isInt_iD (z : Int) : isInt (iD z) = true := by
  unfold iD
  split
  · rename_i h
    simp [isInt, isNat_dec, dec_pos_ne (show z.natAbs ≠ 0 by omega)]
  · exact (isInt_nat (isNat_dec _)).1
theorem intOf_iD (z : Int) : intOf (iD z) = z := by
  unfold iD
  split
  · simp [intOf, natOf_dec]; omega
  · rw [(isInt_nat (isNat_dec _)).2, natOf_dec]; omega
theorem natOf_zero {r : List UInt8} (h : isNat r = true) (h0 : natOf r = 0) : r = [48] := by
  have := dec_natOf h
  rw [h0] at this
  rw [← this, Lib.decDigits]; rfl
theorem isInt_cons (c : UInt8) (r : List UInt8) : isInt (c :: r) = if c = 45 then isNat r && r != [48] else isNat (c :: r) := rfl
theorem intOf_cons (c : UInt8) (r : List UInt8) : intOf (c :: r) = if c = 45 then -(natOf r : Int) else natOf (c :: r) := rfl
theorem iD_intOf {l : List UInt8} (h : isInt l = true) : iD (intOf l) = l := by
  cases l with
  | nil => simp [isInt] at h
  | cons c r =>
    rw [isInt_cons] at h
    by_cases hc : c = 45
    · subst hc
      rw [if_pos rfl] at h
      simp only [Bool.and_eq_true, bne_iff_ne] at h
      have h0 : natOf r ≠ 0 := fun h0 => h.2 (natOf_zero h.1 h0)
      rw [intOf_cons, if_pos rfl]
      unfold iD
      rw [if_pos (by omega)]
      congr 1
      rw [Int.natAbs_neg, Int.natAbs_natCast]
      exact dec_natOf h.1
    · rw [if_neg hc] at h
      rw [intOf_cons, if_neg hc]
      unfold iD
      rw [if_neg (by omega), Int.natAbs_natCast]
      exact dec_natOf h
theorem dec_len (n : Nat) : (Lib.decDigits n).length ≤ 9 * Lw n + 1 := by
  by_cases h : 2 ≤ (Lib.decDigits n).length
  · have h1 := natOf_ge (isNat_dec n) h
    rw [natOf_dec] at h1
    have h2 := Lw_high n
    have h3 : (Lib.decDigits n).length - 1 < 9 * Lw n := by
      apply Classical.byContradiction
      intro hc
      have := Nat.pow_le_pow_right (show 0 < 10 by omega) (show 9 * Lw n ≤ (Lib.decDigits n).length - 1 by omega)
      omega
    omega
  · omega
def dP (n : Nat) : Go.Sx.PV := strP (Lib.decDigits n)
theorem dP_c (n : Nat) : dP n = .val (.string ⟨(Lib.decDigits n).toArray⟩) := rfl
theorem Lw_natOf {l : List UInt8} (h : ∀ c ∈ l, isD c = true) : Lw (natOf l) ≤ l.length / 9 + 1 := by
  refine Lw_le ?_
  rw [ten_pow]
  exact Nat.lt_of_lt_of_le (natOf_lt l h) (Nat.pow_le_pow_right (by omega) (by omega))
theorem Lw_zero : Lw 0 = 0 := by unfold Lw; rw [wl_zero]; rfl
theorem Lw_one : Lw 1 = 1 := by unfold Lw; rw [wl_pos (by omega), show 1 / 1000000000 = 0 by decide, wl_zero]; rfl
theorem euclid_unique {x y q r : Int} (h0 : y ≠ 0) (h : q * y + r = x) (h1 : 0 ≤ r) (h2 : r < y.natAbs) : x / y = q ∧ x % y = r := by
  by_cases hy : 0 < y
  · exact (Int.ediv_emod_unique hy).2 ⟨by rw [← h, Int.mul_comm]; omega, h1, by omega⟩
  · have hy' : 0 < -y := by omega
    have := (Int.ediv_emod_unique (a := x) (q := -q) (r := r) hy').2 ⟨by rw [← h, Int.neg_mul_neg, Int.mul_comm]; omega, h1, by omega⟩
    rw [Int.ediv_neg, Int.emod_neg] at this
    exact ⟨by omega, this.2⟩
theorem emod_abs (x y : Int) (h0 : y ≠ 0) : 0 ≤ x % y ∧ x % y < y.natAbs := by
  refine ⟨Int.emod_nonneg x h0, ?_⟩
  by_cases hy : 0 < y
  · have := Int.emod_lt_of_pos x hy; omega
  · have := Int.emod_lt_of_pos x (show 0 < -y by omega)
    rw [Int.emod_neg] at this
    omega
theorem ediv_abs (x y : Int) (h0 : y ≠ 0) : (x / y).natAbs ≤ x.natAbs + 1 := by
  have h1 := Int.mul_ediv_add_emod x y
  have h2 := emod_abs x y h0
  generalize x / y = q at *
  generalize x % y = r at *
  have h3 : (y * q).natAbs ≤ x.natAbs + y.natAbs := by omega
  rw [Int.natAbs_mul] at h3
  apply Classical.byContradiction
  intro hc
  have h4 : y.natAbs * (x.natAbs + 2) ≤ y.natAbs * q.natAbs := Nat.mul_le_mul_left _ (by omega)
  have h5 : 1 * x.natAbs ≤ y.natAbs * x.natAbs := Nat.mul_le_mul_right _ (by omega)
  rw [Nat.mul_add] at h4
  omega
theorem Lw_emod (x y : Int) (h0 : y ≠ 0) : Lw (x % y).natAbs ≤ Lw y.natAbs := by
  have := emod_abs x y h0
  exact Lw_mono (by omega)
theorem Lw_ediv (x y : Int) (h0 : y ≠ 0) : Lw (x / y).natAbs ≤ Lw x.natAbs + 2 := by
  have h1 := Lw_mono (ediv_abs x y h0)
  have h2 := Lw_add x.natAbs 1
  rw [Lw_one] at h2
  omega
theorem ba_beq0 (a b : ByteArray) : (a == b) = (a.data == b.data) := by cases a; cases b; rfl
theorem ba_beq (l m : List UInt8) : ((⟨l.toArray⟩ : ByteArray) == ⟨m.toArray⟩) = (l == m) := by
  rw [ba_beq0]
  simp
theorem ag : (∀ k ks v vs, hasAll (k :: ks) (v :: vs) = (k.has v && hasAll ks vs)) ∧ hasAll [] [] = true ∧ (∀ b, EK.bool.has (.bool b) = true) ∧ (∀ s, EK.string.has (.string s) = true) ∧ (∀ k n, (EK.int k).has (.int k n) = true) ∧
    (∀ a l b m, eqAll (a :: l) (b :: m) = (valEq a b && eqAll l m)) ∧ eqAll [] [] = true ∧ (∀ a b, valEq (.bool a) (.bool b) = (a == b)) ∧ (∀ l m : List UInt8, valEq (.string ⟨l.toArray⟩) (.string ⟨m.toArray⟩) = (l == m)) ∧ (∀ k k' a b, valEq (.int k a) (.int k' b) = (a == b)) ∧
    (∀ b, binAg2 .neq true b = some (.bool !b)) ∧ (∀ b, binAg2 .eql true b = some (.bool b)) :=
  ⟨fun _ _ _ _ => rfl, rfl, fun _ => rfl, fun _ => rfl, fun k n => by cases k <;> rfl, fun _ _ _ _ => rfl, rfl, fun _ _ => rfl, fun l m => ba_beq l m, fun _ _ _ _ => rfl, fun _ => rfl, fun _ => rfl⟩
end Gb
namespace Go.Proofs.YtfbmphbmidlijaaGreatDoor.S
open Go Go.Sx Go.RowKit Gb
theorem nvalid_d (n : Nat) (h : Lw n < 1000000) : Meets Tryz.prog Gd 98 [dP n] (.val (.bool true)) := by
  have := nvalid_n (Lib.decDigits n) (by have := dec_len n; omega)
  rwa [isNat_dec] at this
theorem nread_d (n : Nat) (h : Lw n < 100000) : Meets Tryz.prog Gd 99 [dP n] (nP n) := by
  have := nread_n (Lib.decDigits n) (dec_isD n) (by have := dec_len n; omega)
  rwa [natOf_dec] at this
set_option maxRecDepth 100000 in
theorem nboth_n (a b : Nat) (ha : Lw a < 100000) (hb : Lw b < 100000) : Meets Tryz.prog Gd 91 [dP a, dP b] (.tup [nP a, nP b, .val (.int .i64 0)]) := by
  refine meets_of_vc (Y := {}) (N := 19) (rs := [.tmp 4, .tmp 5, .tmp 6]) mix tk gd Tryz.func91 rfl (by kernel_rfl) rfl rfl (by simp) (by kernel_rfl) ?_
  simp (maxSteps := 10000000) only [↓sx, sx, ↓ty, ↓reduceIte, Nat.reduceEqDiff, dP_c]
  refine CallT.mk (nvalid_d a (by omega)) ?_
  simp (maxSteps := 10000000) only [↓sx, sx, ↓reduceIte, Nat.reduceEqDiff, Nat.reduceLT]
  refine CallT.mk (nvalid_d b (by omega)) ?_
  simp (maxSteps := 10000000) only [↓sx, sx, ↓reduceIte, Nat.reduceEqDiff, Nat.reduceLT]
  refine CallT.mk (nread_d a ha) ?_
  simp (maxSteps := 10000000) only [↓sx, sx, ↓reduceIte, Nat.reduceEqDiff, nP_c]
  refine CallT.mk (nread_d b hb) ?_
  simp (maxSteps := 10000000) only [↓sx, sx, ↓reduceIte, Nat.reduceEqDiff, nP_c]
set_option maxRecDepth 100000 in
theorem napply_n (g : FuncId) (a b r : Nat) (h : Meets Tryz.prog Gd g [nP a, nP b] (nP r)) (hr : Lw r < 1000000) : Meets Tryz.prog Gd 92 [.clo g [nP a] [], nP b] (.tup [dP r, .val (.int .i64 0)]) := by
  refine meets_of_vc (Y := {}) (N := 10) (rs := [.tmp 4, .tmp 5]) mix tk gd Tryz.func92 rfl (by kernel_rfl) rfl rfl (by simp) (by kernel_rfl) ?_
  simp (maxSteps := 10000000) only [↓sx, sx, ↓reduceIte, Nat.reduceEqDiff, dP_c, nP_c]
  refine CallT.mk h ?_
  simp (maxSteps := 10000000) only [↓sx, sx, ↓reduceIte, nP_c]
  refine CallT.mk (text_n r hr) ?_
  simp (maxSteps := 10000000) only [↓sx, sx, strP_c]
set_option maxRecDepth 100000 in
theorem nadd_n (a b : Nat) (ha : Lw a < 100000) (hb : Lw b < 100000) : Meets Tryz.prog Gd 75 [dP a, dP b] (.tup [dP (a + b), .val (.int .i64 0)]) := by
  refine meets_of_vc (Y := {}) (N := 25) (rs := [.tmp 4, .tmp 5]) mix tk gd Tryz.func75 rfl (by kernel_rfl) rfl rfl (by simp) (by kernel_rfl) ?_
  simp (maxSteps := 10000000) only [↓sx, sx, ↓reduceIte, Nat.reduceEqDiff, dP_c]
  refine CallT.mk (nboth_n a b ha hb) ?_
  simp (maxSteps := 10000000) only [↓sx, sx, ↓reduceIte, Nat.reduceEqDiff, Int.reduceBNe, nP_c]
  refine CallT.mk (napply_n _ a b (a + b) (nplus_n gd a b (by omega) (by omega)) (by have := Lw_add a b; omega)) ?_
  simp (maxSteps := 10000000) only [↓sx, sx, dP_c]
set_option maxRecDepth 100000 in
theorem nsub_n (a b : Nat) (ha : Lw a < 100000) (hb : Lw b < 100000) (hle : b ≤ a) : Meets Tryz.prog Gd 187 [dP a, dP b] (.tup [dP (a - b), .val (.int .i64 0)]) := by
  refine meets_of_vc (Y := {}) (N := 31) (rs := [.tmp 4, .tmp 5]) mix tk gd Tryz.func187 rfl (by kernel_rfl) rfl rfl (by simp) (by kernel_rfl) ?_
  simp (maxSteps := 10000000) only [↓sx, sx, ↓reduceIte, Nat.reduceEqDiff, dP_c]
  refine CallT.mk (nboth_n a b ha hb) ?_
  simp (maxSteps := 10000000) only [↓sx, sx, ↓reduceIte, Nat.reduceEqDiff, Int.reduceBNe, nP_c]
  refine CallT.mk (ncmp_n gd a b (by omega) (by omega)) ?_
  simp (maxSteps := 10000000) only [↓sx, sx, ↓reduceIte, Nat.reduceEqDiff, iP_c]
  refine vcIf_dec (fun h => ?_) (fun h => ?_)
  · exfalso
    unfold cmpI at h
    rw [if_neg (by omega)] at h
    split at h <;> omega
  · refine CallT.mk (napply_n _ a b (a - b) (nminus_n gd a b (by omega) (by omega) hle) (by have := Lw_mono (Nat.sub_le a b); omega)) ?_
    simp (maxSteps := 10000000) only [↓sx, sx, dP_c]
set_option maxRecDepth 100000 in
theorem nmul_n (a b : Nat) (ha : Lw a < 100000) (hb : Lw b < 100000) : Meets Tryz.prog Gd 73 [dP a, dP b] (.tup [dP (a * b), .val (.int .i64 0)]) := by
  refine meets_of_vc (Y := {}) (N := 25) (rs := [.tmp 4, .tmp 5]) mix tk gd Tryz.func73 rfl (by kernel_rfl) rfl rfl (by simp) (by kernel_rfl) ?_
  simp (maxSteps := 10000000) only [↓sx, sx, ↓reduceIte, Nat.reduceEqDiff, dP_c]
  refine CallT.mk (nboth_n a b ha hb) ?_
  simp (maxSteps := 10000000) only [↓sx, sx, ↓reduceIte, Nat.reduceEqDiff, Int.reduceBNe, nP_c]
  refine CallT.mk (napply_n _ a b (a * b) (ntimes_n gd a b (by omega) (by omega)) (by have := Lw_mul a b; omega)) ?_
  simp (maxSteps := 10000000) only [↓sx, sx, dP_c]
set_option maxRecDepth 100000 in
theorem ngcdt_n (a b : Nat) (ha : Lw a < 100000) (hb : Lw b < 100000) : Meets Tryz.prog Gd 41 [dP a, dP b] (.tup [dP (Nat.gcd a b), .val (.int .i64 0)]) := by
  refine meets_of_vc (Y := {}) (N := 25) (rs := [.tmp 4, .tmp 5]) mix tk gd Tryz.func41 rfl (by kernel_rfl) rfl rfl (by simp) (by kernel_rfl) ?_
  simp (maxSteps := 10000000) only [↓sx, sx, ↓reduceIte, Nat.reduceEqDiff, dP_c]
  refine CallT.mk (nboth_n a b ha hb) ?_
  simp (maxSteps := 10000000) only [↓sx, sx, ↓reduceIte, Nat.reduceEqDiff, Int.reduceBNe, nP_c]
  have hg : Lw (Nat.gcd a b) < 1000000 := by
    by_cases h0 : a = 0
    · subst h0; rw [Nat.gcd_zero_left]; omega
    · have := Lw_mono (Nat.le_of_dvd (by omega) (Nat.gcd_dvd_left a b)); omega
  refine CallT.mk (napply_n _ a b (Nat.gcd a b) (ngcd_n gd a b (by omega) (by omega)) hg) ?_
  simp (maxSteps := 10000000) only [↓sx, sx, dP_c]
set_option maxRecDepth 100000 in
theorem ncompare_n (a b : Nat) (ha : Lw a < 100000) (hb : Lw b < 100000) : Meets Tryz.prog Gd 188 [dP a, dP b] (.tup [iP (cmpI a b), .val (.int .i64 0)]) := by
  refine meets_of_vc (Y := {}) (N := 22) (rs := [.tmp 4, .tmp 5]) mix tk gd Tryz.func188 rfl (by kernel_rfl) rfl rfl (by simp) (by kernel_rfl) ?_
  simp (maxSteps := 10000000) only [↓sx, sx, ↓reduceIte, Nat.reduceEqDiff, dP_c]
  refine CallT.mk (nboth_n a b ha hb) ?_
  simp (maxSteps := 10000000) only [↓sx, sx, ↓reduceIte, Nat.reduceEqDiff, Int.reduceBNe, nP_c]
  refine CallT.mk (ncmp_n gd a b (by omega) (by omega)) ?_
  simp (maxSteps := 10000000) only [↓sx, sx, iP_c]
set_option maxRecDepth 100000 in
theorem ndivmod_n (a b : Nat) (ha : Lw a < 100000) (hb : Lw b < 100000) (hb0 : 0 < b) : Meets Tryz.prog Gd 76 [dP a, dP b] (.tup [dP (a / b), dP (a % b), .val (.int .i64 0)]) := by
  refine meets_of_vc (Y := {}) (N := 37) (rs := [.tmp 4, .tmp 5, .tmp 6]) mix tk gd Tryz.func76 rfl (by kernel_rfl) rfl rfl (by simp) (by kernel_rfl) ?_
  simp (maxSteps := 10000000) only [↓sx, sx, ↓ty, ↓reduceIte, Nat.reduceEqDiff, dP_c]
  refine CallT.mk (nboth_n a b ha hb) ?_
  simp (maxSteps := 10000000) only [↓sx, sx, ↓reduceIte, Nat.reduceEqDiff, Int.reduceBNe, nP_c, len_Lw]
  refine vcIf_b (fun h => ?_) (fun h => ?_)
  · exfalso
    have : Lw b = 0 := by simpa using h
    have := (Lw_zero_iff b).1 this
    omega
  · refine CallT.mk (ndivide_n gd a b (by omega) (by omega) hb0) ?_
    simp (maxSteps := 10000000) only [↓sx, sx, ↓reduceIte, nP_c]
    refine CallT.mk (text_n (a / b) (by have := Lw_mono (Nat.div_le_self a b); omega)) ?_
    simp (maxSteps := 10000000) only [↓sx, sx, ↓reduceIte, Nat.reduceEqDiff, strP_c]
    refine CallT.mk (text_n (a % b) (by have := Lw_mono (Nat.le_of_lt (Nat.mod_lt a hb0)); omega)) ?_
    simp (maxSteps := 10000000) only [↓sx, sx, ↓reduceIte, Nat.reduceEqDiff, strP_c]
end Go.Proofs.YtfbmphbmidlijaaGreatDoor.S
namespace Go.Proofs.YtfbmphbmidlijaaGreatDoor.S
open Go Go.Sx Go.RowKit Gb
variable {G : World → Prop} (hG : ∀ w w', G w → Below w.heap.size w w' → G w')
include hG
set_option maxRecDepth 100000 in
set_option maxHeartbeats 20000000 in
theorem valid1_n (l : List UInt8) (hl : l.length < 100000000) : Meets Tryz.prog G 107 [strP l] (.val (.bool (isNat l))) := by
  refine meets_of_vc (Y := {}) (N := 33) (rs := [.tmp 2]) mix tk hG Tryz.func107 rfl (by kernel_rfl) rfl rfl (by simp) (by kernel_rfl) ?_
  simp (maxSteps := 10000000) only [↓sx, sx, strP_c]
  refine loopK_of (fun i : Nat => [(0, .p (.val (.string ⟨l.toArray⟩))), (3, .p (.val (.int .i64 (i : Nat))))]) (fun _ => []) (fun _ => []) (fun i => i ≤ l.length ∧ ∀ c ∈ l.take i, isD c = true) (fun i => l.length - i) 0 ⟨Nat.zero_le _, by simp⟩ ?_ ?_
  · simp (maxSteps := 10000000) only [isE_nil, is_cons, bo_p, all_nil', ↓sx, sx, ↓reduceIte, Nat.reduceEqDiff]
    rfl
  · rintro i ⟨h1, h2⟩
    simp (maxSteps := 10000000) only [↓sx, sx, ↓ty, ↓reduceIte, Nat.reduceEqDiff, Nat.reduceLT, getD_get]
    refine vcIf_dec (fun hi => ?_) (fun hi => ?_)
    · have hmem : l.getD i 0 ∈ l := by
        rw [List.getD_eq_getElem?_getD, List.getElem?_eq_getElem (by omega)]; exact List.getElem_mem _
      refine ⟨by omega, vcIf_dec (fun hc => ?_) (fun hc => ?_)⟩
      · have : isNat l = false := by
          rw [Bool.eq_false_iff]; intro hN
          have := isD_iff.1 ((isNat_iff.1 hN).2.1 _ hmem)
          omega
        rw [this]
      · refine ⟨by omega, vcIf_dec (fun hc2 => ?_) (fun hc2 => ?_)⟩
        · have : isNat l = false := by
            rw [Bool.eq_false_iff]; intro hN
            have := isD_iff.1 ((isNat_iff.1 hN).2.1 _ hmem)
            omega
          rw [this]
        · refine NextK.mk (i + 1) (by omega) ⟨by omega, ?_⟩ ?_
          · intro c hc3
            rw [take_succ_getD _ _ (by omega)] at hc3
            rcases List.mem_append.1 hc3 with hc3 | hc3
            · exact h2 c hc3
            · obtain rfl := List.mem_singleton.1 hc3
              rw [isD_iff]; omega
          · simp (maxSteps := 10000000) only [isE_nil, is_cons, bo_p, all_nil', ↓sx, sx, ↓reduceIte, Nat.reduceEqDiff]
            rw [i64_id (by omega) (by omega)]
            rfl
    · obtain rfl : i = l.length := by omega
      rw [List.take_length] at h2
      refine vcIf_b (fun h3 => ?_) (fun h3 => ?_)
      · have h3 : l.length = 1 := by simp at h3; omega
        have : isNat l = true := isNat_iff.2 ⟨by intro h0; rw [h0] at h3; simp at h3, h2, .inl h3⟩
        rw [this]
      · have h3 : l.length ≠ 1 := by simp at h3; omega
        refine vcIf_dec (fun h4 => ?_) (fun h4 => ?_)
        · refine ⟨by omega, ?_⟩
          have : isNat l = (((l.getD 0 0).toNat : Int) != 48) := by
            cases he : l with
            | nil => rw [he] at h4; simp at h4
            | cons c l =>
              rw [he] at h2 h4 h3
              have hc := isD_iff.1 (h2 c (List.mem_cons_self ..))
              rw [Bool.eq_iff_iff, isNat_iff]
              simp only [List.getD_cons_zero, bne_iff_ne, List.head?_cons]
              constructor
              · rintro ⟨_, _, h5 | h5⟩
                · exact absurd h5 h3
                · intro h6
                  apply h5
                  congr 1
                  apply UInt8.toNat_inj.1
                  rw [show (48 : UInt8).toNat = 48 from rfl]; omega
              · intro h6
                refine ⟨by simp, h2, .inr ?_⟩
                intro h5
                apply h6
                injection h5 with h5
                rw [h5]; rfl
          rw [this]
        · have h0 : l = [] := List.length_eq_zero_iff.1 (by omega)
          subst h0
          rfl
set_option maxRecDepth 100000 in
set_option maxHeartbeats 20000000 in
theorem from1_n (l : List UInt8) (hl : l.length < 1000000) (hd : ∀ c ∈ l, isD c = true) : Meets Tryz.prog G 84 [strP l] (nP (natOf l)) := by
  refine meets_of_vc (Y := {}) (N := 35) (rs := [.tmp 2]) mix tk hG Tryz.func84 rfl (by kernel_rfl) rfl rfl (by simp) (by kernel_rfl) ?_
  simp (maxSteps := 10000000) only [↓sx, sx, ↓ty, ↓reduceIte, Nat.reduceEqDiff, strP_c]
  refine loopK_of (fun s : List Int × Int => [(0, .p (.val (.string ⟨l.toArray⟩))), (3, .orow 3), (4, .p (.val (.int .i64 s.2)))]) (fun _ => []) (fun s => [(3, ⟨92, 1, s.1.length, s.1.map wv, false⟩)]) (fun s => s.2 ≤ l.length ∧ -9 ≤ s.2 ∧ Dig s.1 ∧ 9 * (s.1.length : Int) + s.2 ≤ l.length + 9 ∧ val s.1 + 1000000000 ^ s.1.length * (natOf (l.take s.2.toNat) : Nat) = (natOf l : Nat)) (fun s => s.2.toNat) ([], (l.length : Int)) ?_ ?_ ?_
  · exact ⟨Int.le_refl _, by dsimp only; omega, Dig.nil, by simp; omega, by simp [val_nil]⟩
  · simp (maxSteps := 10000000) only [isE_nil, is_cons, bo_p, bo_orow, any_cons', all_cons', all_nil', Bool.true_or, ↓sx, sx, ↓reduceIte, Nat.reduceEqDiff]
  · rintro ⟨out, x⟩ ⟨h1, h2, h3, h4, h5⟩
    dsimp only at h1 h2 h3 h4 h5 ⊢
    simp (maxSteps := 10000000) only [↓sx, sx, ↓reduceIte, Nat.reduceEqDiff]
    refine vcIf_dec (fun hx => ?_) (fun hx => ?_)
    · obtain ⟨e, rfl⟩ : ∃ e : Nat, x = e := ⟨x.toNat, by omega⟩
      rw [Int.toNat_natCast] at h5
      have hm : (if IntKind.i64.wrap ((e : Int) - 9) > 0 then IntKind.i64.wrap ((e : Int) - 9) else 0) = ((e - 9 : Nat) : Int) := by rw [i64_id (by omega) (by omega)]; split <;> omega
      refine loopK_of (fun i : Nat => [(0, .p (.val (.string ⟨l.toArray⟩))), (3, .orow 3), (4, .p (.val (.int .i64 (e : Nat)))), (5, .p (.val (.int .u32 (natOf ((l.take i).drop (e - 9)) : Nat)))), (6, .p (.val (.int .i64 (i : Nat))))]) (fun _ => []) (fun _ => [(3, ⟨92, 1, out.length, out.map wv, false⟩)]) (fun i => e - 9 ≤ i ∧ i ≤ e) (fun i => e - i) (e - 9) ⟨Nat.le_refl _, by omega⟩ ?_ ?_
      · simp (maxSteps := 10000000) only [isE_nil, is_cons, bo_p, bo_orow, any_cons', all_cons', all_nil', Bool.true_or, ↓sx, sx, ↓reduceIte, Nat.reduceEqDiff, hm]
        rw [List.drop_eq_nil_of_le (by simp; omega), natOf_nil]
        simp
      · rintro i ⟨g1, g2⟩
        simp (maxSteps := 10000000) only [↓sx, sx, ↓ty, ↓reduceIte, Nat.reduceEqDiff, Nat.reduceAdd, Nat.reduceLeDiff, Nat.reduceLT, ne_eq, not_false_eq_true, getD_get]
        have hw : natOf ((l.take e).drop (e - 9)) < 1000000000 := by
          have h1 := natOf_lt ((l.take e).drop (e - 9)) fun c hc => hd c (List.mem_of_mem_take (List.mem_of_mem_drop hc))
          have h2 : ((l.take e).drop (e - 9)).length ≤ 9 := by simp; omega
          have := Nat.pow_le_pow_right (show 0 < 10 by omega) h2
          omega
        refine vcIf_dec (fun hi => ?_) (fun hi => ?_)
        · have hc := isD_getD hd i (by omega)
          have e1 : (l.take (i + 1)).drop (e - 9) = (l.take i).drop (e - 9) ++ [l.getD i 0] := by
            rw [take_succ_getD _ _ (by omega), List.drop_append_of_le_length (by simp; omega)]
          have e2 : natOf ((l.take (i + 1)).drop (e - 9)) = 10 * natOf ((l.take i).drop (e - 9)) + ((l.getD i 0).toNat - 48) := by
            rw [e1, natOf_snoc]
          have e3 : natOf ((l.take i).drop (e - 9)) < 10 ^ 8 := by
            have h1 := natOf_lt ((l.take i).drop (e - 9)) fun c hc => hd c (List.mem_of_mem_take (List.mem_of_mem_drop hc))
            have h2 : ((l.take i).drop (e - 9)).length ≤ 8 := by simp; omega
            have := Nat.pow_le_pow_right (show 0 < 10 by omega) h2
            omega
          refine ⟨by omega, NextK.mk (i + 1) (by omega) ⟨by omega, by omega⟩ ?_⟩
          simp (maxSteps := 10000000) only [isE_nil, is_cons, bo_p, bo_orow, any_cons', all_cons', all_nil', Bool.true_or, ↓sx, sx, ↓reduceIte, Nat.reduceEqDiff, e2]
          rw [i64_id (by omega) (by omega), u32_id (x := 10 * ((natOf ((l.take i).drop (e - 9)) : Nat) : Int)) (by omega) (by omega), u8_id (by omega) (by omega), u32_id (x := ((l.getD i 0).toNat : Int) - 48) (by omega) (by omega), u32_id (by omega) (by omega)]
          refine ⟨?_, rfl⟩
          congr 3
          omega
        · obtain rfl : i = e := by omega
          have hsplit : natOf (l.take i) = natOf (l.take (i - 9)) * 1000000000 + natOf ((l.take i).drop (i - 9)) := by
            have e1 : l.take i = l.take (i - 9) ++ (l.take i).drop (i - 9) := by
              conv => lhs; rw [← List.take_append_drop (i - 9) (l.take i), List.take_take, Nat.min_eq_left (by omega)]
            conv => lhs; rw [e1]
            rw [natOf_append]
            by_cases h : i < 9
            · rw [show i - 9 = 0 by omega]; simp [natOf_nil]
            · have : ((l.take i).drop (i - 9)).length = 9 := by simp; omega
              rw [this]
          refine ⟨⟨by simp only [maxLen]; omega, by omega⟩, NextK.mk (out ++ [((natOf ((l.take i).drop (i - 9)) : Nat) : Int)], (i : Int) - 9) (by dsimp only; omega) ⟨by dsimp only; omega, by dsimp only; omega, h3.snoc (by omega) (by omega), by simp; omega, ?_⟩ ?_⟩
          · dsimp only
            rw [val_snoc, ← h5, hsplit, List.length_append, List.length_cons, List.length_nil, Int.pow_succ, show ((i : Int) - 9).toNat = i - 9 by omega]
            generalize natOf (List.take (i - 9) l) = p
            generalize natOf (List.drop (i - 9) (List.take i l)) = q
            rw [Int.natCast_add, Int.natCast_mul]
            grind
          · simp (maxSteps := 10000000) only [isE_nil, is_cons, bo_p, bo_orow, any_cons', all_cons', all_nil', Bool.true_or, ↓sx, sx, ↓reduceIte, Nat.reduceEqDiff]
            rw [i64_id (by omega) (by omega)]
            simp [wv_c]
    · rw [show x.toNat = 0 by omega, List.take_zero, natOf_nil] at h5
      refine CallT.mk (trim_n hG out (by omega) h3 (natOf l) (by rw [← h5]; simp)) ?_
      simp (maxSteps := 10000000) only [↓sx, sx, ↓reduceIte]
end Go.Proofs.YtfbmphbmidlijaaGreatDoor.S
namespace Go.Proofs.YtfbmphbmidlijaaGreatDoor.S
open Go Go.Sx Go.RowKit Gb
variable {G : World → Prop} (hG : ∀ w w', G w → Below w.heap.size w w' → G w')
include hG
def toInv (n : Nat) (s : Nat × Nat) : Prop := s.2 ≤ Lw n ∧ s.1 ≤ 9 * s.2 ∧ (s.2 < Lw n → s.1 = 9 * s.2) ∧ (s.2 = Lw n → 0 < s.1 ∧ n < 10 ^ s.1 ∧ 10 ^ (s.1 - 1) ≤ n)
def toInv2 (n i : Nat) (k : Nat) : Prop := k ≤ 9 ∧ (0 < k → i + 1 < Lw n ∨ 10 ^ (9 * i + k - 1) ≤ n)
set_option maxRecDepth 100000 in
set_option maxHeartbeats 20000000 in
theorem to1_n (n : Nat) (hn : Lw n < 1000000) : Meets Tryz.prog G 81 [nP n] (strP (Lib.decDigits n)) := by
  refine meets_of_vc (Y := { tl := [(16, [2, 3])] }) (N := 72) (rs := [.tmp 2]) mix tk hG Tryz.func81 rfl (by kernel_rfl) rfl rfl (by simp) (by kernel_rfl) ?_
  have hLn : (wl n).length = Lw n := rfl
  have hgd : ∀ i, (wl n).getD i 0 = ((wAt n i 0 : Nat) : Int) := fun i => by rw [wl_getD, wAt_zero]
  rw [show nP n = .sl (wl n).length ((wl n).map wv) from rfl]
  generalize wl n = A at *
  simp (maxSteps := 10000000) only [↓sx, sx, ↓ty, ↓reduceIte, Nat.reduceEqDiff, strP_c]
  refine vcIf_b (fun h0 => ?_) (fun h0 => ?_)
  · have : n = 0 := (Lw_zero_iff n).1 (by have : A.length = 0 := (by simpa using h0); omega)
    subst this
    rw [Lib.decDigits]; rfl
  · have hpos : 0 < Lw n := by
      have : A.length ≠ 0 := by intro h; rw [h] at h0; simp at h0
      omega
    have hn0 : n ≠ 0 := by intro h; rw [(Lw_zero_iff n).2 h] at hpos; omega
    refine loopK_of (fun s : Nat × Nat => [(0, .p (.sl A.length (A.map wv))), (3, .orow 3), (4, .p (.val (.int .i64 (s.2 : Nat))))]) (fun _ => []) (fun s => [(3, ⟨5, 1, s.1, bv (lsd s.1 n), false⟩)]) (toInv n) (fun s => Lw n - s.2) (0, 0) ⟨Nat.zero_le _, Nat.le_refl _, fun _ => rfl, fun h => by dsimp only at h; omega⟩ ?_ ?_
    · simp (maxSteps := 10000000) only [isE_nil, is_cons, bo_p, bo_orow, any_cons', all_cons', all_nil', Bool.true_or, ↓sx, sx, ↓reduceIte, Nat.reduceEqDiff, lsd, bv_nil]
      rfl
    · rintro ⟨m, i⟩ ⟨h1, h2, h3, h4⟩
      dsimp only at h1 h2 h3 h4 ⊢
      simp (maxSteps := 10000000) only [↓sx, sx, ↓ty, ↓reduceIte, Nat.reduceEqDiff, wv_c]
      refine vcIf_dec (fun hi => ?_) (fun hi => ?_)
      · rw [hLn] at hi
        obtain rfl := h3 (by omega)
        have hw0 := wAt_lt n i 0
        refine ⟨by omega, by omega, ?_⟩
        refine loopK_of (fun k : Nat => [(0, .p (.sl A.length (A.map wv))), (3, .orow 3), (4, .p (.val (.int .i64 (i : Nat)))), (5, .p (.val (.int .u32 (wAt n i k : Nat)))), (6, .p (.val (.int .i64 (k : Nat))))]) (fun _ => []) (fun k => [(3, ⟨5, 1, 9 * i + k, bv (lsd (9 * i + k) n), false⟩)]) (toInv2 n i) (fun k => 9 - k) 0 ⟨Nat.zero_le _, fun h => by omega⟩ ?_ ?_
        · simp (maxSteps := 10000000) only [isE_nil, is_cons, bo_p, bo_orow, any_cons', all_cons', all_nil', Bool.true_or, ↓sx, sx, ↓reduceIte, Nat.reduceEqDiff, hgd]
          exact ⟨rfl, rfl⟩
        · rintro k ⟨g1, g2⟩
          simp (maxSteps := 10000000) only [↓sx, sx, ↓ty, ↓reduceIte, Nat.reduceEqDiff, Nat.reduceAdd, Nat.reduceLeDiff, Nat.reduceLT, Int.reduceEq, ne_eq, not_false_eq_true]
          have hwk := wAt_lt n i k
          have go : ∀ {e : Env} {h : Hp} {ρ : Rws} {t : Tag (toInv2 n i, (fun k => 9 - k), e, h, ρ)}, k < 9 → (i + 1 < Lw n ∨ 0 < wAt n i k) →
              e 0 = .p (.sl A.length (A.map wv)) → e 3 = .orow 3 → e 4 = .p (.val (.int .i64 (i : Nat))) → e 5 = .p (.val (.int .u32 (IntKind.u32.wrap (((wAt n i k : Nat) : Int).tdiv 10)))) → e 6 = .p (.val (.int .i64 (IntKind.i64.wrap ((k : Int) + 1)))) →
              ρ 3 = some ⟨5, 1, 9 * i + k + 1, bv (lsd (9 * i + k) n) ++ [.val (.int .u8 (IntKind.u8.wrap (IntKind.u32.wrap (48 + ((wAt n i k : Nat) : Int).tmod 10))))], false⟩ →
              (9 * i + k + 1 ≤ maxLen ∧ 9 * i + k ≤ 140737488355327) ∧ NextK (fun k : Nat => [(0, .p (.sl A.length (A.map wv))), (3, .orow 3), (4, .p (.val (.int .i64 (i : Nat)))), (5, .p (.val (.int .u32 (wAt n i k : Nat)))), (6, .p (.val (.int .i64 (k : Nat))))]) (fun _ => []) (fun k => [(3, ⟨5, 1, 9 * i + k, bv (lsd (9 * i + k) n), false⟩)]) (toInv2 n i) (fun k => 9 - k) k e h ρ t := by
            intro e h ρ t hk hc e0 e3 e4 e5 e6 r3
            have c5 : IntKind.u32.wrap (((wAt n i k : Nat) : Int).tdiv 10) = ((wAt n i (k + 1) : Nat) : Int) := by
              rw [tdiv_pos (by omega), u32_id (by omega) (by omega), ← wAt_div n i k hk, Int.natCast_ediv]; rfl
            have c6 : IntKind.i64.wrap ((k : Int) + 1) = ((k + 1 : Nat) : Int) := by rw [i64_id (by omega) (by omega)]; rfl
            have c3 : IntKind.u8.wrap (IntKind.u32.wrap (48 + ((wAt n i k : Nat) : Int).tmod 10)) = ((UInt8.ofNat (48 + n / 10 ^ (9 * i + k) % 10)).toNat : Int) := by
              rw [tmod_pos (by omega), u32_id (by omega) (by omega), u8_id (by omega) (by omega), dig_byte]
              have := wAt_mod n i k hk
              omega
            rw [c5] at e5
            rw [c6] at e6
            rw [c3, bv_one, bv_app, ← lsd_snoc] at r3
            refine ⟨⟨by simp only [maxLen]; omega, by omega⟩, NextK.mk (k + 1) (by omega) ⟨by omega, fun _ => ?_⟩ ?_⟩
            · rcases hc with hc | hc
              · exact .inl hc
              · exact .inr (by rw [show 9 * i + (k + 1) - 1 = 9 * i + k by omega]; exact wAt_pos hc)
            · simp (maxSteps := 10000000) only [isE_nil, is_cons, bo_p, bo_orow, any_cons', all_cons', all_nil', Bool.true_or, ↓sx, sx, e0, e3, e4, e5, e6, r3]
              rfl
          have stop : ∀ {e : Env} {h : Hp} {ρ : Rws} {t : Tag (toInv n, (fun s : Nat × Nat => Lw n - s.2), e, h, ρ)}, ¬ (k < 9 ∧ (i + 1 < Lw n ∨ 0 < wAt n i k)) →
              e 0 = .p (.sl A.length (A.map wv)) → e 3 = .orow 3 → e 4 = .p (.val (.int .i64 (IntKind.i64.wrap ((i : Int) + 1)))) → ρ 3 = some ⟨5, 1, 9 * i + k, bv (lsd (9 * i + k) n), false⟩ →
              NextK (fun s : Nat × Nat => [(0, .p (.sl A.length (A.map wv))), (3, .orow 3), (4, .p (.val (.int .i64 (s.2 : Nat))))]) (fun _ => []) (fun s => [(3, ⟨5, 1, s.1, bv (lsd s.1 n), false⟩)]) (toInv n) (fun s => Lw n - s.2) (9 * i, i) e h ρ t := by
            intro e h ρ t hc e0 e3 e4 r3
            have c4 : IntKind.i64.wrap ((i : Int) + 1) = ((i + 1 : Nat) : Int) := by rw [i64_id (by omega) (by omega)]; rfl
            rw [c4] at e4
            refine NextK.mk (9 * i + k, i + 1) (by dsimp only; omega) ⟨by dsimp only; omega, by dsimp only; omega, fun h => by dsimp only at h ⊢; omega, fun h => ?_⟩ ?_
            · dsimp only at h ⊢
              have hz : wAt n i k = 0 := by
                by_cases hk : k = 9
                · subst hk
                  unfold wAt
                  simp [Nat.mod_one]
                · omega
              have hend := wAt_end g1 (by omega) hz
              have hk0 : 0 < k := by
                by_cases hk : k = 0
                · subst hk
                  have := Lw_low hn0
                  rw [show 9 * (Lw n - 1) = 9 * i + 0 by omega] at this
                  omega
                · omega
              refine ⟨by omega, hend, ?_⟩
              rcases g2 hk0 with h | h
              · omega
              · exact h
            · simp (maxSteps := 10000000) only [isE_nil, is_cons, bo_p, bo_orow, any_cons', all_cons', all_nil', Bool.true_or, ↓sx, sx, e0, e3, e4, r3]
          refine vcIf_dec (fun hk => ?_) (fun hk => ?_)
          · refine vcIf_dec (fun hi2 => ?_) (fun hi2 => ?_)
            · rw [i64_id (by omega) (by omega), hLn] at hi2
              refine go (by omega) (by omega) ?_ ?_ ?_ ?_ ?_ ?_
              all_goals (simp (maxSteps := 10000000) only [↓sx, sx, ↓reduceIte, Nat.reduceEqDiff]; done)
            · rw [i64_id (by omega) (by omega), hLn] at hi2
              refine vcIf_dec (fun hw => ?_) (fun hw => ?_)
              · refine go (by omega) (by omega) ?_ ?_ ?_ ?_ ?_ ?_
                all_goals (simp (maxSteps := 10000000) only [↓sx, sx, ↓reduceIte, Nat.reduceEqDiff]; done)
              · refine stop (by omega) ?_ ?_ ?_ ?_
                all_goals (simp (maxSteps := 10000000) only [↓sx, sx, ↓reduceIte, Nat.reduceEqDiff]; done)
          · refine stop (by omega) ?_ ?_ ?_ ?_
            all_goals (simp (maxSteps := 10000000) only [↓sx, sx, ↓reduceIte, Nat.reduceEqDiff]; done)
      · obtain rfl : i = Lw n := by omega
        obtain ⟨h5, h6, h7⟩ := h4 rfl
        have hrev := lsd_rev m n h5 h6 (.inr h7)
        have hll := lsd_len m n
        generalize lsd m n = l at *
        rw [i64_id (x := (m : Int) - 1) (by omega) (by omega)]
        refine loopK_of (fun i : Nat => [(3, .orow 3), (7, .p (.val (.int .i64 (i : Nat)))), (8, .p (.val (.int .i64 ((m : Int) - 1 - i))))]) (fun _ => []) (fun i => [(3, ⟨5, 1, m, bv (rvl i l), false⟩)]) (fun i => 2 * i ≤ m) (fun i => m - i) 0 (Nat.zero_le _) ?_ ?_
        · simp (maxSteps := 10000000) only [isE_nil, is_cons, bo_p, bo_orow, any_cons', all_cons', all_nil', Bool.true_or, ↓sx, sx, ↓reduceIte, Nat.reduceEqDiff, rvl_zero]
          simp
        · intro i hi2
          simp (maxSteps := 10000000) only [↓sx, sx, ↓ty, ↓reduceIte, Nat.reduceEqDiff, Nat.reduceBeqDiff, Nat.reduceAdd]
          refine vcIf_dec (fun hc => ?_) (fun hc => ?_)
          · refine ⟨by kernel_rfl, ?_⟩
            have ek : ((m : Int) - 1 - (i : Int)) = ((m - 1 - i : Nat) : Int) := by omega
            rw [ek, Int.toNat_natCast]
            have g1 := bv_get (rvl i l) (m - 1 - i) (by rw [rvl_len]; omega)
            have g2 := bv_get (rvl i l) i (by rw [rvl_len]; omega)
            have hst := rvl_step i l (by omega)
            rw [hll] at hst
            simp (maxSteps := 10000000) only [↓sx, sx, ↓ty, ↓reduceIte, Nat.reduceEqDiff, Nat.reduceAdd, g1, g2]
            have hs1 := bv_set (rvl i l) i ((rvl i l).getD (m - 1 - i) 0) (by rw [rvl_len]; omega)
            have hs2 := bv_set ((rvl i l).set i ((rvl i l).getD (m - 1 - i) 0)) (m - 1 - i) ((rvl i l).getD i 0) (by rw [List.length_set, rvl_len]; omega)
            rw [hs1, hs2, hst, i64_id (x := (i : Int) + 1) (by omega) (by omega), i64_id (x := ((m - 1 - i : Nat) : Int) - 1) (by omega) (by omega)]
            refine ⟨by omega, by omega, by omega, by rw [bv_len, rvl_len]; omega, by omega, by rw [bv_len, List.length_set, rvl_len]; omega, NextK.mk (i + 1) (by omega) (by omega) ?_⟩
            simp (maxSteps := 10000000) only [isE_nil, is_cons, bo_p, bo_orow, any_cons', all_cons', all_nil', Bool.true_or, ↓sx, sx, ↓reduceIte, Nat.reduceEqDiff]
            have : ((m : Int) - 1 - ((i + 1 : Nat) : Int)) = ((m - 1 - i : Nat) : Int) - 1 := by omega
            rw [this]
            exact ⟨rfl, rfl⟩
          · simp (maxSteps := 10000000) only [↓sx, sx, bv_bytes, bv_len, rvl_len]
            refine ⟨hll, ?_⟩
            rw [rvl_end i l (by omega), hrev]
end Go.Proofs.YtfbmphbmidlijaaGreatDoor.S
namespace Go.Proofs.YtfbmphbmidlijaaGreatDoor.S
open Go Go.Sx Go.RowKit Gb
variable {G : World → Prop} (hG : ∀ w w', G w → Below w.heap.size w w' → G w')
include hG
set_option maxRecDepth 100000 in
theorem make2_n (b : Bool) (n : Nat) : Meets Tryz.prog G 55 [.val (.bool b), nP n] (zP (zmk b n)) := by
  refine meets_of_vc (Y := {}) (N := 13) (rs := [.cell 4 61]) mix tk hG Tryz.func55 rfl (by kernel_rfl) rfl rfl (by simp) (by kernel_rfl) ?_
  rw [zP_mk]
  simp (maxSteps := 10000000) only [↓sx, sx, ↓ty, ↓reduceIte, Nat.reduceEqDiff, Nat.reduceAdd, Nat.reduceLeDiff, Nat.reduceLT, List.getElem?_cons_zero, List.getElem?_cons_succ, and_self, Bool.and_self, Nat.reduceAdd, Nat.le_refl, nP_c]
  refine vcIf_b (fun h => ?_) (fun h => ?_)
  · subst h; simp
  · subst h; rfl
theorem make2_z (b : Bool) (n : Nat) (z : Int) (h : zmk b n = z) : Meets Tryz.prog G 55 [.val (.bool b), nP n] (zP z) := h ▸ make2_n hG b n
set_option maxRecDepth 100000 in
theorem small2_n (z : Int) (h0 : -4294967296 < z) (h1 : z < 4294967296) : Meets Tryz.prog G 131 [.val (.int .i64 z)] (zP z) := by
  refine meets_of_vc (Y := {}) (N := 14) (rs := [.cell 2 61]) mix tk hG Tryz.func131 rfl (by kernel_rfl) rfl rfl (by simp) (by kernel_rfl) ?_
  simp (maxSteps := 10000000) only [↓sx, sx, ↓ty, ↓reduceIte, Nat.reduceEqDiff]
  refine vcIf_dec (fun h => ?_) (fun h => ?_)
  · have e1 : IntKind.u32.wrap (IntKind.i64.wrap (0 - z)) = ((z.natAbs : Nat) : Int) := by rw [i64_id (by omega) (by omega), u32_id (by omega) (by omega)]; omega
    refine CallT.to (small_n hG z.natAbs (by omega)) (by rw [e1]) ?_
    simp (maxSteps := 10000000) only [↓sx, sx, ↓ty, ↓reduceIte, nP_c]
    refine CallT.mk (make2_z hG true z.natAbs z (by simp [zmk]; omega)) ?_
    simp (maxSteps := 10000000) only [↓sx, sx, ↓ty, ↓reduceIte, Nat.reduceEqDiff, Nat.reduceAdd, and_self, Bool.and_self, Nat.reduceAdd, Nat.le_refl, zP_c]
  · have e1 : IntKind.u32.wrap z = ((z.natAbs : Nat) : Int) := by rw [u32_id (by omega) (by omega)]; omega
    refine CallT.to (small_n hG z.natAbs (by omega)) (by rw [e1]) ?_
    simp (maxSteps := 10000000) only [↓sx, sx, ↓ty, ↓reduceIte, nP_c]
    refine CallT.mk (make2_z hG false z.natAbs z (by simp [zmk]; omega)) ?_
    simp (maxSteps := 10000000) only [↓sx, sx, ↓ty, ↓reduceIte, Nat.reduceEqDiff, Nat.reduceAdd, and_self, Bool.and_self, Nat.reduceAdd, Nat.le_refl, zP_c]
set_option maxRecDepth 100000 in
theorem signum_n (z : Int) : Meets Tryz.prog G 52 [zP z] (iP z.sign) := by
  refine meets_of_vc (Y := {}) (N := 9) (rs := [.tmp 2]) mix tk hG Tryz.func52 rfl (by kernel_rfl) rfl rfl (by simp) (by kernel_rfl) ?_
  simp (maxSteps := 10000000) only [↓sx, sx, ↓ty, ↓reduceIte, Nat.reduceEqDiff, Nat.reduceAdd, ne_eq, not_false_eq_true, List.getElem?_cons_zero, List.getElem?_cons_succ, Nat.reduceAdd, zP_c, iP_c, len_Lw]
  refine vcIf_dec (fun h => ?_) (fun h => ?_)
  · rw [Int.sign_eq_neg_one_of_neg h]
  · refine vcIf_dec (fun h2 => ?_) (fun h2 => ?_)
    · have : z.natAbs ≠ 0 := by intro h3; rw [(Lw_zero_iff _).2 h3] at h2; simp at h2
      rw [Int.sign_eq_one_of_pos (by omega)]
    · have : z.natAbs = 0 := (Lw_zero_iff _).1 (by omega)
      obtain rfl : z = 0 := by omega
      rfl
set_option maxRecDepth 100000 in
theorem plus2_n (x y : Int) (hx : Lw x.natAbs < 100000) (hy : Lw y.natAbs < 100000) : Meets Tryz.prog G 118 [zP x, zP y] (zP (x + y)) := by
  refine meets_of_vc (Y := {}) (N := 40) (rs := [.cell 4 61]) mix tk hG Tryz.func118 rfl (by kernel_rfl) rfl rfl (by simp) (by kernel_rfl) ?_
  simp (maxSteps := 10000000) only [↓sx, sx, ↓ty, ↓reduceIte, Nat.reduceEqDiff, Nat.reduceAdd, ne_eq, not_false_eq_true, List.getElem?_cons_zero, List.getElem?_cons_succ, Nat.reduceAdd, zP_c]
  refine vcIf_b (fun h => ?_) (fun h => ?_)
  · have h : (x < 0) ↔ (y < 0) := by simpa using h
    refine CallT.mk (plus_n hG x.natAbs y.natAbs (by omega) (by omega)) ?_
    simp (maxSteps := 10000000) only [↓sx, sx, nP_c]
    refine CallT.mk (make2_z hG (decide (x < 0)) (x.natAbs + y.natAbs) (x + y) ?_) ?_
    · by_cases hx0 : x < 0
      · simp [zmk, hx0]; omega
      · simp [zmk, hx0]; omega
    · simp (maxSteps := 10000000) only [↓sx, sx, ↓reduceIte, Nat.reduceEqDiff, Nat.reduceAdd, and_self, Bool.and_self, Nat.reduceAdd, Nat.le_refl, zP_c]
  · have h : ¬ ((x < 0) ↔ (y < 0)) := by simpa using h
    refine CallT.mk (cmp_n hG x.natAbs y.natAbs (by omega) (by omega)) ?_
    simp (maxSteps := 10000000) only [↓sx, sx, ↓reduceIte, Nat.reduceEqDiff, Nat.reduceAdd, ne_eq, not_false_eq_true, Nat.reduceAdd, iP_c]
    refine vcIf_dec (fun hc => ?_) (fun hc => ?_)
    · have hle : y.natAbs ≤ x.natAbs := by
        unfold cmpI at hc
        split at hc
        · omega
        · omega
      refine CallT.mk (minus_n hG x.natAbs y.natAbs (by omega) (by omega) hle) ?_
      simp (maxSteps := 10000000) only [↓sx, sx, nP_c]
      refine CallT.mk (make2_z hG (decide (x < 0)) (x.natAbs - y.natAbs) (x + y) ?_) ?_
      · by_cases hx0 : x < 0
        · simp [zmk, hx0]; omega
        · simp [zmk, hx0]; omega
      · simp (maxSteps := 10000000) only [↓sx, sx, ↓reduceIte, Nat.reduceEqDiff, Nat.reduceAdd, and_self, Bool.and_self, Nat.reduceAdd, Nat.le_refl, zP_c]
    · have hle : x.natAbs ≤ y.natAbs := by
        unfold cmpI at hc
        split at hc
        · omega
        · split at hc <;> omega
      refine CallT.mk (minus_n hG y.natAbs x.natAbs (by omega) (by omega) hle) ?_
      simp (maxSteps := 10000000) only [↓sx, sx, nP_c]
      refine CallT.mk (make2_z hG (decide (y < 0)) (y.natAbs - x.natAbs) (x + y) ?_) ?_
      · by_cases hy0 : y < 0
        · simp [zmk, hy0]; omega
        · simp [zmk, hy0]; omega
      · simp (maxSteps := 10000000) only [↓sx, sx, ↓reduceIte, Nat.reduceEqDiff, Nat.reduceAdd, and_self, Bool.and_self, Nat.reduceAdd, Nat.le_refl, zP_c]
set_option maxRecDepth 100000 in
theorem times2_n (x y : Int) (hx : Lw x.natAbs < 100000) (hy : Lw y.natAbs < 100000) : Meets Tryz.prog G 119 [zP x, zP y] (zP (x * y)) := by
  refine meets_of_vc (Y := {}) (N := 16) (rs := [.cell 4 61]) mix tk hG Tryz.func119 rfl (by kernel_rfl) rfl rfl (by simp) (by kernel_rfl) ?_
  simp (maxSteps := 10000000) only [↓sx, sx, ↓ty, ↓reduceIte, Nat.reduceEqDiff, Nat.reduceAdd, ne_eq, not_false_eq_true, List.getElem?_cons_zero, List.getElem?_cons_succ, Nat.reduceAdd, zP_c]
  refine CallT.mk (times_n hG x.natAbs y.natAbs (by omega) (by omega)) ?_
  simp (maxSteps := 10000000) only [↓sx, sx, nP_c]
  refine CallT.mk (make2_z hG (decide (x < 0) != decide (y < 0)) (x.natAbs * y.natAbs) (x * y) ?_) ?_
  · conv => rhs; rw [← zmk_self x, ← zmk_self y]
    unfold zmk
    by_cases h1 : x < 0 <;> by_cases h2 : y < 0 <;> simp [h1, h2, Int.natCast_mul, Int.neg_mul, Int.mul_neg]
  · simp (maxSteps := 10000000) only [↓sx, sx, ↓reduceIte, Nat.reduceAdd, and_self, Bool.and_self, Nat.reduceAdd, Nat.le_refl, zP_c]
set_option maxRecDepth 100000 in
theorem over2_n (x y : Int) (hx : Lw x.natAbs < 100000) (hy : Lw y.natAbs < 100000) (h0 : y ≠ 0) : Meets Tryz.prog G 121 [zP x, zP y] (.tup [zP (x / y), zP (x % y)]) := by
  refine meets_of_vc (Y := {}) (N := 46) (rs := [.cell 4 61, .cell 5 61]) mix tk hG Tryz.func121 rfl (by kernel_rfl) rfl rfl (by simp) (by kernel_rfl) ?_
  simp (maxSteps := 10000000) only [↓sx, sx, ↓ty, ↓reduceIte, Nat.reduceEqDiff, Nat.reduceAdd, ne_eq, not_false_eq_true, List.getElem?_cons_zero, List.getElem?_cons_succ, Nat.reduceAdd, zP_c]
  refine CallT.mk (over_n hG x.natAbs y.natAbs (by omega) (by omega) (by omega)) ?_
  simp (maxSteps := 10000000) only [↓sx, sx, ↓ty, ↓reduceIte, Nat.reduceEqDiff, Nat.reduceAdd, Nat.reduceLT, ne_eq, not_false_eq_true, Nat.reduceAdd, nP_c, len_Lw]
  have hm : 0 < y.natAbs := by omega
  have hn : (x.natAbs : Int) = y.natAbs * (x.natAbs / y.natAbs : Nat) + (x.natAbs % y.natAbs : Nat) := by
    have := Nat.div_add_mod x.natAbs y.natAbs
    rw [← Int.natCast_mul, ← Int.natCast_add, this]
  have hr : x.natAbs % y.natAbs < y.natAbs := Nat.mod_lt _ hm
  have hq : Lw (x.natAbs / y.natAbs) ≤ Lw x.natAbs := Lw_mono (Nat.div_le_self _ _)
  have hrL : Lw (x.natAbs % y.natAbs) ≤ Lw y.natAbs := Lw_mono (by omega)
  generalize x.natAbs / y.natAbs = q at *
  generalize x.natAbs % y.natAbs = r at *
  have key : ∀ (b : Bool) (q' r' : Nat), zmk b q' * y + (r' : Int) = x → r' < y.natAbs → zmk b q' = x / y ∧ (r' : Int) = x % y := by
    intro b q' r' h1 h2
    have := euclid_unique h0 h1 (by omega) (by omega)
    exact ⟨this.1.symm, this.2.symm⟩
  have hy' : y = zmk (decide (y < 0)) y.natAbs := (zmk_self y).symm
  refine vcIf_b (fun hx0 => ?_) (fun hx0 => ?_)
  · have hx0 : ¬ x < 0 := by simpa using hx0
    obtain ⟨k1, k2⟩ := key (!decide (x < 0) == decide (y < 0)) q r (by
      rw [hy']
      unfold zmk
      by_cases hy0 : y < 0 <;> simp [hx0, hy0] <;> grind) hr
    refine CallT.mk (make2_z hG (!decide (x < 0) == decide (y < 0)) q (x / y) k1) ?_
    simp (maxSteps := 10000000) only [↓sx, sx, ↓reduceIte, Nat.reduceEqDiff, zP_c]
    refine CallT.mk (make2_z hG false r (x % y) (by rw [← k2]; simp [zmk])) ?_
    simp (maxSteps := 10000000) only [↓sx, sx, ↓ty, ↓reduceIte, Nat.reduceEqDiff, Nat.reduceAdd, and_self, Bool.and_self, Nat.reduceAdd, Nat.le_refl, zP_c]
    rfl
  · have hx0 : x < 0 := by simpa using hx0
    refine vcIf_b (fun hr0 => ?_) (fun hr0 => ?_)
    · have hr0 : r = 0 := (Lw_zero_iff r).1 (by simpa using hr0)
      subst hr0
      obtain ⟨k1, k2⟩ := key (!decide (x < 0) == decide (y < 0)) q 0 (by
        rw [hy']
        unfold zmk
        by_cases hy0 : y < 0 <;> simp [hx0, hy0] <;> grind) hr
      refine CallT.mk (make2_z hG (!decide (x < 0) == decide (y < 0)) q (x / y) k1) ?_
      simp (maxSteps := 10000000) only [↓sx, sx, ↓reduceIte, Nat.reduceEqDiff, zP_c]
      refine CallT.mk (make2_z hG false 0 (x % y) (by rw [← k2]; simp [zmk])) ?_
      simp (maxSteps := 10000000) only [↓sx, sx, ↓ty, ↓reduceIte, Nat.reduceEqDiff, Nat.reduceAdd, and_self, Bool.and_self, Nat.reduceAdd, Nat.le_refl, zP_c]
      rfl
    · have hr0 : r ≠ 0 := by intro h; subst h; simp [Lw_zero] at hr0
      refine CallT.mk (small_n hG 1 (by omega)) ?_
      simp (maxSteps := 10000000) only [↓sx, sx, ↓ty, ↓reduceIte, Nat.reduceEqDiff, List.getElem?_cons_zero, List.getElem?_cons_succ, nP_c, len_Lw]
      refine CallT.mk (plus_n hG q 1 (by omega) (by rw [Lw_one]; omega)) ?_
      simp (maxSteps := 10000000) only [↓sx, sx, ↓reduceIte, Nat.reduceEqDiff, Nat.reduceAdd, ne_eq, not_false_eq_true, Nat.reduceAdd, nP_c, len_Lw]
      obtain ⟨k1, k2⟩ := key (!decide (y < 0)) (q + 1) (y.natAbs - r) (by
        have e1 : ((y.natAbs - r : Nat) : Int) = y.natAbs - r := by omega
        rw [e1]
        conv => lhs; rw [hy', zmk_abs]
        unfold zmk
        by_cases hy0 : y < 0 <;> simp [hx0, hy0] <;> grind) (by omega)
      refine CallT.mk (make2_z hG (!decide (y < 0)) (q + 1) (x / y) k1) ?_
      simp (maxSteps := 10000000) only [↓sx, sx, ↓reduceIte, Nat.reduceEqDiff, Nat.reduceAdd, ne_eq, not_false_eq_true, Nat.reduceAdd, zP_c, len_Lw]
      refine CallT.mk (minus_n hG y.natAbs r (by omega) (by omega) (by omega)) ?_
      simp (maxSteps := 10000000) only [↓sx, sx, nP_c, len_Lw]
      refine CallT.mk (make2_z hG false (y.natAbs - r) (x % y) (by rw [← k2]; simp [zmk])) ?_
      simp (maxSteps := 10000000) only [↓sx, sx, ↓reduceIte, Nat.reduceEqDiff, Nat.reduceAdd, and_self, Bool.and_self, Nat.reduceAdd, Nat.le_refl, zP_c, len_Lw]
set_option maxRecDepth 100000 in
theorem valid2_n (l : List UInt8) (hl : l.length < 100000000) : Meets Tryz.prog G 50 [strP l] (.val (.bool (isInt l))) := by
  refine meets_of_vc (Y := {}) (N := 20) (rs := [.tmp 2]) mix tk hG Tryz.func50 rfl (by kernel_rfl) rfl rfl (by simp) (by kernel_rfl) ?_
  simp (maxSteps := 10000000) only [↓sx, sx, ↓ty, ↓reduceIte, Nat.reduceEqDiff, Nat.reduceLT, strP_c]
  have same : ∀ {l : List UInt8}, (∀ c r, l = c :: r → c ≠ 45 ∨ r = []) → isInt l = isNat l := by
    intro l h
    cases l with
    | nil => rfl
    | cons c r =>
      rw [isInt_cons]
      by_cases hc : c = 45
      · subst hc
        rcases h 45 r rfl with h | h
        · exact absurd rfl h
        · subst h; decide
      · rw [if_neg hc]
  refine vcIf_dec (fun h1 => ⟨by omega, vcIf_b (fun h2 => ?_) (fun h2 => ?_)⟩) (fun h1 => ?_)
  · cases l with
    | nil => simp at h1
    | cons c r =>
      have hc : c = 45 := UInt8.toNat_inj.1 (by rw [beq_iff_eq] at h2; simp at h2; rw [show (45 : UInt8).toNat = 45 from rfl]; omega)
      subst hc
      refine vcIf_b (fun h3 => ?_) (fun h3 => ?_)
      · have h3 : r ≠ [48] := by intro h; subst h; exact absurd h3 (by decide)
        have hl2 : r.length < 100000000 := by simp at hl; omega
        refine ⟨by simp; omega, ?_⟩
        refine CallT.to (valid1_n hG r hl2) (by simp [strP]) ?_
        simp (maxSteps := 10000000) only [↓sx, sx, ↓reduceIte]
        rw [isInt_cons, if_pos rfl]
        cases isNat r <;> simp [h3]
      · have h3 : r = [48] := by
          have : ((45 :: r : List UInt8) == [45, 48]) = true := by
            cases hb : ((45 :: r : List UInt8) == [45, 48]) with
            | true => rfl
            | false => rw [hb] at h3; simp at h3
          simpa using this
        subst h3
        rfl
  · refine CallT.mk (valid1_n hG l hl) ?_
    simp (maxSteps := 10000000) only [↓sx, sx]
    rw [same]
    rintro c r rfl
    left
    rintro rfl
    simp at h2
  · refine CallT.mk (valid1_n hG l hl) ?_
    simp (maxSteps := 10000000) only [↓sx, sx]
    rw [same]
    rintro c r rfl
    right
    simp only [List.length_cons] at h1
    exact List.eq_nil_of_length_eq_zero (by omega)
set_option maxRecDepth 100000 in
theorem to2_n (z : Int) (hz : Lw z.natAbs < 1000000) : Meets Tryz.prog G 71 [zP z] (siP z) := by
  refine meets_of_vc (Y := {}) (N := 12) (rs := [.tmp 2]) mix tk hG Tryz.func71 rfl (by kernel_rfl) rfl rfl (by simp) (by kernel_rfl) ?_
  simp (maxSteps := 10000000) only [↓sx, sx, ↓ty, ↓reduceIte, Nat.reduceEqDiff, Nat.reduceAdd, ne_eq, not_false_eq_true, List.getElem?_cons_zero, List.getElem?_cons_succ, Nat.reduceAdd, zP_c, siP_c]
  refine vcIf_dec (fun h => ?_) (fun h => ?_)
  · refine CallT.mk (to1_n hG z.natAbs hz) ?_
    simp (maxSteps := 10000000) only [↓sx, sx, Nat.reduceAdd, Nat.reduceAdd, strP_c]
    have := dec_len z.natAbs
    refine ⟨by omega, ?_⟩
    unfold iD
    rw [if_pos h]
  · refine CallT.mk (to1_n hG z.natAbs hz) ?_
    simp (maxSteps := 10000000) only [↓sx, sx, strP_c]
    unfold iD
    rw [if_neg h]
set_option maxRecDepth 100000 in
theorem read2_n (l : List UInt8) (hv : isInt l = true) (hl : l.length < 1000000) : Meets Tryz.prog G 51 [strP l] (zP (intOf l)) := by
  refine meets_of_vc (Y := {}) (N := 13) (rs := [.cell 2 61]) mix tk hG Tryz.func51 rfl (by kernel_rfl) rfl rfl (by simp) (by kernel_rfl) ?_
  simp (maxSteps := 10000000) only [↓sx, sx, ↓ty, ↓reduceIte, Nat.reduceEqDiff, strP_c]
  cases l with
  | nil => simp [isInt] at hv
  | cons c r =>
    rw [isInt_cons] at hv
    rw [intOf_cons]
    refine ⟨by simp, vcIf_b (fun h2 => ?_) (fun h2 => ?_)⟩
    · have hc : c = 45 := UInt8.toNat_inj.1 (by rw [beq_iff_eq] at h2; simp at h2; rw [show (45 : UInt8).toNat = 45 from rfl]; omega)
      subst hc
      rw [if_pos rfl] at hv ⊢
      simp only [Bool.and_eq_true, bne_iff_ne] at hv
      have h0 : natOf r ≠ 0 := fun h0 => hv.2 (natOf_zero hv.1 h0)
      refine ⟨by simp; omega, CallT.to (from1_n hG r (by simp at hl; omega) (isNat_iff.1 hv.1).2.1) (by simp [strP]) ?_⟩
      simp (maxSteps := 10000000) only [↓sx, sx, ↓ty, ↓reduceIte, Nat.reduceEqDiff, Nat.reduceAdd, Nat.reduceLeDiff, List.getElem?_cons_zero, List.getElem?_cons_succ, and_self, Bool.and_self, Nat.reduceAdd, Nat.le_refl, nP_c]
      rw [show (-(natOf r : Int)) = zmk true (natOf r) by simp [zmk], zP_mk]
      have : 0 < (wl (natOf r)).length := by rw [wl_pos h0]; simp
      simp [this]
    · have hc : c ≠ 45 := by rintro rfl; simp at h2
      rw [if_neg hc] at hv ⊢
      refine CallT.mk (from1_n hG (c :: r) hl (isNat_iff.1 hv).2.1) ?_
      simp (maxSteps := 10000000) only [↓sx, sx, ↓ty, ↓reduceIte, Nat.reduceEqDiff, Nat.reduceAdd, Nat.reduceLeDiff, List.getElem?_cons_zero, List.getElem?_cons_succ, and_self, Bool.and_self, Nat.reduceAdd, Nat.le_refl, nP_c]
      rw [show ((natOf (c :: r) : Nat) : Int) = zmk false (natOf (c :: r)) by simp [zmk], zP_mk]
      simp
end Go.Proofs.YtfbmphbmidlijaaGreatDoor.S
namespace Gb
open Go Go.RowKit Go.Sx
theorem iD_len (z : Int) : (iD z).length ≤ 9 * Lw z.natAbs + 2 := by
  have := dec_len z.natAbs
  unfold iD
  split <;> simp <;> omega
theorem Lw_intOf {p : List UInt8} (h1 : isInt p = true) : Lw (intOf p).natAbs ≤ p.length / 9 + 1 := by
  have : (intOf p).natAbs < 10 ^ p.length := by
    cases p with
    | nil => simp [isInt] at h1
    | cons c r =>
      rw [isInt_cons] at h1
      rw [intOf_cons]
      by_cases hc : c = 45
      · rw [if_pos hc] at h1 ⊢
        simp only [Bool.and_eq_true] at h1
        have := natOf_lt r (isNat_iff.1 h1.1).2.1
        have := Nat.pow_le_pow_right (show 0 < 10 by omega) (show r.length ≤ (c :: r).length by simp)
        omega
      · rw [if_neg hc] at h1 ⊢
        have := natOf_lt (c :: r) (isNat_iff.1 h1).2.1
        omega
  refine Lw_le ?_
  rw [ten_pow]
  exact Nat.lt_of_lt_of_le this (Nat.pow_le_pow_right (by omega) (by omega))
theorem wl_one : wl 1 = [1] := by rw [wl_pos (by omega), show 1 / 1000000000 = 0 by decide, wl_zero]; rfl
theorem wl_len1 {g : Nat} (h : (wl g).length = 1) : (wl g).getD 0 0 = g := by
  have h0 : g ≠ 0 := by rintro rfl; rw [wl_zero] at h; simp at h
  rw [wl_pos h0] at h ⊢
  have : (wl (g / 1000000000)).length = 0 := by simpa using h
  have : g / 1000000000 = 0 := by
    apply Classical.byContradiction
    intro hc
    rw [wl_pos hc] at this
    simp at this
  simp
  omega
theorem zmk_div {p : Int} {g : Nat} (h : g ∣ p.natAbs) : zmk (decide (p < 0)) (p.natAbs / g) = p / g := by
  by_cases hg : g = 0
  · subst hg; simp [zmk]
  obtain ⟨k, hk⟩ := h
  rw [hk, Nat.mul_div_cancel_left _ (by omega)]
  unfold zmk
  by_cases hp : p < 0
  · have : p = g * (-k : Int) := by rw [Int.mul_neg, ← Int.natCast_mul, ← hk]; omega
    rw [if_pos (by simp [hp]), this, Int.mul_ediv_cancel_left _ (by omega)]
  · have : p = g * (k : Int) := by rw [← Int.natCast_mul, ← hk]; omega
    rw [if_neg (by simp [hp]), this, Int.mul_ediv_cancel_left _ (by omega)]
theorem add_same {x y : Rat} (h : x.den = y.den) : x + y = Rat.normalize (x.num + y.num) x.den x.den_nz := by
  rw [Rat.add_def, Rat.normalize_eq_iff]
  rw [h]
  have := y.den_nz
  grind
theorem cmp_den (a b : Nat) : (cmpI a b == 0) = decide (a = b) := by
  unfold cmpI
  by_cases h : a = b
  · subst h; simp
  · have : ¬ (a : Int) = b := by omega
    by_cases h1 : (a : Int) < b
    · simp [h1, h]
    · rw [if_neg h1, if_pos (by omega)]; simp [h]
theorem sub_sign_num (x y : Rat) : (x - y).num.sign = (x.num * y.den - y.num * x.den).sign := by
  rw [Rat.sub_def, Rat.num_normalize]
  generalize hp : x.num * ↑y.den - y.num * ↑x.den = p
  have hd := x.den_nz
  have hd2 := y.den_nz
  have hdv : ((p.natAbs.gcd (x.den * y.den) : Nat) : Int) ∣ p := Int.ofNat_dvd_left.2 (Nat.gcd_dvd_left _ _)
  have hg : 0 < p.natAbs.gcd (x.den * y.den) := Nat.gcd_pos_of_pos_right _ (Nat.mul_pos (by omega) (by omega))
  generalize p.natAbs.gcd (x.den * y.den) = g at *
  obtain ⟨k, rfl⟩ := hdv
  rw [Int.mul_ediv_cancel_left _ (by omega), Int.sign_mul, Int.sign_eq_one_of_pos (show (0 : Int) < g by omega), Int.one_mul]
def qP (x : Rat) : PV := .agg [.val (.bool (decide (x.num < 0))), nP x.num.natAbs, nP x.den]
theorem qP_c (x : Rat) : qP x = .agg [.val (.bool (decide (x.num < 0))), .sl (wl x.num.natAbs).length ((wl x.num.natAbs).map wv), .sl (wl x.den).length ((wl x.den).map wv)] := rfl
def rT (x : Rat) : List UInt8 := if x.den = 1 then iD x.num else iD x.num ++ 47 :: Lib.decDigits x.den
def rtP (x : Rat) : PV := strP (rT x)
theorem rtP_c (x : Rat) : rtP x = .val (.string ⟨(rT x).toArray⟩) := rfl
def splitM : List UInt8 → List UInt8 × List UInt8 × Bool
  | [] => ([], [49], false)
  | c :: r => if c = 47 then ([], r, true) else (c :: (splitM r).1, (splitM r).2.1, (splitM r).2.2)
theorem splitM_cons (c : UInt8) (r : List UInt8) : splitM (c :: r) = if c = 47 then ([], r, true) else (c :: (splitM r).1, (splitM r).2.1, (splitM r).2.2) := rfl
theorem splitM_no : ∀ (l : List UInt8), (∀ c ∈ l, c ≠ 47) → splitM l = (l, [49], false)
  | [], _ => rfl
  | c :: r, h => by
    rw [splitM_cons, if_neg (h c (List.mem_cons_self ..)), splitM_no r fun x hx => h x (List.mem_cons_of_mem _ hx)]
theorem splitM_at : ∀ (l m : List UInt8), (∀ c ∈ l, c ≠ 47) → splitM (l ++ 47 :: m) = (l, m, true)
  | [], m, _ => by rw [List.nil_append, splitM_cons, if_pos rfl]
  | c :: r, m, h => by
    rw [List.cons_append, splitM_cons, if_neg (h c (List.mem_cons_self ..)), splitM_at r m fun x hx => h x (List.mem_cons_of_mem _ hx)]
theorem splitM_inv : ∀ (l : List UInt8), ((splitM l).2.2 = true ∧ l = (splitM l).1 ++ 47 :: (splitM l).2.1) ∨ ((splitM l).2.2 = false ∧ l = (splitM l).1 ∧ (splitM l).2.1 = [49])
  | [] => .inr ⟨rfl, rfl, rfl⟩
  | c :: r => by
    rw [splitM_cons]
    by_cases h : c = 47
    · rw [if_pos h]; subst h; exact .inl ⟨rfl, rfl⟩
    · rw [if_neg h]
      rcases splitM_inv r with ⟨h1, h2⟩ | ⟨h1, h2, h3⟩
      · left; refine ⟨h1, ?_⟩; show c :: r = c :: (splitM r).1 ++ _; rw [List.cons_append, ← h2]
      · right; refine ⟨h1, ?_, h3⟩; show c :: r = c :: (splitM r).1; rw [← h2]
theorem splitM_len (l : List UInt8) : (splitM l).1.length ≤ l.length ∧ (splitM l).2.1.length ≤ l.length + 1 := by
  rcases splitM_inv l with ⟨_, h⟩ | ⟨_, h1, h2⟩
  · have := congrArg List.length h
    rw [List.length_append, List.length_cons] at this
    omega
  · rw [h2, ← h1]; simp
theorem iD_no47 (z : Int) : ∀ c ∈ iD z, c ≠ 47 := by
  intro c hc
  have hd : ∀ n, ∀ c ∈ Lib.decDigits n, c ≠ 47 := by
    intro n c hc h
    subst h
    have := isD_iff.1 (dec_isD n 47 hc)
    simp at this
  unfold iD at hc
  split at hc
  · rcases List.mem_cons.1 hc with rfl | hc
    · decide
    · exact hd _ c hc
  · exact hd _ c hc
def isRat (l : List UInt8) : Bool := isInt (splitM l).1 && isNat (splitM l).2.1 && (!(splitM l).2.2 || (decide (1 < natOf (splitM l).2.1) && decide (intOf (splitM l).1 ≠ 0) && decide (Nat.gcd (intOf (splitM l).1).natAbs (natOf (splitM l).2.1) = 1)))
def ratOf (l : List UInt8) : Rat := mkRat (intOf (splitM l).1) (natOf (splitM l).2.1)
theorem isRat_spec {l : List UInt8} (h : isRat l = true) : isInt (splitM l).1 = true ∧ isNat (splitM l).2.1 = true ∧ 0 < natOf (splitM l).2.1 ∧ Nat.gcd (intOf (splitM l).1).natAbs (natOf (splitM l).2.1) = 1 ∧ ((splitM l).2.2 = true ↔ natOf (splitM l).2.1 ≠ 1) := by
  unfold isRat at h
  simp only [Bool.and_eq_true, Bool.or_eq_true, Bool.not_eq_true', decide_eq_true_eq] at h
  obtain ⟨⟨h1, h2⟩, h3⟩ := h
  rcases splitM_inv l with ⟨h4, h5⟩ | ⟨h4, h5, h6⟩
  · rcases h3 with h3 | h3
    · rw [h4] at h3; cases h3
    · exact ⟨h1, h2, by omega, h3.2, by rw [h4]; simp; omega⟩
  · have : natOf (splitM l).2.1 = 1 := by rw [h6]; rfl
    rw [this]
    exact ⟨h1, h2, by omega, Nat.gcd_one_right _, by rw [h4]; simp⟩
theorem ratOf_spec {l : List UInt8} (h : isRat l = true) : (ratOf l).num = intOf (splitM l).1 ∧ (ratOf l).den = natOf (splitM l).2.1 := by
  obtain ⟨_, _, h3, h4, _⟩ := isRat_spec h
  unfold ratOf
  have e : mkRat (intOf (splitM l).1) (natOf (splitM l).2.1) = ⟨intOf (splitM l).1, natOf (splitM l).2.1, by omega, h4⟩ := by
    rw [Rat.mk_eq_normalize, mkRat, dif_neg (by omega)]
  rw [e]
  exact ⟨rfl, rfl⟩
theorem rT_ratOf {l : List UInt8} (h : isRat l = true) : rT (ratOf l) = l := by
  obtain ⟨h1, h2, h3, h4, h5⟩ := isRat_spec h
  obtain ⟨e1, e2⟩ := ratOf_spec h
  unfold rT
  rw [e1, e2, iD_intOf h1, dec_natOf h2]
  rcases splitM_inv l with ⟨g1, g2⟩ | ⟨g1, g2, g3⟩
  · rw [if_neg (h5.1 g1)]; exact g2.symm
  · rw [if_pos (by rw [g3]; rfl)]; exact g2.symm
theorem splitM_rT (x : Rat) : splitM (rT x) = (iD x.num, Lib.decDigits x.den, !decide (x.den = 1)) := by
  unfold rT
  by_cases h : x.den = 1
  · rw [if_pos h, splitM_no _ (iD_no47 _), h, Lib.decDigits]; rfl
  · rw [if_neg h, splitM_at _ _ (iD_no47 _)]; simp [h]
theorem isRat_rT (x : Rat) : isRat (rT x) = true := by
  unfold isRat
  rw [splitM_rT]
  dsimp only
  rw [isInt_iD, isNat_dec, natOf_dec, intOf_iD]
  have hd := x.den_nz
  have hr := x.reduced
  by_cases h : x.den = 1
  · simp [h]
  · have hn : x.num ≠ 0 := by
      intro h0
      rw [h0] at hr
      have : x.den = 1 := by simpa [Nat.Coprime] using hr
      exact h this
    simp [h, hn]
    exact ⟨by omega, hr⟩
theorem ratOf_rT (x : Rat) : ratOf (rT x) = x := by
  unfold ratOf
  rw [splitM_rT]
  dsimp only
  rw [natOf_dec, intOf_iD, Rat.mkRat_self]
def Sz (k : Nat) (x : Rat) : Prop := Lw x.num.natAbs ≤ k ∧ Lw x.den ≤ k
theorem Sz.mono {k m : Nat} {x : Rat} (h : Sz k x) (hm : k ≤ m) : Sz m x := ⟨by have := h.1; omega, by have := h.2; omega⟩
theorem Sz.norm {k : Nat} {p : Int} {d : Nat} (hd : d ≠ 0) (h1 : Lw p.natAbs ≤ k) (h2 : Lw d ≤ k) : Sz k (Rat.normalize p d hd) := by
  unfold Sz
  rw [Rat.num_normalize, Rat.den_normalize]
  have hg : p.natAbs.gcd d ≠ 0 := Nat.ne_of_gt (Nat.gcd_pos_of_pos_right _ (by omega))
  constructor
  · have : (p / (p.natAbs.gcd d : Nat)).natAbs ≤ p.natAbs := by
      have hdv : ((p.natAbs.gcd d : Nat) : Int) ∣ p := Int.ofNat_dvd_left.2 (Nat.gcd_dvd_left _ _)
      rw [Int.natAbs_ediv_of_dvd hdv]
      exact Nat.div_le_self _ _
    exact Nat.le_trans (Lw_mono this) h1
  · exact Nat.le_trans (Lw_mono (Nat.div_le_self _ _)) h2
theorem Sz.neg {k : Nat} {x : Rat} (h : Sz k x) : Sz k (-x) := by
  unfold Sz at *
  rw [Rat.neg_num, Rat.neg_den, Int.natAbs_neg]; exact h
theorem Lw_iadd (x y : Int) : Lw (x + y).natAbs ≤ max (Lw x.natAbs) (Lw y.natAbs) + 1 := by
  have h1 := Lw_mono (show (x + y).natAbs ≤ x.natAbs + y.natAbs by omega)
  have h2 := Lw_add x.natAbs y.natAbs
  omega
theorem Lw_imul (x y : Int) : Lw (x * y).natAbs ≤ Lw x.natAbs + Lw y.natAbs := by
  rw [Int.natAbs_mul]; exact Lw_mul _ _
theorem Sz.add {k : Nat} {x y : Rat} (hx : Sz k x) (hy : Sz k y) : Sz (2 * k + 1) (x + y) := by
  rw [Rat.add_def]
  have h1 := Lw_iadd (x.num * y.den) (y.num * x.den)
  have h2 := Lw_imul x.num y.den
  have h3 := Lw_imul y.num x.den
  have h4 := Lw_mul x.den y.den
  have := hx.1; have := hx.2; have := hy.1; have := hy.2
  rw [Int.natAbs_natCast] at h2 h3
  exact Sz.norm _ (by omega) (by omega)
theorem Sz.sub {k : Nat} {x y : Rat} (hx : Sz k x) (hy : Sz k y) : Sz (2 * k + 1) (x - y) := by
  rw [Rat.sub_eq_add_neg]; exact hx.add hy.neg
theorem Sz.mul {k : Nat} {x y : Rat} (hx : Sz k x) (hy : Sz k y) : Sz (2 * k) (x * y) := by
  rw [Rat.mul_def]
  have h2 := Lw_imul x.num y.num
  have h4 := Lw_mul x.den y.den
  have := hx.1; have := hx.2; have := hy.1; have := hy.2
  exact Sz.norm _ (by omega) (by omega)
theorem Sz.inv {k : Nat} {x : Rat} (hx : Sz k x) (hk : 1 ≤ k) : Sz k x⁻¹ := by
  unfold Sz at *
  rw [Rat.num_inv, Rat.den_inv]
  constructor
  · rw [Int.natAbs_mul, Int.natAbs_natCast]
    by_cases h : x.num = 0
    · rw [h]; simp [Lw_zero]
    · rw [Int.natAbs_sign_of_ne_zero h, Nat.one_mul]; exact hx.2
  · split
    · rw [Lw_one]; exact hk
    · exact hx.1
theorem Sz.div {k : Nat} {x y : Rat} (hx : Sz k x) (hy : Sz k y) (hk : 1 ≤ k) : Sz (2 * k) (x / y) := by
  rw [Rat.div_def]; exact hx.mul (hy.inv hk)
theorem Sz.int {k : Nat} {z : Int} (h : Lw z.natAbs ≤ k) (hk : 1 ≤ k) : Sz k (z : Rat) := by
  unfold Sz
  rw [Rat.num_intCast, Rat.den_intCast, Lw_one]
  exact ⟨h, hk⟩
theorem Sz.text {l : List UInt8} (h : isRat l = true) : Sz (l.length / 9 + 1) (ratOf l) := by
  obtain ⟨h1, h2, h3, h4, h5⟩ := isRat_spec h
  obtain ⟨e1, e2⟩ := ratOf_spec h
  obtain ⟨g1, g2⟩ := splitM_len l
  unfold Sz
  rw [e1, e2]
  constructor
  · have : (intOf (splitM l).1).natAbs < 10 ^ l.length := by
      generalize (splitM l).1 = p at *
      have hp : 10 ^ p.length ≤ 10 ^ l.length := Nat.pow_le_pow_right (by omega) g1
      cases p with
      | nil => simp [isInt] at h1
      | cons c r =>
        rw [isInt_cons] at h1
        rw [intOf_cons]
        by_cases hc : c = 45
        · rw [if_pos hc] at h1 ⊢
          simp only [Bool.and_eq_true] at h1
          have := natOf_lt r (isNat_iff.1 h1.1).2.1
          have := Nat.pow_le_pow_right (show 0 < 10 by omega) (show r.length ≤ (c :: r).length by simp)
          omega
        · rw [if_neg hc] at h1 ⊢
          have := natOf_lt (c :: r) (isNat_iff.1 h1).2.1
          omega
    refine Lw_le ?_
    rw [ten_pow]
    exact Nat.lt_of_lt_of_le this (Nat.pow_le_pow_right (by omega) (by omega))
  · have hq : natOf (splitM l).2.1 < 10 ^ (9 * (l.length / 9 + 1)) := by
      have h6 := natOf_lt _ (isNat_iff.1 h2).2.1
      rcases splitM_inv l with ⟨_, hl⟩ | ⟨_, _, hl⟩
      · have := congrArg List.length hl
        rw [List.length_append, List.length_cons] at this
        exact Nat.lt_of_lt_of_le h6 (Nat.pow_le_pow_right (by omega) (by omega))
      · rw [hl]
        show 1 < _
        exact Nat.lt_of_lt_of_le (show 1 < 10 ^ 1 by decide) (Nat.pow_le_pow_right (by omega) (by omega))
    refine Lw_le ?_
    rw [ten_pow]
    exact hq
theorem pc :
  (∀ l : List UInt8, strP l = .val (.string ⟨l.toArray⟩)) ∧ (∀ n : Nat, nP n = .sl (wl n).length ((wl n).map wv)) ∧ (∀ z : Int, iP z = .val (.int .i64 z)) ∧
  (∀ z : Int, zP z = .agg [.val (.bool (decide (z < 0))), .sl (wl z.natAbs).length ((wl z.natAbs).map wv)]) ∧
  (∀ z : Int, siP z = .val (.string ⟨(iD z).toArray⟩)) ∧ (∀ n : Nat, dP n = .val (.string ⟨(Lib.decDigits n).toArray⟩)) ∧
  (∀ x : Rat, rtP x = .val (.string ⟨(rT x).toArray⟩)) ∧
  (∀ x : Rat, qP x = .agg [.val (.bool (decide (x.num < 0))), .sl (wl x.num.natAbs).length ((wl x.num.natAbs).map wv), .sl (wl x.den).length ((wl x.den).map wv)]) :=
  ⟨fun _ => rfl, fun _ => rfl, fun _ => rfl, fun _ => rfl, fun _ => rfl, fun _ => rfl, fun _ => rfl, fun _ => rfl⟩
end Gb
namespace Go.Proofs.YtfbmphbmidlijaaGreatDoor.S
open Go Go.Sx Go.RowKit Gb
variable {G : World → Prop} (hG : ∀ w w', G w → Below w.heap.size w w' → G w')
include hG
set_option maxRecDepth 100000 in
set_option maxHeartbeats 4000000 in
theorem split_n (l : List UInt8) (hl : l.length < 10000000) : Meets Tryz.prog G 57 [strP l] (.tup [strP (splitM l).1, strP (splitM l).2.1, .val (.bool (splitM l).2.2)]) := by
  refine meets_of_vc (Y := {}) (N := 24) (rs := [.tmp 2, .tmp 3, .tmp 4]) mix tk hG Tryz.func57 rfl (by kernel_rfl) rfl rfl (by simp) (by kernel_rfl) ?_
  simp (maxSteps := 10000000) only [↓sx, sx, strP_c]
  refine loopK_of (fun i : Nat => [(0, .p (.val (.string ⟨l.toArray⟩))), (5, .p (.val (.int .i64 (i : Nat))))]) (fun _ => []) (fun _ => []) (fun i => i ≤ l.length ∧ splitM l = (l.take i ++ (splitM (l.drop i)).1, (splitM (l.drop i)).2.1, (splitM (l.drop i)).2.2)) (fun i => l.length - i) 0 ⟨Nat.zero_le _, by simp⟩ ?_ ?_
  · simp (maxSteps := 10000000) only [isE_nil, is_cons, bo_p, all_nil', ↓sx, sx, ↓reduceIte, Nat.reduceEqDiff]
    rfl
  · rintro i ⟨h1, h2⟩
    simp (maxSteps := 10000000) only [↓sx, sx, ↓ty, ↓reduceIte, Nat.reduceEqDiff, getD_get]
    refine vcIf_dec (fun hi => ?_) (fun hi => ?_)
    · have hil : i < l.length := by omega
      have hd : l.drop i = l.getD i 0 :: l.drop (i + 1) := by
        rw [List.drop_eq_getElem_cons hil, List.getD_eq_getElem?_getD, List.getElem?_eq_getElem hil]; rfl
      refine ⟨by omega, vcIf_b (fun h3 => ?_) (fun h3 => ?_)⟩
      · have hc : l.getD i 0 = 47 := UInt8.toNat_inj.1 (by rw [beq_iff_eq] at h3; rw [show (47 : UInt8).toNat = 47 from rfl]; omega)
        rw [hd, splitM_cons, if_pos hc] at h2
        rw [h2, i64_id (x := (i : Int) + 1) (by omega) (by omega)]
        refine ⟨by omega, by omega, ?_⟩
        have e1 : ((i : Int) + 1).toNat = i + 1 := by omega
        simp [e1, List.take_of_length_le]
      · have hc : l.getD i 0 ≠ 47 := by intro h; rw [h] at h3; simp at h3
        refine NextK.mk (i + 1) (by omega) ⟨by omega, ?_⟩ ?_
        · rw [h2, hd, splitM_cons, if_neg hc, take_succ_getD _ _ hil]
          simp
        · simp (maxSteps := 10000000) only [isE_nil, is_cons, bo_p, all_nil', ↓sx, sx, ↓reduceIte, Nat.reduceEqDiff]
          rw [i64_id (by omega) (by omega)]
          rfl
    · obtain rfl : i = l.length := by omega
      rw [List.drop_length, List.take_length] at h2
      rw [h2]
      simp [splitM]
set_option maxRecDepth 100000 in
set_option maxHeartbeats 4000000 in
theorem int3_n (z : Int) (h0 : -4294967296 < z) (h1 : z < 4294967296) : Meets Tryz.prog G 110 [.val (.int .i64 z)] (qP (z : Rat)) := by
  refine meets_of_vc (Y := {}) (N := 7) (rs := [.cell 2 66]) mix tk hG Tryz.func110 rfl (by kernel_rfl) rfl rfl (by simp) (by kernel_rfl) ?_
  simp (maxSteps := 10000000) only [↓sx, sx, ↓ty, ↓reduceIte, Nat.reduceEqDiff, qP_c]
  refine CallT.mk (small2_n hG z h0 h1) ?_
  simp (maxSteps := 10000000) only [↓sx, sx, zP_c]
  refine CallT.mk (small_n hG 1 (by omega)) ?_
  simp (maxSteps := 10000000) only [↓sx, sx, ↓ty, ↓reduceIte, Nat.reduceEqDiff, Nat.reduceAdd, Nat.reduceLeDiff, List.getElem?_cons_zero, List.getElem?_cons_succ, and_self, Bool.and_self, Nat.reduceAdd, Nat.le_refl, nP_c]
  rw [Rat.num_intCast, Rat.den_intCast]
set_option maxRecDepth 100000 in
set_option maxHeartbeats 4000000 in
theorem to3_n (x : Rat) (hx : Sz 50000 x) : Meets Tryz.prog G 53 [qP x] (rtP x) := by
  refine meets_of_vc (Y := {}) (N := 18) (rs := [.tmp 2]) mix tk hG Tryz.func53 rfl (by kernel_rfl) rfl rfl (by simp) (by kernel_rfl) ?_
  simp (maxSteps := 10000000) only [↓sx, sx, ↓ty, ↓reduceIte, Nat.reduceEqDiff, Nat.reduceAdd, Nat.reduceLeDiff, ne_eq, not_false_eq_true, List.getElem?_cons_zero, List.getElem?_cons_succ, Nat.reduceAdd, qP_c]
  refine CallT.mk (to2_n hG x.num (by have := hx.1; omega)) ?_
  simp (maxSteps := 10000000) only [↓sx, sx, ↓reduceIte, Nat.reduceEqDiff, Nat.reduceAdd, ne_eq, not_false_eq_true, Nat.reduceAdd, siP_c]
  refine CallT.mk (to1_n hG x.den (by have := hx.2; omega)) ?_
  simp (maxSteps := 10000000) only [↓sx, sx, ↓reduceIte, Nat.reduceEqDiff, Nat.reduceAdd, Nat.reduceAdd, strP_c, rtP_c]
  have hd : (Lib.decDigits x.den == [49]) = decide (x.den = 1) := by
    by_cases h : x.den = 1
    · rw [h, Lib.decDigits]; rfl
    · have : Lib.decDigits x.den ≠ [49] := by
        intro h0
        have := natOf_dec x.den
        rw [h0] at this
        exact h this.symm
      simp [this, h]
  rw [hd]
  have l1 := iD_len x.num
  have l2 := dec_len x.den
  have := hx.1; have := hx.2
  unfold rT
  by_cases h : x.den = 1
  · refine vcIf_b (fun h3 => ?_) (fun h3 => ?_)
    · simp [h] at h3
    · rw [if_pos h]
  · refine vcIf_b (fun h3 => ?_) (fun h3 => ?_)
    · rw [if_neg h]
      exact ⟨by omega, by omega, rfl⟩
    · simp [h] at h3
set_option maxRecDepth 100000 in
set_option maxHeartbeats 4000000 in
theorem lowest_n (p : Int) (d : Nat) (hd : d ≠ 0) (h1 : Lw p.natAbs < 100000) (h2 : Lw d < 100000) : Meets Tryz.prog G 54 [zP p, nP d] (qP (Rat.normalize p d hd)) := by
  refine meets_of_vc (Y := {}) (N := 45) (rs := [.cell 4 66]) mix tk hG Tryz.func54 rfl (by kernel_rfl) rfl rfl (by simp) (by kernel_rfl) ?_
  simp (maxSteps := 10000000) only [↓sx, sx, ↓ty, ↓reduceIte, Nat.reduceEqDiff, Nat.reduceAdd, ne_eq, not_false_eq_true, List.getElem?_cons_zero, List.getElem?_cons_succ, Nat.reduceAdd, zP_c, nP_c, qP_c]
  refine CallT.mk (common_n hG p.natAbs d (by omega) (by omega)) ?_
  have hdv : p.natAbs.gcd d ∣ p.natAbs := Nat.gcd_dvd_left _ _
  have hg0 : 0 < p.natAbs.gcd d := Nat.gcd_pos_of_pos_right _ (by omega)
  have hgl : Lw (p.natAbs.gcd d) ≤ Lw d := Lw_mono (Nat.gcd_le_right _ (by omega))
  have hql : Lw (p.natAbs / p.natAbs.gcd d) ≤ Lw p.natAbs := Lw_mono (Nat.div_le_self _ _)
  rw [Rat.num_normalize, Rat.den_normalize]
  generalize p.natAbs.gcd d = g at *
  have hz := zmk_div hdv
  by_cases h1g : g = 1
  · subst h1g
    simp (maxSteps := 10000000) only [↓sx, sx, ↓ty, ↓reduceIte, Nat.reduceEqDiff, Nat.reduceAdd, Nat.reduceLeDiff, Nat.reduceLT, Int.reduceBEq, ne_eq, not_false_eq_true, List.getElem?_cons_zero, List.getElem?_cons_succ, and_self, Bool.and_self, Nat.reduceAdd, Nat.le_refl, nP_c, wl_one, wv_c]
    refine vcIf_b (fun _ => ?_) (fun h => absurd h (by simp))
    simp
  · simp (maxSteps := 10000000) only [↓sx, sx, ↓ty, ↓reduceIte, Nat.reduceEqDiff, Nat.reduceAdd, Nat.reduceLeDiff, Nat.reduceLT, ne_eq, not_false_eq_true, List.getElem?_cons_zero, List.getElem?_cons_succ, and_self, Bool.and_self, Nat.reduceAdd, Nat.le_refl, nP_c, wv_c]
    refine vcIf_b (fun h3 => ⟨?_, ?_⟩) (fun h3 => ?_)
    · rw [beq_iff_eq] at h3
      exact ⟨by omega, by omega⟩
    · rw [beq_iff_eq] at h3
      refine ⟨by omega, vcIf_b (fun h4 => ?_) (fun h4 => ?_)⟩
      · rw [beq_iff_eq, wl_len1 (by omega)] at h4
        omega
      · refine CallT.mk (over_n hG p.natAbs g (by omega) (by omega) hg0) ?_
        simp (maxSteps := 10000000) only [↓sx, sx, ↓reduceIte, Nat.reduceEqDiff, nP_c]
        refine CallT.mk (over_n hG d g (by omega) (by omega) hg0) ?_
        simp (maxSteps := 10000000) only [↓sx, sx, ↓reduceIte, Nat.reduceEqDiff, Nat.reduceAdd, ne_eq, not_false_eq_true, Nat.reduceAdd, nP_c]
        refine CallT.mk (make2_z hG (decide (p < 0)) (p.natAbs / g) (p / g) hz) ?_
        simp (maxSteps := 10000000) only [↓sx, sx, ↓ty, ↓reduceIte, Nat.reduceEqDiff, Nat.reduceAdd, Nat.reduceLeDiff, List.getElem?_cons_zero, List.getElem?_cons_succ, and_self, Bool.and_self, Nat.reduceAdd, Nat.le_refl, zP_c]
    · refine CallT.mk (over_n hG p.natAbs g (by omega) (by omega) hg0) ?_
      simp (maxSteps := 10000000) only [↓sx, sx, ↓reduceIte, Nat.reduceEqDiff, nP_c]
      refine CallT.mk (over_n hG d g (by omega) (by omega) hg0) ?_
      simp (maxSteps := 10000000) only [↓sx, sx, ↓reduceIte, Nat.reduceEqDiff, Nat.reduceAdd, ne_eq, not_false_eq_true, Nat.reduceAdd, nP_c]
      refine CallT.mk (make2_z hG (decide (p < 0)) (p.natAbs / g) (p / g) hz) ?_
      simp (maxSteps := 10000000) only [↓sx, sx, ↓ty, ↓reduceIte, Nat.reduceEqDiff, Nat.reduceAdd, Nat.reduceLeDiff, List.getElem?_cons_zero, List.getElem?_cons_succ, and_self, Bool.and_self, Nat.reduceAdd, Nat.le_refl, zP_c]
end Go.Proofs.YtfbmphbmidlijaaGreatDoor.S
namespace Go.Proofs.YtfbmphbmidlijaaGreatDoor.S
open Go Go.Sx Go.RowKit Gb
variable {G : World → Prop} (hG : ∀ w w', G w → Below w.heap.size w w' → G w')
include hG
set_option maxRecDepth 100000 in
set_option maxHeartbeats 4000000 in
theorem lowest_q (p : Int) (d : Nat) (x : Rat) (hd : d ≠ 0) (h1 : Lw p.natAbs < 100000) (h2 : Lw d < 100000) (h : Rat.normalize p d hd = x) : Meets Tryz.prog G 54 [zP p, nP d] (qP x) := h ▸ lowest_n hG p d hd h1 h2
set_option maxRecDepth 100000 in
set_option maxHeartbeats 4000000 in
theorem add3_n (x y : Rat) (hx : Sz 40000 x) (hy : Sz 40000 y) : Meets Tryz.prog G 65 [qP x, qP y] (qP (x + y)) := by
  have a1 := hx.1
  have a2 := hx.2
  have a3 := hy.1
  have a4 := hy.2
  have b1 := Lw_iadd x.num y.num
  have b2 := Lw_mul x.num.natAbs y.den
  have b3 := Lw_mul y.num.natAbs x.den
  have b4 := Lw_mul x.den y.den
  have b5 := Lw_iadd (x.num * y.den) (y.num * x.den)
  have b6 := Lw_imul x.num y.den
  have b7 := Lw_imul y.num x.den
  rw [Int.natAbs_natCast] at b6 b7
  refine meets_of_vc (Y := {}) (N := 50) (rs := [.cell 4 66]) mix tk hG Tryz.func65 rfl (by kernel_rfl) rfl rfl (by simp) (by kernel_rfl) ?_
  simp (maxSteps := 10000000) only [↓sx, sx, ↓ty, ↓reduceIte, Nat.reduceEqDiff, Nat.reduceAdd, ne_eq, not_false_eq_true, List.getElem?_cons_zero, List.getElem?_cons_succ, Nat.reduceAdd, qP_c]
  refine CallT.mk (cmp_n hG x.den y.den (by omega) (by omega)) ?_
  simp (maxSteps := 10000000) only [↓sx, sx, ↓reduceIte, Nat.reduceEqDiff, Nat.reduceAdd, Nat.reduceLeDiff, ne_eq, not_false_eq_true, Nat.reduceAdd, iP_c, cmp_den]
  refine vcIf_b (fun h => ?_) (fun h => ?_)
  · have h : x.den = y.den := by simpa using h
    refine CallT.mk (plus2_n hG x.num y.num (by omega) (by omega)) ?_
    simp (maxSteps := 10000000) only [↓sx, sx, ↓reduceIte, Nat.reduceEqDiff, Nat.reduceAdd, ne_eq, not_false_eq_true, Nat.reduceAdd, zP_c]
    refine CallT.mk (lowest_q hG (x.num + y.num) x.den (x + y) x.den_nz (by omega) (by omega) (add_same h).symm) ?_
    simp (maxSteps := 10000000) only [↓sx, sx, ↓reduceIte, Nat.reduceEqDiff, Nat.reduceAdd, and_self, Bool.and_self, Nat.reduceAdd, Nat.le_refl, qP_c]
  · refine CallT.mk (times_n hG x.num.natAbs y.den (by omega) (by omega)) ?_
    simp (maxSteps := 10000000) only [↓sx, sx, nP_c]
    refine CallT.mk (make2_z hG (decide (x.num < 0)) (x.num.natAbs * y.den) (x.num * y.den) ?_) ?_
    · conv => rhs; rw [← zmk_self x.num]
      unfold zmk; split <;> simp [Int.neg_mul]
    simp (maxSteps := 10000000) only [↓sx, sx, ↓reduceIte, Nat.reduceEqDiff, Nat.reduceAdd, ne_eq, not_false_eq_true, and_self, Bool.and_self, Nat.reduceAdd, Nat.le_refl, zP_c]
    refine CallT.mk (times_n hG y.num.natAbs x.den (by omega) (by omega)) ?_
    simp (maxSteps := 10000000) only [↓sx, sx, nP_c]
    refine CallT.mk (make2_z hG (decide (y.num < 0)) (y.num.natAbs * x.den) (y.num * x.den) ?_) ?_
    · conv => rhs; rw [← zmk_self y.num]
      unfold zmk; split <;> simp [Int.neg_mul]
    simp (maxSteps := 10000000) only [↓sx, sx, ↓reduceIte, Nat.reduceEqDiff, Nat.reduceAdd, and_self, Bool.and_self, Nat.reduceAdd, Nat.le_refl, zP_c]
    refine CallT.mk (plus2_n hG (x.num * y.den) (y.num * x.den) (by omega) (by omega)) ?_
    simp (maxSteps := 10000000) only [↓sx, sx, ↓reduceIte, Nat.reduceEqDiff, Nat.reduceAdd, ne_eq, not_false_eq_true, Nat.reduceAdd, zP_c]
    refine CallT.mk (times_n hG x.den y.den (by omega) (by omega)) ?_
    simp (maxSteps := 10000000) only [↓sx, sx, nP_c]
    refine CallT.mk (lowest_q hG (x.num * y.den + y.num * x.den) (x.den * y.den) (x + y) (Nat.mul_ne_zero x.den_nz y.den_nz) (by omega) (by omega) (Rat.add_def _ _).symm) ?_
    simp (maxSteps := 10000000) only [↓sx, sx, ↓reduceIte, Nat.reduceEqDiff, Nat.reduceAdd, and_self, Bool.and_self, Nat.reduceAdd, Nat.le_refl, qP_c]
set_option maxRecDepth 100000 in
set_option maxHeartbeats 4000000 in
theorem mul3_n (x y : Rat) (hx : Sz 40000 x) (hy : Sz 40000 y) : Meets Tryz.prog G 67 [qP x, qP y] (qP (x * y)) := by
  have a1 := hx.1
  have a2 := hx.2
  have a3 := hy.1
  have a4 := hy.2
  have b4 := Lw_mul x.den y.den
  have b6 := Lw_imul x.num y.num
  refine meets_of_vc (Y := {}) (N := 16) (rs := [.cell 4 66]) mix tk hG Tryz.func67 rfl (by kernel_rfl) rfl rfl (by simp) (by kernel_rfl) ?_
  simp (maxSteps := 10000000) only [↓sx, sx, ↓ty, ↓reduceIte, Nat.reduceEqDiff, Nat.reduceAdd, Nat.reduceLeDiff, ne_eq, not_false_eq_true, List.getElem?_cons_zero, List.getElem?_cons_succ, Nat.reduceAdd, qP_c]
  refine CallT.mk (times2_n hG x.num y.num (by omega) (by omega)) ?_
  simp (maxSteps := 10000000) only [↓sx, sx, ↓reduceIte, Nat.reduceEqDiff, Nat.reduceAdd, ne_eq, not_false_eq_true, Nat.reduceAdd, zP_c]
  refine CallT.mk (times_n hG x.den y.den (by omega) (by omega)) ?_
  simp (maxSteps := 10000000) only [↓sx, sx, nP_c]
  refine CallT.mk (lowest_q hG (x.num * y.num) (x.den * y.den) (x * y) (Nat.mul_ne_zero x.den_nz y.den_nz) (by omega) (by omega) (Rat.mul_def _ _).symm) ?_
  simp (maxSteps := 10000000) only [↓sx, sx, ↓reduceIte, Nat.reduceAdd, and_self, Bool.and_self, Nat.reduceAdd, Nat.le_refl, qP_c]
end Go.Proofs.YtfbmphbmidlijaaGreatDoor.S
namespace Go.Proofs.YtfbmphbmidlijaaGreatDoor.S
open Go Go.Sx Go.RowKit Gb
variable {G : World → Prop} (hG : ∀ w w', G w → Below w.heap.size w w' → G w')
include hG
set_option maxRecDepth 100000 in
set_option maxHeartbeats 4000000 in
theorem whole3_n (x : Rat) (hx : Sz 40000 x) : Meets Tryz.prog G 72 [qP x] (zP x.floor) := by
  have a1 := hx.1
  have a2 := hx.2
  have hd := x.den_nz
  refine meets_of_vc (Y := {}) (N := 15) (rs := [.cell 2 61]) mix tk hG Tryz.func72 rfl (by kernel_rfl) rfl rfl (by simp) (by kernel_rfl) ?_
  simp (maxSteps := 10000000) only [↓sx, sx, ↓ty, ↓reduceIte, Nat.reduceEqDiff, Nat.reduceAdd, Nat.reduceLeDiff, ne_eq, not_false_eq_true, List.getElem?_cons_zero, List.getElem?_cons_succ, Nat.reduceAdd, qP_c]
  refine CallT.mk (make2_z hG false x.den (x.den : Int) (by simp [zmk])) ?_
  simp (maxSteps := 10000000) only [↓sx, sx, zP_c]
  refine CallT.mk (over2_n hG x.num x.den (by omega) (by rw [Int.natAbs_natCast]; omega) (by omega)) ?_
  simp (maxSteps := 10000000) only [↓sx, sx, ↓ty, ↓reduceIte, Nat.reduceEqDiff, Nat.reduceAdd, and_self, Bool.and_self, Nat.reduceAdd, Nat.le_refl, zP_c]
  rw [Rat.floor_def]
set_option maxRecDepth 100000 in
set_option maxHeartbeats 4000000 in
theorem from3_n (l : List UInt8) (hl : l.length < 300000) : Meets Tryz.prog G 58 [strP l] (.tup [qP (if isRat l then ratOf l else 0), .val (.bool (isRat l))]) := by
  have hlen := splitM_len l
  have hs := splitM_inv l
  have hR : isRat l = (isInt (splitM l).1 && isNat (splitM l).2.1 && (!(splitM l).2.2 || (decide (1 < natOf (splitM l).2.1) && decide (intOf (splitM l).1 ≠ 0) && decide (Nat.gcd (intOf (splitM l).1).natAbs (natOf (splitM l).2.1) = 1)))) := rfl
  have hq : isRat l = true → qP (ratOf l) = .agg [.val (.bool (decide (intOf (splitM l).1 < 0))), nP (intOf (splitM l).1).natAbs, nP (natOf (splitM l).2.1)] := by
    intro h
    have := ratOf_spec h
    unfold qP
    rw [this.1, this.2]
  have hT := fun h => Sz.text (l := l) h
  have hT2 := fun h => ratOf_spec (l := l) h
  refine meets_of_vc (Y := {}) (N := 60) (rs := [.cell 2 66, .tmp 3]) mix tk hG Tryz.func58 rfl (by kernel_rfl) rfl rfl (by simp) (by kernel_rfl) ?_
  simp (maxSteps := 10000000) only [↓sx, sx, ↓ty, ↓reduceIte, Nat.reduceEqDiff, pc]
  refine CallT.mk (split_n hG l (by omega)) ?_
  simp (maxSteps := 10000000) only [↓sx, sx, ↓reduceIte, Nat.reduceEqDiff, pc]
  generalize splitM l = q at *
  obtain ⟨p, d, s⟩ := q
  dsimp only at *
  refine CallT.mk (valid2_n hG p (by omega)) ?_
  simp (maxSteps := 10000000) only [↓sx, sx, ↓reduceIte, Nat.reduceEqDiff, Nat.reduceLT]
  cases hp : isInt p with
  | false =>
    rw [hp] at hR
    simp only [Bool.false_and] at hR
    simp (maxSteps := 10000000) only [↓sx, sx]
    refine CallT.mk (int3_n hG 0 (by omega) (by omega)) ?_
    simp (maxSteps := 10000000) only [↓sx, sx, ↓ty, ↓reduceIte, Nat.reduceEqDiff, Nat.reduceAdd, pc, ls, bs, and_self, Nat.reduceAdd, Nat.le_refl]
    rw [hR]
    rfl
  | true =>
    simp (maxSteps := 10000000) only [↓sx, sx]
    refine CallT.mk (valid1_n hG d (by omega)) ?_
    simp (maxSteps := 10000000) only [↓sx, sx, ↓reduceIte, Nat.reduceEqDiff, Nat.reduceLT]
    cases hd : isNat d with
    | false =>
      rw [hp, hd] at hR
      simp only [Bool.false_and, Bool.and_false] at hR
      simp (maxSteps := 10000000) only [↓sx, sx]
      refine CallT.mk (int3_n hG 0 (by omega) (by omega)) ?_
      simp (maxSteps := 10000000) only [↓sx, sx, ↓ty, ↓reduceIte, Nat.reduceEqDiff, Nat.reduceAdd, pc, ls, bs, and_self, Nat.reduceAdd, Nat.le_refl]
      rw [hR]
      rfl
    | true =>
      rw [hp, hd] at hR
      simp (maxSteps := 10000000) only [↓sx, sx]
      have lp := Lw_intOf hp
      have ld := Lw_natOf (isNat_iff.1 hd).2.1
      have lp2 : p.length < 400000 := by omega
      have ld2 : d.length < 400000 := by omega
      refine CallT.mk (read2_n hG p hp (by omega)) ?_
      simp (maxSteps := 10000000) only [↓sx, sx, ↓reduceIte, Nat.reduceEqDiff]
      refine CallT.mk (from1_n hG d (by omega) (isNat_iff.1 hd).2.1) ?_
      simp (maxSteps := 10000000) only [↓sx, sx, ↓ty, ↓reduceIte, Nat.reduceEqDiff, Nat.reduceAdd, Nat.reduceLeDiff, pc, ls, bs, and_self, Nat.reduceAdd, Nat.le_refl]
      cases s with
      | false =>
        simp only [Bool.not_false, Bool.true_or, Bool.and_true] at hR
        simp (maxSteps := 10000000) only [↓sx, sx]
        rw [if_pos hR, (hT2 hR).1, (hT2 hR).2, hR]
      | true =>
        simp only [Bool.not_true, Bool.true_and, Bool.false_or] at hR
        simp (maxSteps := 10000000) only [↓sx, sx]
        refine CallT.mk (small_n hG 1 (by omega)) ?_
        simp (maxSteps := 10000000) only [↓sx, sx, ↓ty, ↓reduceIte, Nat.reduceEqDiff, Nat.reduceAdd, ne_eq, not_false_eq_true, pc, ls, Nat.reduceAdd]
        refine CallT.mk (cmp_n hG (natOf d) 1 (by omega) (by rw [Lw_one]; omega)) ?_
        have bad : isRat l = false → Meets Tryz.prog G 110 [.val (.int .i64 0)] (qP (if isRat l then ratOf l else 0)) := by
          intro h
          rw [h]
          exact int3_n hG 0 (by omega) (by omega)
        by_cases g1 : 1 < natOf d
        · rw [show cmpI (natOf d : Int) (1 : Nat) = 1 by unfold cmpI; rw [if_neg (by omega), if_pos (by omega)]]
          simp only [g1, decide_true, Bool.true_and] at hR
          simp (maxSteps := 10000000) only [↓sx, sx, ↓ty, ↓reduceIte, Nat.reduceEqDiff, Nat.reduceAdd, Nat.reduceLeDiff, Nat.reduceLT, ne_eq, not_false_eq_true, pc, ls, Nat.reduceAdd]
          refine CallT.mk (t := ⟨⟩) (signum_n hG (Gb.intOf p)) ?_
          by_cases g2 : Gb.intOf p = 0
          · have hR : isRat l = false := by rw [hR, g2]; simp
            rw [g2]
            simp (maxSteps := 10000000) only [↓sx, sx, ↓reduceIte, Nat.reduceEqDiff, Nat.reduceLT, Int.reduceBNe, pc, Int.sign_zero]
            refine CallT.mk (t := ⟨⟩) (bad hR) ?_
            simp (maxSteps := 10000000) only [↓sx, sx, ↓ty, ↓reduceIte, Nat.reduceEqDiff, Nat.reduceAdd, pc, ls, bs, and_self, Nat.reduceAdd, Nat.le_refl]
            rw [hR]
          · simp (maxSteps := 10000000) only [↓sx, sx, ↓ty, ↓reduceIte, Nat.reduceEqDiff, Nat.reduceAdd, Nat.reduceLT, ne_eq, not_false_eq_true, pc, ls, Nat.reduceAdd]
            have g3 : (Gb.intOf p).sign ≠ 0 := by simpa using g2
            refine vcIf_b (fun h => ?_) (fun h => by simp [g3] at h)
            have hgl : Lw ((Gb.intOf p).natAbs.gcd (natOf d)) ≤ Lw (natOf d) := Lw_mono (Nat.gcd_le_right _ (by omega))
            refine CallT.mk (t := ⟨⟩) (common_n hG (Gb.intOf p).natAbs (natOf d) (by omega) (by omega)) ?_
            simp (maxSteps := 10000000) only [↓sx, sx, ↓reduceIte, Nat.reduceEqDiff, Nat.reduceLT, pc]
            refine CallT.mk (t := ⟨⟩) (cmp_n hG _ 1 (by omega) (by rw [Lw_one]; omega)) ?_
            simp (maxSteps := 10000000) only [↓sx, sx, ↓ty, ↓reduceIte, Nat.reduceEqDiff, Nat.reduceAdd, Nat.reduceLT, pc, ls, bs, and_self, Nat.reduceAdd, Nat.le_refl, cmp_den]
            simp only [g2, ne_eq, not_false_eq_true, decide_true, Bool.true_and] at hR
            refine vcIf_b (fun h => ?_) (fun h => ?_)
            · rw [Bool.not_eq_true'] at h
              rw [h] at hR
              refine CallT.mk (t := ⟨⟩) (bad hR) ?_
              simp (maxSteps := 10000000) only [↓sx, sx, ↓ty, ↓reduceIte, Nat.reduceEqDiff, Nat.reduceAdd, pc, ls, bs, and_self, Nat.reduceAdd, Nat.le_refl]
              rw [hR]
            · rw [Bool.not_eq_false'] at h
              rw [h] at hR
              rw [if_pos hR, (hT2 hR).1, (hT2 hR).2, hR]
        · have hR : isRat l = false := by rw [hR]; simp; omega
          have h1 : (cmpI (natOf d : Int) (1 : Nat) > 0) ↔ False := by
            unfold cmpI
            by_cases h : (natOf d : Int) < (1 : Nat)
            · rw [if_pos h]; simp
            · rw [if_neg h, if_neg (by omega)]; simp
          generalize cmpI (natOf d : Int) (1 : Nat) = c at h1
          simp (maxSteps := 10000000) only [↓sx, sx, ↓reduceIte, Nat.reduceEqDiff, Nat.reduceLT, pc, h1, decide_false]
          refine CallT.mk (t := ⟨⟩) (bad hR) ?_
          simp (maxSteps := 10000000) only [↓sx, sx, ↓ty, ↓reduceIte, Nat.reduceEqDiff, Nat.reduceAdd, pc, ls, bs, and_self, Nat.reduceAdd, Nat.le_refl]
          rw [hR]
set_option maxRecDepth 100000 in
set_option maxHeartbeats 4000000 in
theorem valid3_n (l : List UInt8) (hl : l.length < 300000) : Meets Tryz.prog G 18 [strP l] (.val (.bool (isRat l))) := by
  refine meets_of_vc (Y := {}) (N := 11) (rs := [.tmp 2]) mix tk hG Tryz.func18 rfl (by kernel_rfl) rfl rfl (by simp) (by kernel_rfl) ?_
  simp (maxSteps := 10000000) only [↓sx, sx, ↓ty, ↓reduceIte, Nat.reduceEqDiff, strP_c]
  refine CallT.mk (from3_n hG l hl) ?_
  simp (maxSteps := 10000000) only [↓sx, sx, ↓ty, ↓reduceIte, Nat.reduceEqDiff, Nat.reduceAdd, and_self, Bool.and_self, Nat.reduceAdd, Nat.le_refl, qP_c]
end Go.Proofs.YtfbmphbmidlijaaGreatDoor.S
namespace Gb
open Go Go.RowKit Go.Sx
def frP (x : Rat) : PV := .agg [siP x.num, dP x.den]
theorem pd : ∀ x : Rat, frP x = .agg [.val (.string ⟨(iD x.num).toArray⟩), .val (.string ⟨(Lib.decDigits x.den).toArray⟩)] := fun _ => rfl
theorem iD_nat (n : Nat) : iD (n : Int) = Lib.decDigits n := by unfold iD; rw [if_neg (by omega), Int.natAbs_natCast]
theorem siP_nat (n : Nat) : siP (n : Int) = dP n := by unfold siP dP; rw [iD_nat]
theorem dec_0 : Lib.decDigits 0 = [48] := by rw [Lib.decDigits]; rfl
theorem dec_1 : Lib.decDigits 1 = [49] := by rw [Lib.decDigits]; rfl
theorem dec_eq0 (n : Nat) : (Lib.decDigits n == [48]) = decide (n = 0) := by
  by_cases h : n = 0
  · rw [h, dec_0]; rfl
  · have : Lib.decDigits n ≠ [48] := dec_pos_ne h
    simp [this, h]
theorem dec_eq1 (n : Nat) : (Lib.decDigits n == [49]) = decide (n = 1) := by
  by_cases h : n = 1
  · rw [h, dec_1]; rfl
  · have : Lib.decDigits n ≠ [49] := by
      intro h0
      have := natOf_dec n
      rw [h0] at this
      exact h this.symm
    simp [this, h]
theorem iD_eq0 (z : Int) : (iD z == [48]) = decide (z = 0) := by
  unfold iD
  by_cases h : z < 0
  · rw [if_pos h]
    have h1 : ¬ z = 0 := by omega
    have h2 : (45 : UInt8) ≠ 48 := by decide
    simp [h1]
  · rw [if_neg h, dec_eq0]
    congr 1
    simp
theorem idx_splitM : ∀ l, (Lib.indexByte l 47 = -1 ∧ splitM l = (l, [49], false)) ∨ ∃ n : Nat, n < l.length ∧ Lib.indexByte l 47 = n ∧ splitM l = (l.take n, l.drop (n + 1), true)
  | [] => .inl ⟨rfl, rfl⟩
  | c :: r => by
    rw [splitM_cons, Lib.indexByte]
    by_cases h : c = 47
    · subst h
      exact .inr ⟨0, by simp, rfl, rfl⟩
    · rw [if_neg h, if_neg (by simpa using h)]
      rcases idx_splitM r with ⟨h1, h2⟩ | ⟨n, h0, h1, h2⟩
      · exact .inl ⟨by rw [h1]; rfl, by rw [h2]⟩
      · refine .inr ⟨n + 1, by simp; omega, ?_, ?_⟩
        · rw [h1, if_neg (by rw [beq_iff_eq]; omega)]; omega
        · rw [h2]; rfl
def cutW (l : List UInt8) : List UInt8 × List UInt8 × Bool := if (splitM l).2.2 then splitM l else (l, [], false)
theorem parseM64 (l : List UInt8) : ∀ (acc : Nat), (∀ c ∈ l, isD c = true) → acc * 10 ^ l.length + natOf l < 18446744073709551616 → Lib.parseUintM 18446744073709551615 acc l = .ok (acc * 10 ^ l.length + natOf l) := by
  induction l with
  | nil => intro acc _ _; simp [Lib.parseUintM, natOf]
  | cons c r ih =>
    intro acc hd h
    have hc := isD_iff.1 (hd c (List.mem_cons_self ..))
    have e : natOf (c :: r) = (c.toNat - 48) * 10 ^ r.length + natOf r := by
      rw [show c :: r = [c] ++ r from rfl, natOf_append]
      congr 2
      simp [natOf]
    have hp : 0 < 10 ^ r.length := Nat.pow_pos (by omega)
    have e2 : acc * 10 ^ (r.length + 1) + ((c.toNat - 48) * 10 ^ r.length + natOf r) = (acc * 10 + (c.toNat - 48)) * 10 ^ r.length + natOf r := by
      rw [Nat.pow_succ]; grind
    rw [e, List.length_cons, e2] at h ⊢
    have hb : acc * 10 + (c.toNat - 48) < 18446744073709551616 := by
      have : (acc * 10 + (c.toNat - 48)) * 1 ≤ (acc * 10 + (c.toNat - 48)) * 10 ^ r.length := Nat.mul_le_mul_left _ hp
      omega
    rw [Lib.parseUintM, if_pos ⟨hc.1, hc.2⟩, if_neg (by omega), if_neg (by omega)]
    exact ih _ (fun x hx => hd x (List.mem_cons_of_mem _ hx)) h
theorem parse64 (n : Nat) (h : n < 1000000000) : Lib.parseUintB 64 (Lib.decDigits n) = .ok n := by
  have hd := (isNat_iff.1 (isNat_dec n))
  have h0 : Lib.decDigits n ≠ [] := by intro h0; have := isNat_dec n; rw [h0] at this; simp [isNat] at this
  have := parseM64 (Lib.decDigits n) 0 hd.2.1 (by rw [natOf_dec]; omega)
  rw [Nat.zero_mul, Nat.zero_add, natOf_dec] at this
  rw [Lib.parseUintB, if_neg h0]
  exact this
theorem parseI (z : Int) (h1 : -1000000000 < z) (h2 : z < 1000000000) : Lib.parseIntB 64 (iD z) = .ok z := by
  unfold iD
  by_cases h : z < 0
  · rw [if_pos h]
    simp only [Lib.parseIntB]
    rw [if_pos (.inr rfl), parse64 _ (by omega)]
    simp
    rw [if_neg (by omega)]
    congr 1
    omega
  · rw [if_neg h]
    have hn := parse64 z.natAbs (by omega)
    have hd := (isNat_iff.1 (isNat_dec z.natAbs)).2.1
    cases hl : Lib.decDigits z.natAbs with
    | nil => rw [hl] at hn; simp [Lib.parseUintB] at hn
    | cons c r =>
      rw [hl] at hn hd
      have hc := isD_iff.1 (hd c (List.mem_cons_self ..))
      simp only [Lib.parseIntB]
      rw [if_neg (by omega), hn]
      have : ¬ c.toNat = 45 := by omega
      simp [this]
      rw [if_neg (by omega)]
      congr 1
      omega
theorem dec_short {n : Nat} (h : (Lib.decDigits n).length ≤ 9) : n < 1000000000 := by
  have := natOf_lt _ (isNat_iff.1 (isNat_dec n)).2.1
  rw [natOf_dec] at this
  have h2 := Nat.pow_le_pow_right (show 0 < 10 by omega) h
  omega
theorem iD_short {z : Int} (h : (iD z).length ≤ 9) : -1000000000 < z ∧ z < 1000000000 := by
  have : (Lib.decDigits z.natAbs).length ≤ 9 := by
    unfold iD at h
    split at h
    · simp at h; omega
    · exact h
  have := dec_short this
  omega
theorem itoa_iD (z : Int) : Lib.itoa z = iD z := by
  unfold Lib.itoa iD
  by_cases h : z < 0
  · rw [if_pos h, if_pos h]
  · rw [if_neg h, if_neg h]
    congr 1
    omega
def shortQ (x : Rat) : Bool := decide ((iD x.num).length ≤ 9) && decide ((Lib.decDigits x.den).length ≤ 9)
theorem shortQ_spec {x : Rat} (h : shortQ x = true) : -1000000000 < x.num ∧ x.num < 1000000000 ∧ x.den < 1000000000 := by
  unfold shortQ at h
  simp only [Bool.and_eq_true, decide_eq_true_eq] at h
  have := iD_short h.1
  have := dec_short h.2
  omega
theorem tmod_natAbs (a b : Int) : (a.tmod b).natAbs = a.natAbs % b.natAbs := Int.natAbs_tmod a b
theorem tdiv_dvd {p : Int} {g : Nat} (h : g ∣ p.natAbs) : p.tdiv g = p / g := by
  have : (g : Int) ∣ p := Int.ofNat_dvd_left.2 h
  exact Int.tdiv_eq_ediv_of_dvd this
end Gb
namespace Gb
open Go Go.RowKit Go.Sx
theorem rT_len {k : Nat} {x : Rat} (h : Sz k x) : (rT x).length ≤ 18 * k + 5 := by
  have l1 := iD_len x.num
  have l2 := dec_len x.den
  have := h.1; have := h.2
  unfold rT
  split
  · omega
  · simp; omega
theorem rT_of {l : List UInt8} (h : isRat l = true) : ∃ x, l = rT x ∧ Sz (l.length / 9 + 1) x := ⟨ratOf l, (rT_ratOf h).symm, Sz.text h⟩
def ivP (a b : List UInt8) : PV := .agg [strP a, strP b]
def ivQ (p : Rat × Rat) : PV := .agg [rtP p.1, rtP p.2]
theorem pi : (∀ a b : List UInt8, ivP a b = .agg [.val (.string ⟨a.toArray⟩), .val (.string ⟨b.toArray⟩)]) ∧
  (∀ p : Rat × Rat, ivQ p = .agg [.val (.string ⟨(rT p.1).toArray⟩), .val (.string ⟨(rT p.2).toArray⟩)]) := ⟨fun _ _ => rfl, fun _ => rfl⟩
theorem lt_sign (x y : Rat) : (x - y).num.sign < 0 ↔ x < y := by
  rw [sub_sign_num, Rat.lt_iff]
  generalize x.num * (y.den : Int) = a
  generalize y.num * (x.den : Int) = b
  rcases Int.lt_trichotomy (a - b) 0 with h | h | h
  · rw [Int.sign_eq_neg_one_of_neg h]; omega
  · rw [h]; simp; omega
  · rw [Int.sign_eq_one_of_pos h]; omega
theorem le_sign (x y : Rat) : (x - y).num.sign ≤ 0 ↔ x ≤ y := by
  rw [sub_sign_num, Rat.le_iff]
  generalize x.num * (y.den : Int) = a
  generalize y.num * (x.den : Int) = b
  rcases Int.lt_trichotomy (a - b) 0 with h | h | h
  · rw [Int.sign_eq_neg_one_of_neg h]; omega
  · rw [h]; simp; omega
  · rw [Int.sign_eq_one_of_pos h]; omega
theorem ge_sign (x y : Rat) : 0 ≤ (x - y).num.sign ↔ y ≤ x := by
  rw [sub_sign_num, Rat.le_iff]
  generalize x.num * (y.den : Int) = a
  generalize y.num * (x.den : Int) = b
  rcases Int.lt_trichotomy (a - b) 0 with h | h | h
  · rw [Int.sign_eq_neg_one_of_neg h]; omega
  · rw [h]; simp; omega
  · rw [Int.sign_eq_one_of_pos h]; omega
end Gb
namespace Gb
open Go Go.RowKit Go.Sx
def cutM : List UInt8 → List UInt8 × Bool
  | [] => ([], false)
  | c :: r => if c = 45 then (r, true) else (c :: r, false)
theorem cutM_cons (c : UInt8) (r : List UInt8) : cutM (c :: r) = if c = 45 then (r, true) else (c :: r, false) := rfl
def nmP (z : Int) : PV := .agg [.val (.bool (decide (z < 0))), dP z.natAbs]
theorem nmP_c (z : Int) : nmP z = .agg [.val (.bool (decide (z < 0))), .val (.string ⟨(Lib.decDigits z.natAbs).toArray⟩)] := rfl
theorem isInt_cutM (l : List UInt8) : isInt l = (isNat (cutM l).1 && !((cutM l).2 == true && (cutM l).1 == [48])) := by
  cases l with
  | nil => rfl
  | cons c r =>
    rw [isInt_cons, cutM_cons]
    by_cases hc : c = 45
    · rw [if_pos hc, if_pos hc]; simp; rfl
    · rw [if_neg hc, if_neg hc]; simp
theorem cutM_int {l : List UInt8} (h : isInt l = true) : (PV.agg [.val (.bool (cutM l).2), strP (cutM l).1]) = nmP (intOf l) := by
  cases l with
  | nil => simp [isInt] at h
  | cons c r =>
    rw [isInt_cons] at h
    rw [cutM_cons, intOf_cons]
    by_cases hc : c = 45
    · rw [if_pos hc] at h ⊢
      rw [if_pos hc]
      simp only [Bool.and_eq_true, bne_iff_ne] at h
      have h0 : natOf r ≠ 0 := fun h0 => h.2 (natOf_zero h.1 h0)
      unfold nmP dP
      rw [Int.natAbs_neg, Int.natAbs_natCast, dec_natOf h.1]
      have : decide (-(natOf r : Int) < 0) = true := by simp; omega
      rw [this]
    · rw [if_neg hc] at h ⊢
      rw [if_neg hc]
      unfold nmP dP
      rw [Int.natAbs_natCast, dec_natOf h]
      have : decide ((natOf (c :: r) : Int) < 0) = false := by simp
      rw [this]
theorem dec_is0 (n : Nat) : (Lib.decDigits n == [48]) = decide (n = 0) := by
  by_cases h : n = 0
  · subst h; rw [Lib.decDigits]; rfl
  · have := dec_pos_ne h
    simp [this, h]
end Gb
namespace Go.Proofs.YtfbmphbmidlijaaGreatDoor.S
open Go Go.Sx Go.RowKit Gb
set_option maxRecDepth 100000 in
theorem hasp_n (l m : List UInt8) : Meets Tryz.prog Gd 151 [strP l, strP m] (.val (.bool (decide (m.length ≤ l.length) && l.take m.length == m))) := by
  refine meets_of_vc (Y := {}) (N := 18) (rs := [.tmp 4]) mix tk gd Tryz.func151 rfl (by kernel_rfl) rfl rfl (by simp) (by kernel_rfl) ?_
  simp (maxSteps := 10000000) only [↓sx, sx, ↓ty, ↓reduceIte, Nat.reduceEqDiff, Nat.reduceLT, strP_c]
  refine vcIf_dec (fun h => ?_) (fun h => ?_)
  · refine ⟨by omega, ?_⟩
    have : m.length ≤ l.length := by omega
    simp [this]
  · have : ¬ m.length ≤ l.length := by omega
    simp [this]
set_option maxRecDepth 100000 in
theorem cutp_n (l m : List UInt8) : Meets Tryz.prog Gd 103 [strP l, strP m] (if decide (m.length ≤ l.length) && l.take m.length == m then .tup [strP (l.drop m.length), .val (.bool true)] else .tup [strP l, .val (.bool false)]) := by
  refine meets_of_vc (Y := {}) (N := 15) (rs := [.tmp 4, .tmp 5]) mix tk gd Tryz.func103 rfl (by kernel_rfl) rfl rfl (by simp) (by kernel_rfl) ?_
  simp (maxSteps := 10000000) only [↓sx, sx, ↓ty, ↓reduceIte, Nat.reduceEqDiff, strP_c]
  refine CallT.mk (hasp_n l m) ?_
  simp (maxSteps := 10000000) only [↓sx, sx, ↓ty, ↓reduceIte, Nat.reduceEqDiff]
  refine vcIf_b (fun h => ?_) (fun h => ?_)
  · rw [Bool.not_eq_true'] at h
    rw [if_neg (by rw [h]; simp)]
  · rw [Bool.not_eq_false'] at h
    rw [if_pos h]
    simp only [Bool.and_eq_true, decide_eq_true_eq] at h
    refine ⟨by omega, ?_⟩
    simp [List.take_of_length_le]
set_option maxRecDepth 100000 in
theorem cutpp_n (l m : List UInt8) : Meets Tryz.prog Gd 46 [strP l, strP m] (if decide (m.length ≤ l.length) && l.take m.length == m then .tup [strP (l.drop m.length), .val (.bool true)] else .tup [strP l, .val (.bool false)]) := by
  refine meets_of_vc (Y := {}) (N := 11) (rs := [.tmp 4, .tmp 5]) mix tk gd Tryz.func46 rfl (by kernel_rfl) rfl rfl (by simp) (by kernel_rfl) ?_
  simp (maxSteps := 10000000) only [↓sx, sx, ↓reduceIte, Nat.reduceEqDiff, strP_c]
  refine CallT.mk (cutp_n l m) ?_
  by_cases h : (decide (m.length ≤ l.length) && l.take m.length == m) = true
  · rw [if_pos h]
    simp (maxSteps := 10000000) only [↓sx, sx, strP_c]
    rw [if_pos h]
  · rw [if_neg h]
    simp (maxSteps := 10000000) only [↓sx, sx, strP_c]
    rw [if_neg h]
theorem cutm_n (l : List UInt8) : Meets Tryz.prog Gd 46 [strP l, strP [45]] (.tup [strP (cutM l).1, .val (.bool (cutM l).2)]) := by
  have := cutpp_n l [45]
  cases l with
  | nil => exact this
  | cons c r =>
    rw [cutM_cons]
    by_cases hc : c = 45
    · subst hc
      rw [if_pos rfl]
      rw [if_pos (by simp)] at this
      exact this
    · rw [if_neg hc]
      rw [if_neg (by simp [hc])] at this
      exact this
set_option maxRecDepth 100000 in
theorem iread_n (l : List UInt8) (hl : l.length < 10000000) : Meets Tryz.prog Gd 102 [strP l] (.tup [.agg [.val (.bool (cutM l).2), strP (cutM l).1], .val (.bool (isInt l))]) := by
  refine meets_of_vc (Y := { ex := [3] }) (N := 23) (rs := [.cell 2 101, .tmp 3]) mix tk gd Tryz.func102 rfl (by kernel_rfl) rfl rfl (by simp) (by kernel_rfl) ?_
  simp (maxSteps := 10000000) only [↓sx, sx, ↓ty, ↓reduceIte, Nat.reduceEqDiff, Nat.reduceAdd, Nat.reduceLeDiff, List.getElem?_cons_zero, List.getElem?_cons_succ, and_self, Bool.and_self, Nat.reduceAdd, Nat.le_refl, strP_c]
  refine CallT.mk (cutm_n l) ?_
  simp (maxSteps := 10000000) only [↓sx, sx, ↓ty, ↓reduceIte, Nat.reduceEqDiff, Nat.reduceAdd, Nat.reduceLeDiff, List.getElem?_cons_zero, List.getElem?_cons_succ, and_self, Bool.and_self, Nat.reduceAdd, Nat.le_refl, strP_c]
  refine ⟨by kernel_rfl, ?_⟩
  have hlen : (cutM l).1.length < 100000000 := by
    cases l with
    | nil => simp [cutM]
    | cons c r => rw [cutM_cons]; simp at hl; split <;> simp <;> omega
  refine CallT.mk (nvalid_n (cutM l).1 hlen) ?_
  simp (maxSteps := 10000000) only [↓sx, sx, ↓ty, ↓reduceIte, Nat.reduceEqDiff, Nat.reduceAdd, Nat.reduceLT, and_self, Bool.and_self, Nat.reduceAdd, Nat.le_refl, ag]
  refine vcIf_b (fun h => ?_) (fun h => ?_)
  · rw [isInt_cutM, h, Bool.true_and]
  · rw [isInt_cutM, h, Bool.false_and]
set_option maxRecDepth 100000 in
theorem zero_n : Meets Tryz.prog Gd 144 [] (nmP 0) := by
  refine meets_of_vc (Y := {}) (N := 2) (rs := [.cell 0 101]) mix tk gd Tryz.func144 rfl (by kernel_rfl) rfl rfl (by simp) (by kernel_rfl) ?_
  simp (maxSteps := 10000000) only [↓sx, sx, ↓ty, ↓reduceIte, Nat.reduceEqDiff, Nat.reduceAdd, Nat.reduceLeDiff, List.getElem?_cons_zero, List.getElem?_cons_succ, and_self, Bool.and_self, Nat.reduceAdd, Nat.le_refl]
  rw [nmP_c, show (0 : Int).natAbs = 0 from rfl, Lib.decDigits]
  rfl
set_option maxRecDepth 100000 in
theorem with_n (b : Bool) (n : Nat) (z : Int) (hz : zmk b n = z) : Meets Tryz.prog Gd 145 [.val (.bool b), dP n] (nmP z) := by
  subst hz
  refine meets_of_vc (Y := {}) (N := 12) (rs := [.cell 4 101]) mix tk gd Tryz.func145 rfl (by kernel_rfl) rfl rfl (by simp) (by kernel_rfl) ?_
  simp (maxSteps := 10000000) only [↓sx, sx, ↓ty, ↓reduceIte, Nat.reduceEqDiff, Nat.reduceAdd, Nat.reduceLeDiff, Nat.reduceLT, List.getElem?_cons_zero, List.getElem?_cons_succ, and_self, Bool.and_self, Nat.reduceAdd, Nat.le_refl, dP_c, nmP_c, zmk_abs]
  refine vcIf_b (fun h => ?_) (fun h => ?_)
  · subst h
    have : (!(Lib.decDigits n == [48])) = decide (zmk true n < 0) := by
      rw [dec_is0]
      unfold zmk
      by_cases h0 : n = 0
      · subst h0; rfl
      · simp [h0]; omega
    rw [← this]
  · subst h
    have : decide (zmk false n < 0) = false := by unfold zmk; simp
    rw [this]
end Go.Proofs.YtfbmphbmidlijaaGreatDoor.S
namespace Gb
open Go
theorem ne0_iff (z : Int) : (decide (z < 0) == false && Lib.decDigits z.natAbs == [48]) = decide (z = 0) := by
  rw [dec_is0]
  by_cases h : z = 0
  · subst h; rfl
  · have : z.natAbs ≠ 0 := by omega
    simp [h]
end Gb
namespace Go.Proofs.YtfbmphbmidlijaaGreatDoor.S
open Go Go.Sx Go.RowKit Gb
set_option maxRecDepth 100000 in
theorem itext_n (z : Int) (hz : Lw z.natAbs < 1000000) : Meets Tryz.prog Gd 96 [nmP z] (siP z) := by
  refine meets_of_vc (Y := {}) (N := 10) (rs := [.tmp 2]) mix tk gd Tryz.func96 rfl (by kernel_rfl) rfl rfl (by simp) (by kernel_rfl) ?_
  simp (maxSteps := 10000000) only [↓sx, sx, ↓ty, ↓reduceIte, Nat.reduceEqDiff, Nat.reduceAdd, ne_eq, not_false_eq_true, List.getElem?_cons_zero, List.getElem?_cons_succ, Nat.reduceAdd, nmP_c, siP_c]
  have := dec_len z.natAbs
  refine vcIf_dec (fun h => ?_) (fun h => ?_)
  · refine ⟨by omega, ?_⟩
    unfold iD
    rw [if_pos h]
  · unfold iD
    rw [if_neg h]
set_option maxRecDepth 100000 in
theorem iopp_n (z : Int) : Meets Tryz.prog Gd 104 [nmP z] (nmP (-z)) := by
  refine meets_of_vc (Y := {}) (N := 9) (rs := [.cell 2 101]) mix tk gd Tryz.func104 rfl (by kernel_rfl) rfl rfl (by simp) (by kernel_rfl) ?_
  simp (maxSteps := 10000000) only [↓sx, sx, ↓ty, ↓reduceIte, Nat.reduceEqDiff, Nat.reduceAdd, ne_eq, not_false_eq_true, List.getElem?_cons_zero, List.getElem?_cons_succ, Nat.reduceAdd, nmP_c]
  refine CallT.mk (with_n (!decide (z < 0)) z.natAbs (-z) ?_) ?_
  · by_cases h : z < 0
    · simp [zmk, h]; omega
    · simp [zmk, h]; omega
  · simp (maxSteps := 10000000) only [↓sx, sx, ↓ty, ↓reduceIte, Nat.reduceEqDiff, Nat.reduceAdd, and_self, Bool.and_self, Nat.reduceAdd, Nat.le_refl, nmP_c]
set_option maxRecDepth 100000 in
theorem isign_n (z : Int) : Meets Tryz.prog Gd 114 [nmP z] (iP z.sign) := by
  refine meets_of_vc (Y := {}) (N := 10) (rs := [.tmp 2]) mix tk gd Tryz.func114 rfl (by kernel_rfl) rfl rfl (by simp) (by kernel_rfl) ?_
  simp (maxSteps := 10000000) only [↓sx, sx, ↓ty, ↓reduceIte, Nat.reduceEqDiff, Nat.reduceAdd, Nat.reduceAdd, Nat.le_refl, nmP_c, iP_c]
  refine CallT.mk zero_n ?_
  simp (maxSteps := 10000000) only [↓sx, sx, ↓ty, ↓reduceIte, Nat.reduceEqDiff, Nat.reduceAdd, ne_eq, not_false_eq_true, List.getElem?_cons_zero, Bool.and_self, Nat.reduceAdd, nmP_c, ag]
  have e0 : decide ((0 : Int) < 0) = false := rfl
  have e1 : Lib.decDigits (0 : Int).natAbs = [48] := by rw [show (0 : Int).natAbs = 0 from rfl, Lib.decDigits]; rfl
  rw [e0, e1, ne0_iff]
  refine vcIf_dec (fun h => ?_) (fun h => ?_)
  · subst h; rfl
  · refine vcIf_dec (fun h2 => ?_) (fun h2 => ?_)
    · rw [Int.sign_eq_neg_one_of_neg h2]
    · rw [Int.sign_eq_one_of_pos (by omega)]
set_option maxRecDepth 100000 in
theorem isum_n (x y : Int) (hx : Lw x.natAbs < 100000) (hy : Lw y.natAbs < 100000) (h : x < 0 ↔ y < 0) : Meets Tryz.prog Gd 157 [nmP x, nmP y] (nmP (x + y)) := by
  refine meets_of_vc (Y := {}) (N := 19) (rs := [.cell 4 101]) mix tk gd Tryz.func157 rfl (by kernel_rfl) rfl rfl (by simp) (by kernel_rfl) ?_
  simp (maxSteps := 10000000) only [↓sx, sx, ↓ty, ↓reduceIte, Nat.reduceEqDiff, Nat.reduceAdd, ne_eq, not_false_eq_true, List.getElem?_cons_zero, List.getElem?_cons_succ, Nat.reduceAdd, nmP_c]
  refine CallT.mk (nadd_n x.natAbs y.natAbs hx hy) ?_
  simp (maxSteps := 10000000) only [↓sx, sx, ↓reduceIte, Nat.reduceEqDiff, Nat.reduceAdd, ne_eq, not_false_eq_true, Nat.reduceAdd, dP_c]
  refine CallT.mk (with_n (decide (x < 0)) (x.natAbs + y.natAbs) (x + y) ?_) ?_
  · by_cases hx0 : x < 0
    · simp [zmk, hx0]; omega
    · simp [zmk, hx0]; omega
  · simp (maxSteps := 10000000) only [↓sx, sx, ↓ty, ↓reduceIte, Nat.reduceEqDiff, Nat.reduceAdd, and_self, Bool.and_self, Nat.reduceAdd, Nat.le_refl, nmP_c]
set_option maxRecDepth 100000 in
theorem idiff_n (x y : Int) (hx : Lw x.natAbs < 100000) (hy : Lw y.natAbs < 100000) (h : ¬ (x < 0 ↔ y < 0)) : Meets Tryz.prog Gd 158 [nmP x, nmP y] (nmP (x + y)) := by
  refine meets_of_vc (Y := {}) (N := 33) (rs := [.cell 4 101]) mix tk gd Tryz.func158 rfl (by kernel_rfl) rfl rfl (by simp) (by kernel_rfl) ?_
  simp (maxSteps := 10000000) only [↓sx, sx, ↓ty, ↓reduceIte, Nat.reduceEqDiff, Nat.reduceAdd, ne_eq, not_false_eq_true, List.getElem?_cons_zero, List.getElem?_cons_succ, Nat.reduceAdd, nmP_c]
  refine CallT.mk (ncompare_n x.natAbs y.natAbs hx hy) ?_
  simp (maxSteps := 10000000) only [↓sx, sx, ↓ty, ↓reduceIte, Nat.reduceEqDiff, Nat.reduceAdd, ne_eq, not_false_eq_true, and_self, Bool.and_self, Nat.reduceAdd, Nat.le_refl, iP_c]
  refine vcIf_dec (fun hc => ?_) (fun hc => ?_)
  · have hle : x.natAbs ≤ y.natAbs := by
      unfold cmpI at hc
      split at hc
      · omega
      · split at hc <;> omega
    refine CallT.mk (nsub_n y.natAbs x.natAbs hy hx hle) ?_
    simp (maxSteps := 10000000) only [↓sx, sx, ↓reduceIte, Nat.reduceEqDiff, Nat.reduceAdd, ne_eq, not_false_eq_true, Nat.reduceAdd, dP_c]
    refine CallT.mk (with_n (decide (y < 0)) (y.natAbs - x.natAbs) (x + y) ?_) ?_
    · by_cases hy0 : y < 0
      · simp [zmk, hy0]; omega
      · simp [zmk, hy0]; omega
    · simp (maxSteps := 10000000) only [↓sx, sx, ↓ty, ↓reduceIte, Nat.reduceEqDiff, Nat.reduceAdd, and_self, Bool.and_self, Nat.reduceAdd, Nat.le_refl, nmP_c]
  · have hle : y.natAbs ≤ x.natAbs := by
      unfold cmpI at hc
      split at hc
      · omega
      · omega
    refine CallT.mk (nsub_n x.natAbs y.natAbs hx hy hle) ?_
    simp (maxSteps := 10000000) only [↓sx, sx, ↓reduceIte, Nat.reduceEqDiff, Nat.reduceAdd, ne_eq, not_false_eq_true, Nat.reduceAdd, dP_c]
    refine CallT.mk (with_n (decide (x < 0)) (x.natAbs - y.natAbs) (x + y) ?_) ?_
    · by_cases hx0 : x < 0
      · simp [zmk, hx0]; omega
      · simp [zmk, hx0]; omega
    · simp (maxSteps := 10000000) only [↓sx, sx, ↓ty, ↓reduceIte, Nat.reduceEqDiff, Nat.reduceAdd, and_self, Bool.and_self, Nat.reduceAdd, Nat.le_refl, nmP_c]
set_option maxRecDepth 100000 in
theorem ibit_n (b : Bool) : Meets Tryz.prog Gd 159 [.val (.bool b)] (iP (if b then 1 else 0)) := by
  refine meets_of_vc (Y := {}) (N := 4) (rs := [.tmp 2]) mix tk gd Tryz.func159 rfl (by kernel_rfl) rfl rfl (by simp) (by kernel_rfl) ?_
  simp (maxSteps := 10000000) only [↓sx, sx, ↓reduceIte, Nat.reduceEqDiff, iP_c]
  refine vcIf_b (fun h => ?_) (fun h => ?_)
  · subst h; rfl
  · subst h; rfl
set_option maxRecDepth 100000 in
theorem iplus_n (x y : Int) (hx : Lw x.natAbs < 100000) (hy : Lw y.natAbs < 100000) : Meets Tryz.prog Gd 113 [nmP x, nmP y] (nmP (x + y)) := by
  refine meets_of_vc (Y := {}) (N := 21) (rs := [.cell 4 101]) mix tk gd Tryz.func113 rfl (by kernel_rfl) rfl rfl (by simp) (by kernel_rfl) ?_
  by_cases hx0 : x < 0 <;> by_cases hy0 : y < 0
  · simp (maxSteps := 10000000) only [↓sx, sx, ↓ty, ↓reduceIte, Nat.reduceEqDiff, Nat.reduceAdd, Nat.reduceLeDiff, Nat.reduceMul, ne_eq, not_false_eq_true, List.getElem?_cons_zero, and_self, Bool.and_self, Nat.reduceAdd, Nat.le_refl, nmP_c]
    refine CallT.mk (ibit_n _) ?_
    simp (maxSteps := 10000000) only [↓sx, sx, ↓reduceIte, Nat.reduceEqDiff, Nat.reduceAdd, ne_eq, not_false_eq_true, Nat.reduceAdd, iP_c]
    refine CallT.mk (ibit_n _) ?_
    simp (maxSteps := 10000000) only [↓sx, sx, ↓ty, ↓reduceIte, Nat.reduceEqDiff, Nat.reduceAdd, Nat.reduceLT, Nat.reduceMul, Nat.reduceAdd, Nat.le_refl, iP_c, hx0, hy0, decide_true, Int.reduceToNat]
    refine ⟨by omega, by omega, ?_⟩
    refine CallT.to (isum_n x y hx hy (by omega)) (by simp [nmP_c, hx0, hy0]) ?_
    simp (maxSteps := 10000000) only [↓sx, sx, ↓reduceIte, Nat.reduceEqDiff, Nat.reduceAdd, and_self, Bool.and_self, Nat.reduceAdd, Nat.le_refl, nmP_c]
  · simp (maxSteps := 10000000) only [↓sx, sx, ↓ty, ↓reduceIte, Nat.reduceEqDiff, Nat.reduceAdd, Nat.reduceLeDiff, Nat.reduceMul, ne_eq, not_false_eq_true, List.getElem?_cons_zero, and_self, Bool.and_self, Nat.reduceAdd, Nat.le_refl, nmP_c]
    refine CallT.mk (ibit_n _) ?_
    simp (maxSteps := 10000000) only [↓sx, sx, ↓reduceIte, Nat.reduceEqDiff, Nat.reduceAdd, ne_eq, not_false_eq_true, Nat.reduceAdd, iP_c]
    refine CallT.mk (ibit_n _) ?_
    simp (maxSteps := 10000000) only [↓sx, sx, ↓ty, ↓reduceIte, Nat.reduceEqDiff, Nat.reduceAdd, Nat.reduceLT, Nat.reduceMul, Nat.reduceAdd, Nat.le_refl, iP_c, hx0, hy0, decide_true, decide_false, Int.reduceToNat]
    refine ⟨by omega, by omega, ?_⟩
    refine CallT.to (idiff_n x y hx hy (by omega)) (by simp [nmP_c, hx0, hy0]) ?_
    simp (maxSteps := 10000000) only [↓sx, sx, ↓reduceIte, Nat.reduceEqDiff, Nat.reduceAdd, and_self, Bool.and_self, Nat.reduceAdd, Nat.le_refl, nmP_c]
  · simp (maxSteps := 10000000) only [↓sx, sx, ↓ty, ↓reduceIte, Nat.reduceEqDiff, Nat.reduceAdd, Nat.reduceLeDiff, Nat.reduceMul, ne_eq, not_false_eq_true, List.getElem?_cons_zero, and_self, Bool.and_self, Nat.reduceAdd, Nat.le_refl, nmP_c]
    refine CallT.mk (ibit_n _) ?_
    simp (maxSteps := 10000000) only [↓sx, sx, ↓reduceIte, Nat.reduceEqDiff, Nat.reduceAdd, ne_eq, not_false_eq_true, Nat.reduceAdd, iP_c]
    refine CallT.mk (ibit_n _) ?_
    simp (maxSteps := 10000000) only [↓sx, sx, ↓ty, ↓reduceIte, Nat.reduceEqDiff, Nat.reduceAdd, Nat.reduceLT, Nat.reduceMul, Nat.reduceAdd, Nat.le_refl, iP_c, hx0, hy0, decide_true, decide_false, Int.reduceToNat]
    refine ⟨by omega, by omega, ?_⟩
    refine CallT.to (idiff_n x y hx hy (by omega)) (by simp [nmP_c, hx0, hy0]) ?_
    simp (maxSteps := 10000000) only [↓sx, sx, ↓reduceIte, Nat.reduceEqDiff, Nat.reduceAdd, and_self, Bool.and_self, Nat.reduceAdd, Nat.le_refl, nmP_c]
  · simp (maxSteps := 10000000) only [↓sx, sx, ↓ty, ↓reduceIte, Nat.reduceEqDiff, Nat.reduceAdd, Nat.reduceLeDiff, Nat.reduceMul, ne_eq, not_false_eq_true, List.getElem?_cons_zero, and_self, Bool.and_self, Nat.reduceAdd, Nat.le_refl, nmP_c]
    refine CallT.mk (ibit_n _) ?_
    simp (maxSteps := 10000000) only [↓sx, sx, ↓reduceIte, Nat.reduceEqDiff, Nat.reduceAdd, ne_eq, not_false_eq_true, Nat.reduceAdd, iP_c]
    refine CallT.mk (ibit_n _) ?_
    simp (maxSteps := 10000000) only [↓sx, sx, ↓ty, ↓reduceIte, Nat.reduceEqDiff, Nat.reduceAdd, Nat.reduceLT, Nat.reduceMul, Nat.reduceAdd, Nat.le_refl, iP_c, hx0, hy0, decide_false]
    refine ⟨by omega, by omega, ?_⟩
    refine CallT.to (isum_n x y hx hy (by omega)) (by simp [nmP_c, hx0, hy0]) ?_
    simp (maxSteps := 10000000) only [↓sx, sx, ↓reduceIte, Nat.reduceEqDiff, Nat.reduceAdd, and_self, Bool.and_self, Nat.reduceAdd, Nat.le_refl, nmP_c]
set_option maxRecDepth 100000 in
theorem itimes_n (x y : Int) (hx : Lw x.natAbs < 100000) (hy : Lw y.natAbs < 100000) : Meets Tryz.prog Gd 95 [nmP x, nmP y] (nmP (x * y)) := by
  refine meets_of_vc (Y := {}) (N := 22) (rs := [.cell 4 101]) mix tk gd Tryz.func95 rfl (by kernel_rfl) rfl rfl (by simp) (by kernel_rfl) ?_
  simp (maxSteps := 10000000) only [↓sx, sx, ↓ty, ↓reduceIte, Nat.reduceEqDiff, Nat.reduceAdd, ne_eq, not_false_eq_true, List.getElem?_cons_zero, List.getElem?_cons_succ, Nat.reduceAdd, nmP_c]
  refine CallT.mk (nmul_n x.natAbs y.natAbs hx hy) ?_
  simp (maxSteps := 10000000) only [↓sx, sx, ↓ty, ↓reduceIte, Nat.reduceEqDiff, Nat.reduceAdd, ne_eq, not_false_eq_true, Nat.reduceAdd, dP_c]
  refine CallT.mk (with_n (!decide (x < 0) == decide (y < 0)) (x.natAbs * y.natAbs) (x * y) ?_) ?_
  · conv => rhs; rw [← zmk_self x, ← zmk_self y]
    unfold zmk
    by_cases h1 : x < 0 <;> by_cases h2 : y < 0 <;> simp [h1, h2, Int.natCast_mul, Int.neg_mul, Int.mul_neg]
  · simp (maxSteps := 10000000) only [↓sx, sx, ↓ty, ↓reduceIte, Nat.reduceEqDiff, Nat.reduceAdd, and_self, Bool.and_self, Nat.reduceAdd, Nat.le_refl, nmP_c]
set_option maxRecDepth 100000 in
theorem idivide_n (x y : Int) (hx : Lw x.natAbs < 100000) (hy : Lw y.natAbs < 100000) (h0 : y ≠ 0) : Meets Tryz.prog Gd 152 [nmP x, nmP y] (.tup [nmP (x / y), nmP (x % y)]) := by
  refine meets_of_vc (Y := {}) (N := 45) (rs := [.cell 4 101, .cell 5 101]) mix tk gd Tryz.func152 rfl (by kernel_rfl) rfl rfl (by simp) (by kernel_rfl) ?_
  simp (maxSteps := 10000000) only [↓sx, sx, ↓ty, ↓reduceIte, Nat.reduceEqDiff, Nat.reduceAdd, ne_eq, not_false_eq_true, List.getElem?_cons_zero, List.getElem?_cons_succ, Nat.reduceAdd, nmP_c]
  refine CallT.mk (ndivmod_n x.natAbs y.natAbs hx hy (by omega)) ?_
  simp (maxSteps := 10000000) only [↓sx, sx, ↓ty, ↓reduceIte, Nat.reduceEqDiff, Nat.reduceAdd, Nat.reduceLT, ne_eq, not_false_eq_true, Nat.reduceAdd, dP_c]
  have hm : 0 < y.natAbs := by omega
  have hn : (x.natAbs : Int) = y.natAbs * (x.natAbs / y.natAbs : Nat) + (x.natAbs % y.natAbs : Nat) := by
    have := Nat.div_add_mod x.natAbs y.natAbs
    rw [← Int.natCast_mul, ← Int.natCast_add, this]
  have hr : x.natAbs % y.natAbs < y.natAbs := Nat.mod_lt _ hm
  have hq : Lw (x.natAbs / y.natAbs) ≤ Lw x.natAbs := Lw_mono (Nat.div_le_self _ _)
  have hrL : Lw (x.natAbs % y.natAbs) ≤ Lw y.natAbs := Lw_mono (by omega)
  generalize x.natAbs / y.natAbs = q at *
  generalize x.natAbs % y.natAbs = r at *
  have key : ∀ (b : Bool) (q' r' : Nat), zmk b q' * y + (r' : Int) = x → r' < y.natAbs → zmk b q' = x / y ∧ (r' : Int) = x % y := by
    intro b q' r' h1 h2
    have := euclid_unique h0 h1 (by omega) (by omega)
    exact ⟨this.1.symm, this.2.symm⟩
  have hy' : y = zmk (decide (y < 0)) y.natAbs := (zmk_self y).symm
  have e49 : (⟨#[49]⟩ : ByteArray) = ⟨(Lib.decDigits 1).toArray⟩ := by rw [Lib.decDigits]; rfl
  have fin : ∀ (q' r' : Nat), zmk (!decide (x < 0) == decide (y < 0)) q' = x / y → (r' : Int) = x % y → Meets Tryz.prog Gd 145 [.val (.bool (!decide (x < 0) == decide (y < 0))), dP q'] (nmP (x / y)) ∧ Meets Tryz.prog Gd 145 [.val (.bool false), dP r'] (nmP (x % y)) := by
    intro q' r' h1 h2
    exact ⟨with_n _ _ _ h1, with_n _ _ _ (by rw [← h2]; simp [zmk])⟩
  have rest : x < 0 → r ≠ 0 → zmk (!decide (x < 0) == decide (y < 0)) (q + 1) = x / y ∧ ((y.natAbs - r : Nat) : Int) = x % y := by
    intro hx0 hr0
    refine key (!decide (x < 0) == decide (y < 0)) (q + 1) (y.natAbs - r) ?_ (by omega)
    have e1 : ((y.natAbs - r : Nat) : Int) = y.natAbs - r := by omega
    rw [e1]
    conv => lhs; rw [hy', zmk_abs]
    unfold zmk
    by_cases hy0 : y < 0 <;> simp [hx0, hy0] <;> grind
  have plain : (x < 0 → r = 0) → zmk (!decide (x < 0) == decide (y < 0)) q = x / y ∧ (r : Int) = x % y := by
    intro hx0
    refine key (!decide (x < 0) == decide (y < 0)) q r ?_ hr
    rw [hy']
    unfold zmk
    by_cases hx1 : x < 0
    · have := hx0 hx1
      subst this
      by_cases hy0 : y < 0 <;> simp [hx1, hy0] <;> grind
    · by_cases hy0 : y < 0 <;> simp [hx1, hy0] <;> grind
  refine vcIf_dec (fun hx0 => vcIf_b (fun hr0 => ?_) (fun hr0 => ?_)) (fun hx0 => ?_)
  · have hr0 : r ≠ 0 := by
      intro h
      subst h
      rw [dec_is0] at hr0
      simp at hr0
    obtain ⟨k1, k2⟩ := rest hx0 hr0
    obtain ⟨f1, f2⟩ := fin (q + 1) (y.natAbs - r) k1 k2
    refine CallT.to (nadd_n q 1 (by omega) (by rw [Lw_one]; omega)) (by rw [e49]; rfl) ?_
    simp (maxSteps := 10000000) only [↓sx, sx, ↓reduceIte, Nat.reduceEqDiff, Nat.reduceAdd, ne_eq, not_false_eq_true, Nat.reduceAdd, dP_c]
    refine CallT.mk (nsub_n y.natAbs r hy (by omega) (by omega)) ?_
    simp (maxSteps := 10000000) only [↓sx, sx, ↓ty, ↓reduceIte, Nat.reduceEqDiff, Nat.reduceAdd, ne_eq, not_false_eq_true, Nat.reduceAdd, dP_c]
    refine CallT.mk f1 ?_
    simp (maxSteps := 10000000) only [↓sx, sx, ↓reduceIte, Nat.reduceEqDiff, nmP_c]
    refine CallT.mk f2 ?_
    simp (maxSteps := 10000000) only [↓sx, sx, ↓ty, ↓reduceIte, Nat.reduceEqDiff, Nat.reduceAdd, and_self, Bool.and_self, Nat.reduceAdd, Nat.le_refl, nmP_c]
  · have hr0 : r = 0 := by
      rw [dec_is0] at hr0
      simpa using hr0
    obtain ⟨k1, k2⟩ := plain (fun _ => hr0)
    obtain ⟨f1, f2⟩ := fin q r k1 k2
    refine CallT.mk f1 ?_
    simp (maxSteps := 10000000) only [↓sx, sx, ↓reduceIte, Nat.reduceEqDiff, nmP_c]
    refine CallT.mk f2 ?_
    simp (maxSteps := 10000000) only [↓sx, sx, ↓ty, ↓reduceIte, Nat.reduceEqDiff, Nat.reduceAdd, and_self, Bool.and_self, Nat.reduceAdd, Nat.le_refl, nmP_c]
  · obtain ⟨k1, k2⟩ := plain (fun h => absurd h hx0)
    obtain ⟨f1, f2⟩ := fin q r k1 k2
    refine CallT.mk f1 ?_
    simp (maxSteps := 10000000) only [↓sx, sx, ↓reduceIte, Nat.reduceEqDiff, nmP_c]
    refine CallT.mk f2 ?_
    simp (maxSteps := 10000000) only [↓sx, sx, ↓ty, ↓reduceIte, Nat.reduceEqDiff, Nat.reduceAdd, and_self, Bool.and_self, Nat.reduceAdd, Nat.le_refl, nmP_c]
end Go.Proofs.YtfbmphbmidlijaaGreatDoor.S
namespace Gb
open Go Go.Sx
theorem e48 : (⟨#[48]⟩ : ByteArray) = ⟨(iD 0).toArray⟩ := by rw [show iD 0 = Lib.decDigits 0 from rfl, Lib.decDigits]; rfl
end Gb
namespace Go.Proofs.YtfbmphbmidlijaaGreatDoor.S
open Go Go.Sx Go.RowKit Gb
theorem iread_d (z : Int) (h : Lw z.natAbs < 100000) : Meets Tryz.prog Gd 102 [siP z] (.tup [nmP z, .val (.bool true)]) := by
  have := iread_n (iD z) (by have := iD_len z; omega)
  rw [isInt_iD, cutM_int (isInt_iD z), intOf_iD] at this
  exact this
set_option maxRecDepth 100000 in
theorem iboth_n (x y : Int) (hx : Lw x.natAbs < 100000) (hy : Lw y.natAbs < 100000) : Meets Tryz.prog Gd 94 [siP x, siP y] (.tup [nmP x, nmP y, .val (.int .i64 0)]) := by
  refine meets_of_vc (Y := { ex := [5] }) (N := 31) (rs := [.cell 4 101, .cell 5 101, .tmp 6]) mix tk gd Tryz.func94 rfl (by kernel_rfl) rfl rfl (by simp) (by kernel_rfl) ?_
  simp (maxSteps := 10000000) only [↓sx, sx, ↓ty, ↓reduceIte, Nat.reduceEqDiff, siP_c]
  refine CallT.mk (iread_d x hx) ?_
  simp (maxSteps := 10000000) only [↓sx, sx, ↓ty, ↓reduceIte, Nat.reduceEqDiff, Nat.reduceAdd, and_self, Bool.and_self, Nat.reduceAdd, Nat.le_refl, nmP_c]
  refine CallT.mk (iread_d y hy) ?_
  simp (maxSteps := 10000000) only [↓sx, sx, ↓ty, ↓reduceIte, Nat.reduceEqDiff, Nat.reduceAdd, Nat.reduceLT, and_self, Bool.and_self, Nat.reduceAdd, Nat.le_refl, nmP_c]
  kernel_rfl
set_option maxRecDepth 100000 in
theorem ione_n (x : Int) (hx : Lw x.natAbs < 100000) : Meets Tryz.prog Gd 90 [siP x] (.tup [nmP x, .val (.int .i64 0)]) := by
  refine meets_of_vc (Y := {}) (N := 15) (rs := [.cell 2 101, .tmp 3]) mix tk gd Tryz.func90 rfl (by kernel_rfl) rfl rfl (by simp) (by kernel_rfl) ?_
  simp (maxSteps := 10000000) only [↓sx, sx, ↓ty, ↓reduceIte, Nat.reduceEqDiff, siP_c]
  refine CallT.to (iboth_n x 0 hx (by simp [Lw_zero])) (by rw [e48]; rfl) ?_
  simp (maxSteps := 10000000) only [↓sx, sx, ↓ty, ↓reduceIte, Nat.reduceEqDiff, Nat.reduceAdd, and_self, Bool.and_self, Nat.reduceAdd, Nat.le_refl, nmP_c]
set_option maxRecDepth 100000 in
theorem ivalid_n (l : List UInt8) (hl : l.length < 10000000) : Meets Tryz.prog Gd 45 [strP l] (.val (.bool (isInt l))) := by
  refine meets_of_vc (Y := {}) (N := 11) (rs := [.tmp 2]) mix tk gd Tryz.func45 rfl (by kernel_rfl) rfl rfl (by simp) (by kernel_rfl) ?_
  simp (maxSteps := 10000000) only [↓sx, sx, ↓ty, ↓reduceIte, Nat.reduceEqDiff, strP_c]
  refine CallT.mk (iread_n l hl) ?_
  simp (maxSteps := 10000000) only [↓sx, sx, ↓ty, ↓reduceIte, Nat.reduceEqDiff, Nat.reduceAdd, and_self, Bool.and_self, Nat.reduceAdd, Nat.le_refl, strP_c]
set_option maxRecDepth 100000 in
theorem isignt_n (x : Int) (hx : Lw x.natAbs < 100000) : Meets Tryz.prog Gd 112 [siP x] (.tup [iP x.sign, .val (.int .i64 0)]) := by
  refine meets_of_vc (Y := {}) (N := 14) (rs := [.tmp 2, .tmp 3]) mix tk gd Tryz.func112 rfl (by kernel_rfl) rfl rfl (by simp) (by kernel_rfl) ?_
  simp (maxSteps := 10000000) only [↓sx, sx, ↓ty, ↓reduceIte, Nat.reduceEqDiff, siP_c]
  refine CallT.mk (ione_n x hx) ?_
  simp (maxSteps := 10000000) only [↓sx, sx, ↓ty, ↓reduceIte, Nat.reduceEqDiff, Nat.reduceAdd, and_self, Bool.and_self, Nat.reduceAdd, Nat.le_refl, nmP_c]
  refine CallT.mk (isign_n x) ?_
  simp (maxSteps := 10000000) only [↓sx, sx, ↓reduceIte, Nat.reduceEqDiff, iP_c]
set_option maxRecDepth 100000 in
theorem iabs_n (x : Int) (hx : Lw x.natAbs < 100000) : Meets Tryz.prog Gd 40 [siP x] (.tup [dP x.natAbs, .val (.int .i64 0)]) := by
  refine meets_of_vc (Y := {}) (N := 16) (rs := [.tmp 2, .tmp 3]) mix tk gd Tryz.func40 rfl (by kernel_rfl) rfl rfl (by simp) (by kernel_rfl) ?_
  simp (maxSteps := 10000000) only [↓sx, sx, ↓ty, ↓reduceIte, Nat.reduceEqDiff, List.getElem?_cons_zero, List.getElem?_cons_succ, siP_c]
  refine CallT.mk (ione_n x hx) ?_
  simp (maxSteps := 10000000) only [↓sx, sx, ↓ty, ↓reduceIte, Nat.reduceEqDiff, Nat.reduceAdd, Int.reduceBNe, ne_eq, not_false_eq_true, and_self, Bool.and_self, Nat.reduceAdd, Nat.le_refl, nmP_c, dP_c]
set_option maxRecDepth 100000 in
theorem ineg_n (x : Int) (hx : Lw x.natAbs < 100000) : Meets Tryz.prog Gd 47 [siP x] (.tup [siP (-x), .val (.int .i64 0)]) := by
  refine meets_of_vc (Y := {}) (N := 17) (rs := [.tmp 2, .tmp 3]) mix tk gd Tryz.func47 rfl (by kernel_rfl) rfl rfl (by simp) (by kernel_rfl) ?_
  simp (maxSteps := 10000000) only [↓sx, sx, ↓ty, ↓reduceIte, Nat.reduceEqDiff, siP_c]
  refine CallT.mk (ione_n x hx) ?_
  simp (maxSteps := 10000000) only [↓sx, sx, ↓ty, ↓reduceIte, Nat.reduceEqDiff, Nat.reduceAdd, Int.reduceBNe, and_self, Bool.and_self, Nat.reduceAdd, Nat.le_refl, nmP_c]
  refine CallT.mk (iopp_n x) ?_
  simp (maxSteps := 10000000) only [↓sx, sx, ↓reduceIte, nmP_c]
  refine CallT.mk (itext_n (-x) (by rw [Int.natAbs_neg]; omega)) ?_
  simp (maxSteps := 10000000) only [↓sx, sx, siP_c]
set_option maxRecDepth 100000 in
theorem icompare_n (x y : Int) (hx : Lw x.natAbs < 100000) (hy : Lw y.natAbs < 100000) : Meets Tryz.prog Gd 61 [siP x, siP y] (.tup [iP (x - y).sign, .val (.int .i64 0)]) := by
  refine meets_of_vc (Y := {}) (N := 22) (rs := [.tmp 4, .tmp 5]) mix tk gd Tryz.func61 rfl (by kernel_rfl) rfl rfl (by simp) (by kernel_rfl) ?_
  simp (maxSteps := 10000000) only [↓sx, sx, ↓ty, ↓reduceIte, Nat.reduceEqDiff, siP_c]
  refine CallT.mk (iboth_n x y hx hy) ?_
  simp (maxSteps := 10000000) only [↓sx, sx, ↓ty, ↓reduceIte, Nat.reduceEqDiff, Nat.reduceAdd, and_self, Bool.and_self, Nat.reduceAdd, Nat.le_refl, nmP_c]
  refine CallT.mk (iopp_n y) ?_
  simp (maxSteps := 10000000) only [↓sx, sx, nmP_c]
  refine CallT.mk (iplus_n x (-y) hx (by rw [Int.natAbs_neg]; exact hy)) ?_
  simp (maxSteps := 10000000) only [↓sx, sx, nmP_c]
  refine CallT.mk (isign_n (x + -y)) ?_
  simp (maxSteps := 10000000) only [↓sx, sx, ↓reduceIte, iP_c]
  rw [Int.sub_eq_add_neg]
set_option maxRecDepth 100000 in
theorem iadd_n (x y : Int) (hx : Lw x.natAbs < 100000) (hy : Lw y.natAbs < 100000) : Meets Tryz.prog Gd 139 [siP x, siP y] (.tup [siP (x + y), .val (.int .i64 0)]) := by
  refine meets_of_vc (Y := {}) (N := 23) (rs := [.tmp 4, .tmp 5]) mix tk gd Tryz.func139 rfl (by kernel_rfl) rfl rfl (by simp) (by kernel_rfl) ?_
  simp (maxSteps := 10000000) only [↓sx, sx, ↓ty, ↓reduceIte, Nat.reduceEqDiff, siP_c]
  refine CallT.mk (iboth_n x y hx hy) ?_
  simp (maxSteps := 10000000) only [↓sx, sx, ↓ty, ↓reduceIte, Nat.reduceEqDiff, Nat.reduceAdd, Int.reduceBNe, and_self, Bool.and_self, Nat.reduceAdd, Nat.le_refl, nmP_c]
  refine CallT.mk (iplus_n x y hx hy) ?_
  simp (maxSteps := 10000000) only [↓sx, sx, ↓reduceIte, nmP_c]
  have hb : Lw (x + y).natAbs < 1000000 := by
    have h1 := Lw_mono (show (x + y).natAbs ≤ x.natAbs + y.natAbs by omega)
    have h2 := Lw_add x.natAbs y.natAbs
    omega
  refine CallT.mk (itext_n (x + y) hb) ?_
  simp (maxSteps := 10000000) only [↓sx, sx, siP_c]
set_option maxRecDepth 100000 in
theorem imul_n (x y : Int) (hx : Lw x.natAbs < 100000) (hy : Lw y.natAbs < 100000) : Meets Tryz.prog Gd 42 [siP x, siP y] (.tup [siP (x * y), .val (.int .i64 0)]) := by
  refine meets_of_vc (Y := {}) (N := 23) (rs := [.tmp 4, .tmp 5]) mix tk gd Tryz.func42 rfl (by kernel_rfl) rfl rfl (by simp) (by kernel_rfl) ?_
  simp (maxSteps := 10000000) only [↓sx, sx, ↓ty, ↓reduceIte, Nat.reduceEqDiff, siP_c]
  refine CallT.mk (iboth_n x y hx hy) ?_
  simp (maxSteps := 10000000) only [↓sx, sx, ↓ty, ↓reduceIte, Nat.reduceEqDiff, Nat.reduceAdd, Int.reduceBNe, and_self, Bool.and_self, Nat.reduceAdd, Nat.le_refl, nmP_c]
  refine CallT.mk (itimes_n x y hx hy) ?_
  simp (maxSteps := 10000000) only [↓sx, sx, ↓reduceIte, nmP_c]
  have hb : Lw (x * y).natAbs < 1000000 := by
    rw [Int.natAbs_mul]
    have h2 := Lw_mul x.natAbs y.natAbs
    omega
  refine CallT.mk (itext_n (x * y) hb) ?_
  simp (maxSteps := 10000000) only [↓sx, sx, siP_c]
set_option maxRecDepth 100000 in
theorem idivmod_n (x y : Int) (hx : Lw x.natAbs < 100000) (hy : Lw y.natAbs < 100000) (h0 : y ≠ 0) : Meets Tryz.prog Gd 106 [siP x, siP y] (.tup [siP (x / y), siP (x % y), .val (.int .i64 0)]) := by
  refine meets_of_vc (Y := {}) (N := 37) (rs := [.tmp 4, .tmp 5, .tmp 6]) mix tk gd Tryz.func106 rfl (by kernel_rfl) rfl rfl (by simp) (by kernel_rfl) ?_
  simp (maxSteps := 10000000) only [↓sx, sx, ↓ty, ↓reduceIte, Nat.reduceEqDiff, siP_c]
  refine CallT.mk (iboth_n x y hx hy) ?_
  simp (maxSteps := 10000000) only [↓sx, sx, ↓ty, ↓reduceIte, Nat.reduceEqDiff, Nat.reduceAdd, Int.reduceBNe, and_self, Bool.and_self, Nat.reduceAdd, Nat.le_refl, nmP_c]
  refine CallT.mk zero_n ?_
  simp (maxSteps := 10000000) only [↓sx, sx, ↓ty, ↓reduceIte, Nat.reduceEqDiff, Nat.reduceAdd, Bool.and_self, Nat.reduceAdd, Nat.le_refl, nmP_c, ag]
  have e0 : decide ((0 : Int) < 0) = false := rfl
  have e1 : Lib.decDigits (0 : Int).natAbs = [48] := by rw [show (0 : Int).natAbs = 0 from rfl, Lib.decDigits]; rfl
  rw [e0, e1, ne0_iff]
  refine vcIf_dec (fun h => absurd h h0) (fun _ => ?_)
  refine CallT.mk (idivide_n x y hx hy h0) ?_
  simp (maxSteps := 10000000) only [↓sx, sx, ↓ty, ↓reduceIte, Nat.reduceEqDiff, Nat.reduceAdd, and_self, Bool.and_self, Nat.reduceAdd, Nat.le_refl, nmP_c]
  have hb1 := Lw_ediv x y h0
  have hb2 := Lw_emod x y h0
  refine CallT.mk (itext_n (x / y) (by omega)) ?_
  simp (maxSteps := 10000000) only [↓sx, sx, ↓reduceIte, Nat.reduceAdd, Nat.reduceAdd, Nat.le_refl, siP_c]
  refine CallT.mk (itext_n (x % y) (by omega)) ?_
  simp (maxSteps := 10000000) only [↓sx, sx, siP_c]
end Go.Proofs.YtfbmphbmidlijaaGreatDoor.S
namespace Go.Proofs.YtfbmphbmidlijaaGreatDoor.S
open Go Go.Sx Go.RowKit Go.Shelf Gb
theorem set_push (a : Array Obj) (o o' : Obj) : (a.push o).setIfInBounds a.size o' = a.push o' := by
  apply Array.ext
  · simp
  · intro i h1 h2
    rw [Array.getElem_setIfInBounds (by simpa using h1), Array.getElem_push]
    rw [Array.getElem_push]
    simp only [Array.size_push] at h2
    split <;> split <;> first | rfl | omega
theorem set_alloc (w : World) (o o' : Obj) : ({ heap := (w.alloc o).heap.setIfInBounds w.heap.size o', tape := w.tape, drawn := w.drawn, os := (w.alloc o).os, output := (w.alloc o).output } : World) = w.alloc o' := by
  show ({ w with heap := (w.heap.push o).setIfInBounds w.heap.size o' } : World) = { w with heap := w.heap.push o' }
  rw [set_push]
def opsL : List (Int × FuncId) := [(43, 85), (42, 189), (45, 190), (47, 191)]
theorem run_ins (w : World) (es : Array MapEntry) (c : Nat) (k : Int) (g : FuncId) (h : Instr.findNow (.int .u8) (.int .u8 k) es.toList 0 = some none) :
    (Instr.mapUpdate 123 (.map (some w.heap.size)) (.int .u8 k) (.func (.func g) #[] #[])).run Tryz.prog (w.alloc (.map es c)) = .ok () (w.alloc (.map (es.push { key := .int .u8 k, val := .func (.func g) #[] #[], born := c }) (c + 1))) := by
  have hb : (w.alloc (.map es c)).heap[w.heap.size]? = some (.map es c) := by
    show (w.heap.push _)[w.heap.size]? = _
    simp
  have hm : Tryz.prog.underlying 123 = some (.map 5 97) := by kernel_rfl
  have hd : Tryz.prog.underlying 5 = some (.int .u8) := by kernel_rfl
  simp [Instr.mapUpdate, run_underlying hm, MapKept.run_getObj_map hb, MapKept.run_checkKey (k := .int .u8 k) hd (by simp [MapKept.IsKey]), MapKept.run_findKey hd h, MapKept.run_setObj_map _ hb, Result.andThen]
  exact set_alloc w _ _
theorem four (w : World) : ∃ E1 E2 E3 E4 : Array MapEntry, (Instr.mapUpdate 123 (.map (some w.heap.size)) (.int .u8 43) (.func (.func 85) #[] #[])).run Tryz.prog (w.alloc (.map #[] 0)) = .ok () (w.alloc (.map E1 1)) ∧
    (Instr.mapUpdate 123 (.map (some w.heap.size)) (.int .u8 42) (.func (.func 189) #[] #[])).run Tryz.prog (w.alloc (.map E1 1)) = .ok () (w.alloc (.map E2 2)) ∧
    (Instr.mapUpdate 123 (.map (some w.heap.size)) (.int .u8 45) (.func (.func 190) #[] #[])).run Tryz.prog (w.alloc (.map E2 2)) = .ok () (w.alloc (.map E3 3)) ∧
    (Instr.mapUpdate 123 (.map (some w.heap.size)) (.int .u8 47) (.func (.func 191) #[] #[])).run Tryz.prog (w.alloc (.map E3 3)) = .ok () (w.alloc (.map E4 4)) ∧
    E4.toList.map (fun e => (e.key, e.val)) = opsL.map fun x => (Value.int .u8 x.1, Value.func (.func x.2) ⟨[]⟩ ⟨[]⟩) :=
  ⟨_, _, _, _, run_ins w _ _ _ _ rfl, run_ins w _ _ _ _ rfl, run_ins w _ _ _ _ rfl, run_ins w _ _ _ _ rfl, rfl⟩
set_option maxHeartbeats 6400000 in
set_option maxRecDepth 100000 in
theorem operations_n : Meets Tryz.prog Gd 161 [] (.mp opsL) := by
  refine ⟨enters_of Tryz.func161 (by kernel_rfl) rfl, fun B vs w hB hr hG => ?_⟩
  simp only [RepL] at hr
  subst hr
  have hmm := @run_makeMap Tryz.prog
  obtain ⟨E1, E2, E3, E4, h1, h2, h3, h4, e⟩ := four w
  go_enter Tryz.func161, Tryz.ntmps161
  go_wp2
  go_ret
  refine ⟨_, rfl, ?_, ?_⟩
  · simp only [RepP]
    refine ⟨w.heap.size, E4, 4, rfl, ⟨.inr (Nat.le_refl _), ?_⟩, ?_, e⟩
    · show _ < (w.heap.push _).size
      simp
    · show (w.heap.push _)[w.heap.size]? = _
      simp
  · exact (Below.refl _ _).alloc (Nat.le_refl _) _
set_option maxRecDepth 100000 in
theorem all_n : Meets Tryz.prog Gd 117 [] (.mp opsL) := by
  refine meets_of_vc (Y := {}) (N := 2) (rs := [.tmp 0]) mix tk gd Tryz.func117 rfl (by kernel_rfl) rfl rfl (by simp) (by kernel_rfl) ?_
  simp (maxSteps := 10000000) only [↓sx, sx]
  refine CallT.mk operations_n ?_
  simp (maxSteps := 10000000) only [↓sx, sx, ↓reduceIte]
end Go.Proofs.YtfbmphbmidlijaaGreatDoor.S
namespace Go.Proofs.YtfbmphbmidlijaaGreatDoor.S
open Go Go.Sx Go.RowKit Gb Go.Shelf
theorem index_n (l : List UInt8) : Meets Tryz.prog Gd 146 [strP l, strP [47]] (iP (Lib.indexByte l 47)) := by
  refine meets_val [.string ⟨l.toArray⟩, .string ⟨#[47]⟩] (.int .i64 (Lib.indexByte l 47)) (enters_of Tryz.func146 (by kernel_rfl) rfl) ?_ ?_
  · intro B w
    simp only [iP, RepP]
  · intro w _
    refine (Tryz.stringslite_Index_one ⟨l.toArray⟩ 47 w).mono ?_
    rintro e w' ⟨rfl, rfl⟩
    exact ⟨rfl, Below.refl _ _⟩
set_option maxRecDepth 100000 in
theorem cuts_n (l : List UInt8) (hl : l.length < 10000000) : Meets Tryz.prog Gd 97 [strP l, strP [47]] (.tup [strP (cutW l).1, strP (cutW l).2.1, .val (.bool (cutW l).2.2)]) := by
  refine meets_of_vc (Y := {}) (N := 23) (rs := [.tmp 4, .tmp 5, .tmp 6]) mix tk gd Tryz.func97 rfl (by kernel_rfl) rfl rfl (by simp) (by kernel_rfl) ?_
  simp (maxSteps := 10000000) only [↓sx, sx, ↓reduceIte, Nat.reduceEqDiff, pc]
  refine CallT.mk (index_n l) ?_
  simp (maxSteps := 10000000) only [↓sx, sx, ↓ty, ↓reduceIte, Nat.reduceEqDiff, Nat.reduceAdd, pc, ls, Nat.reduceAdd]
  rcases idx_splitM l with ⟨h1, h2⟩ | ⟨n, h0, h1, h2⟩
  · rw [h1]
    have : cutW l = (l, [], false) := by unfold cutW; rw [h2]; rfl
    rw [this]
    refine vcIf_dec (fun h => by omega) (fun h => ?_)
    rfl
  · rw [h1]
    have : cutW l = (l.take n, l.drop (n + 1), true) := by unfold cutW; rw [h2]; rfl
    rw [this]
    refine vcIf_dec (fun h => ?_) (fun h => by omega)
    rw [i64_id (x := (n : Int) + ((1 : Nat) : Int)) (by omega) (by omega)]
    refine ⟨by omega, by omega, ?_⟩
    have e1 : ((n : Int) + ((1 : Nat) : Int)).toNat = n + 1 := by omega
    rw [e1]
    simp [List.take_of_length_le]
set_option maxRecDepth 100000 in
theorem cut_n (l : List UInt8) (hl : l.length < 10000000) : Meets Tryz.prog Gd 43 [strP l, strP [47]] (.tup [strP (cutW l).1, strP (cutW l).2.1, .val (.bool (cutW l).2.2)]) := by
  refine meets_of_vc (Y := {}) (N := 13) (rs := [.tmp 4, .tmp 5, .tmp 6]) mix tk gd Tryz.func43 rfl (by kernel_rfl) rfl rfl (by simp) (by kernel_rfl) ?_
  simp (maxSteps := 10000000) only [↓sx, sx, ↓reduceIte, Nat.reduceEqDiff, pc]
  refine CallT.mk (cuts_n l hl) ?_
  simp (maxSteps := 10000000) only [↓sx, sx, ↓reduceIte, Nat.reduceEqDiff, pc]
set_option maxRecDepth 100000 in
theorem ftext_n (x : Rat) (hx : Sz 50000 x) : Meets Tryz.prog Gd 49 [frP x] (rtP x) := by
  refine meets_of_vc (Y := {}) (N := 14) (rs := [.tmp 2]) mix tk gd Tryz.func49 rfl (by kernel_rfl) rfl rfl (by simp) (by kernel_rfl) ?_
  simp (maxSteps := 10000000) only [↓sx, sx, ↓ty, ↓reduceIte, Nat.reduceEqDiff, Nat.reduceAdd, ne_eq, not_false_eq_true, pc, ls, Nat.reduceAdd, pd, dec_eq1]
  have l1 := iD_len x.num
  have l2 := dec_len x.den
  have := hx.1; have := hx.2
  unfold rT
  refine vcIf_dec (fun h => ?_) (fun h => ?_)
  · rw [if_pos h]
  · rw [if_neg h]
    simp
    omega
set_option maxRecDepth 100000 in
theorem divisor_n (p : Int) (q : Nat) (hp : Lw p.natAbs < 100000) (hq : Lw q < 100000) : Meets Tryz.prog Gd 105 [siP p, dP q] (dP (Nat.gcd p.natAbs q)) := by
  refine meets_of_vc (Y := {}) (N := 21) (rs := [.tmp 4]) mix tk gd Tryz.func105 rfl (by kernel_rfl) rfl rfl (by simp) (by kernel_rfl) ?_
  simp (maxSteps := 10000000) only [↓sx, sx, ↓reduceIte, Nat.reduceEqDiff, pc]
  refine CallT.mk (iabs_n p hp) ?_
  simp (maxSteps := 10000000) only [↓sx, sx, ↓reduceIte, Nat.reduceEqDiff, pc]
  refine CallT.mk (ngcdt_n p.natAbs q hp hq) ?_
  simp (maxSteps := 10000000) only [↓sx, sx, ↓reduceIte, Nat.reduceEqDiff, pc]
set_option maxRecDepth 100000 in
theorem lowestp_n (p : Int) (q : Nat) (x : Rat) (hq : q ≠ 0) (h1 : Lw p.natAbs < 100000) (h2 : Lw q < 100000) (hx : Rat.normalize p q hq = x) : Meets Tryz.prog Gd 48 [siP p, dP q] (frP x) := by
  refine meets_of_vc (Y := {}) (N := 28) (rs := [.cell 4 55]) mix tk gd Tryz.func48 rfl (by kernel_rfl) rfl rfl (by simp) (by kernel_rfl) ?_
  have x1 : x.num = p / (p.natAbs.gcd q : Nat) := by rw [← hx, Rat.num_normalize]
  have x2 : x.den = q / p.natAbs.gcd q := by rw [← hx, Rat.den_normalize]
  clear hx
  simp (maxSteps := 10000000) only [↓sx, sx, ↓ty, ↓reduceIte, Nat.reduceEqDiff, pc]
  refine CallT.mk (divisor_n p q h1 h2) ?_
  have hdv : p.natAbs.gcd q ∣ p.natAbs := Nat.gcd_dvd_left _ _
  have hg0 : 0 < p.natAbs.gcd q := Nat.gcd_pos_of_pos_right _ (by omega)
  have hgl : Lw (p.natAbs.gcd q) ≤ Lw q := Lw_mono (Nat.gcd_le_right _ (by omega))
  generalize p.natAbs.gcd q = g at *
  simp (maxSteps := 10000000) only [↓sx, sx, ↓ty, ↓reduceIte, Nat.reduceEqDiff, Nat.reduceAdd, Nat.reduceLeDiff, pc, ls, bs, and_self, Nat.reduceAdd, Nat.le_refl, pd, dec_eq1]
  by_cases h1g : g = 1
  · subst h1g
    refine vcIf_b (fun h => by simp at h) (fun h => ?_)
    rw [x1, x2]
    simp
  · refine vcIf_b (fun h => ?_) (fun h => by simp [h1g] at h)
    refine CallT.to (idivmod_n p (g : Int) h1 (by rw [Int.natAbs_natCast]; omega) (by omega)) (by rw [siP_nat]; rfl) ?_
    simp (maxSteps := 10000000) only [↓sx, sx, ↓reduceIte, Nat.reduceEqDiff, pc]
    refine CallT.mk (ndivmod_n q g h2 (by omega) hg0) ?_
    simp (maxSteps := 10000000) only [↓sx, sx, ↓ty, ↓reduceIte, Nat.reduceEqDiff, Nat.reduceAdd, Nat.reduceLeDiff, pc, ls, bs, and_self, Nat.reduceAdd, Nat.le_refl, pd]
    rw [x1, x2]
end Go.Proofs.YtfbmphbmidlijaaGreatDoor.S
namespace Go.Proofs.YtfbmphbmidlijaaGreatDoor.S
open Go Go.Sx Go.RowKit Gb Go.Shelf
set_option maxRecDepth 100000 in
theorem fsign_n (x : Rat) (hx : Sz 50000 x) : Meets Tryz.prog Gd 60 [frP x] (iP x.num.sign) := by
  refine meets_of_vc (Y := {}) (N := 12) (rs := [.tmp 2]) mix tk gd Tryz.func60 rfl (by kernel_rfl) rfl rfl (by simp) (by kernel_rfl) ?_
  simp (maxSteps := 10000000) only [↓sx, sx, ↓ty, ↓reduceIte, Nat.reduceEqDiff, Nat.reduceAdd, ne_eq, not_false_eq_true, ls, Nat.reduceAdd, pd]
  refine CallT.mk (isignt_n x.num (by have := hx.1; omega)) ?_
  simp (maxSteps := 10000000) only [↓sx, sx, ↓reduceIte, Nat.reduceEqDiff, pc]
set_option maxRecDepth 100000 in
theorem fopp_n (x : Rat) (hx : Sz 50000 x) : Meets Tryz.prog Gd 86 [frP x] (frP (-x)) := by
  refine meets_of_vc (Y := {}) (N := 15) (rs := [.cell 2 55]) mix tk gd Tryz.func86 rfl (by kernel_rfl) rfl rfl (by simp) (by kernel_rfl) ?_
  simp (maxSteps := 10000000) only [↓sx, sx, ↓ty, ↓reduceIte, Nat.reduceEqDiff, Nat.reduceAdd, ne_eq, not_false_eq_true, ls, Nat.reduceAdd, pd]
  refine CallT.mk (ineg_n x.num (by have := hx.1; omega)) ?_
  simp (maxSteps := 10000000) only [↓sx, sx, ↓ty, ↓reduceIte, Nat.reduceEqDiff, Nat.reduceAdd, Nat.reduceLeDiff, ne_eq, not_false_eq_true, pc, ls, bs, and_self, Nat.reduceAdd, Nat.le_refl, pd]
  rw [Rat.neg_num, Rat.neg_den]
set_option maxRecDepth 100000 in
theorem finv_n (x : Rat) (hx : Sz 50000 x) (h0 : x ≠ 0) : Meets Tryz.prog Gd 140 [frP x] (frP x⁻¹) := by
  have hn : x.num ≠ 0 := by rwa [ne_eq, Rat.num_eq_zero]
  have l2 := dec_len x.den
  have := hx.2
  refine meets_of_vc (Y := {}) (N := 22) (rs := [.cell 2 55]) mix tk gd Tryz.func140 rfl (by kernel_rfl) rfl rfl (by simp) (by kernel_rfl) ?_
  simp (maxSteps := 10000000) only [↓sx, sx, ↓ty, ↓reduceIte, Nat.reduceEqDiff, Nat.reduceAdd, ne_eq, not_false_eq_true, ls, Nat.reduceAdd, pd]
  refine CallT.mk (cutm_n (iD x.num)) ?_
  have i1 : x⁻¹.num = x.num.sign * x.den := by rw [Rat.num_inv]
  have i2 : x⁻¹.den = x.num.natAbs := by rw [Rat.den_inv, if_neg hn]
  by_cases h : x.num < 0
  · have e1 : cutM (iD x.num) = (Lib.decDigits x.num.natAbs, true) := by unfold iD; rw [if_pos h, cutM_cons, if_pos rfl]
    rw [e1]
    simp (maxSteps := 10000000) only [↓sx, sx, ↓ty, ↓reduceIte, Nat.reduceEqDiff, Nat.reduceAdd, Nat.reduceLeDiff, ne_eq, not_false_eq_true, pc, ls, bs, and_self, Nat.reduceAdd, Nat.le_refl, pd]
    have e2 : iD (x.num.sign * x.den) = 45 :: Lib.decDigits x.den := by
      rw [Int.sign_eq_neg_one_of_neg h]
      have := x.den_nz
      unfold iD
      rw [if_pos (by omega)]
      congr 2
      omega
    rw [i1, i2, e2]
    simp
    omega
  · have e1 : cutM (iD x.num) = (Lib.decDigits x.num.natAbs, false) := by
      unfold iD
      rw [if_neg h]
      cases hl : Lib.decDigits x.num.natAbs with
      | nil => rfl
      | cons c r =>
        have := isNat_head (c := c) (r := r) (by rw [← hl]; exact isNat_dec _)
        rw [cutM_cons, if_neg this]
    rw [e1]
    simp (maxSteps := 10000000) only [↓sx, sx, ↓ty, ↓reduceIte, Nat.reduceEqDiff, Nat.reduceAdd, Nat.reduceLeDiff, ne_eq, not_false_eq_true, pc, ls, bs, and_self, Nat.reduceAdd, Nat.le_refl, pd]
    have e2 : iD (x.num.sign * x.den) = Lib.decDigits x.den := by
      rw [Int.sign_eq_one_of_pos (by omega), Int.one_mul, iD_nat]
    have e3 : iD x.num = Lib.decDigits x.num.natAbs := by unfold iD; rw [if_neg h]
    rw [i1, i2, e2, e3]
set_option maxRecDepth 100000 in
theorem ffloor_n (x : Rat) (hx : Sz 50000 x) : Meets Tryz.prog Gd 70 [frP x] (siP x.floor) := by
  refine meets_of_vc (Y := {}) (N := 16) (rs := [.tmp 2]) mix tk gd Tryz.func70 rfl (by kernel_rfl) rfl rfl (by simp) (by kernel_rfl) ?_
  simp (maxSteps := 10000000) only [↓sx, sx, ↓ty, ↓reduceIte, Nat.reduceEqDiff, Nat.reduceAdd, ne_eq, not_false_eq_true, ls, Nat.reduceAdd, pd]
  refine CallT.to (idivmod_n x.num (x.den : Int) (by have := hx.1; omega) (by have := hx.2; rw [Int.natAbs_natCast]; omega) (by have := x.den_nz; omega)) (by rw [siP_nat]; rfl) ?_
  simp (maxSteps := 10000000) only [↓sx, sx, ↓reduceIte, Nat.reduceEqDiff, pc]
  rw [Rat.floor_def]
theorem parseI_n (z : Int) (h1 : -1000000000 < z) (h2 : z < 1000000000) : Meets Tryz.prog Gd 177 [siP z, iP 10, iP 64] (.tup [iP z, .val .nilIface]) := by
  refine meets_val [.string ⟨(iD z).toArray⟩, .int .i64 10, .int .i64 64] (.tuple ⟨[.int .i64 z, .nilIface]⟩) (enters_of Tryz.func177 (by kernel_rfl) rfl) ?_ ?_
  · intro B w
    simp [iP, RepP, RepL]
  · intro w _
    have := iD_len z
    have hl : Lw z.natAbs ≤ 1 := Lw_le (by show z.natAbs < 1000000000 ^ 1; omega)
    refine (Tryz.strconv_ParseInt_10_at64_ok ⟨(iD z).toArray⟩ (by show (iD z).toArray.size ≤ _; simp; omega) z (parseI z h1 h2) w).mono ?_
    rintro e w' ⟨rfl, hw⟩
    refine ⟨rfl, ?_⟩
    rcases hw with rfl | ⟨t, rfl⟩
    · exact Below.refl _ _
    · exact Lib.bytesWorld_below _ _ _
theorem formatI_n (z : Int) (h1 : -9223372036854775808 ≤ z) (h2 : z ≤ 9223372036854775807) : Meets Tryz.prog Gd 178 [iP z, iP 10] (siP z) := by
  refine meets_val [.int .i64 z, .int .i64 10] (.string ⟨(iD z).toArray⟩) (enters_of Tryz.func178 (by kernel_rfl) rfl) ?_ ?_
  · intro B w
    simp [siP_c, RepP]
  · intro w hw
    refine (Tryz.strconv_FormatInt_10 z h1 h2 w hw).mono ?_
    rintro e w' ⟨rfl, k, os, rfl⟩
    rw [itoa_iD]
    exact ⟨rfl, Lib.below_grow _ w (Nat.le_refl _) k os⟩
end Go.Proofs.YtfbmphbmidlijaaGreatDoor.S
namespace Go.Proofs.YtfbmphbmidlijaaGreatDoor.S
open Go Go.Sx Go.RowKit Gb Go.Shelf
set_option maxRecDepth 100000 in
set_option maxHeartbeats 4000000 in
theorem fread_n (l : List UInt8) (hl : l.length < 300000) : Meets Tryz.prog Gd 56 [strP l] (.tup [.agg [strP (splitM l).1, strP (splitM l).2.1], .val (.bool (isRat l))]) := by
  have hlen := splitM_len l
  have hs := splitM_inv l
  have hR : isRat l = (isInt (splitM l).1 && isNat (splitM l).2.1 && (!(splitM l).2.2 || (decide (1 < natOf (splitM l).2.1) && decide (intOf (splitM l).1 ≠ 0) && decide (Nat.gcd (intOf (splitM l).1).natAbs (natOf (splitM l).2.1) = 1)))) := rfl
  refine meets_of_vc (Y := {}) (N := 48) (rs := [.cell 2 55, .tmp 3]) mix tk gd Tryz.func56 rfl (by kernel_rfl) rfl rfl (by simp) (by kernel_rfl) ?_
  simp (maxSteps := 10000000) only [↓sx, sx, ↓ty, ↓reduceIte, Nat.reduceEqDiff, pc]
  refine CallT.mk (cut_n l (by omega)) ?_
  have hc : cutW l = if (splitM l).2.2 then splitM l else (l, [], false) := rfl
  rw [hc]
  clear hc
  generalize splitM l = q at *
  obtain ⟨p, d, s⟩ := q
  dsimp only at *
  cases s with
  | false =>
    have h3 : p = l ∧ d = [49] := by
      rcases hs with ⟨h, _⟩ | ⟨_, h, h2⟩
      · cases h
      · exact ⟨h.symm, h2⟩
    obtain ⟨rfl, rfl⟩ := h3
    simp only [Bool.false_eq_true, if_false]
    simp (maxSteps := 10000000) only [↓sx, sx, ↓ty, ↓reduceIte, Nat.reduceEqDiff, Nat.reduceAdd, Nat.reduceLeDiff, pc, ls, bs, and_self, Nat.reduceAdd, Nat.le_refl]
    refine CallT.mk (ivalid_n p (by omega)) ?_
    simp (maxSteps := 10000000) only [↓sx, sx, ↓ty, ↓reduceIte, Nat.reduceEqDiff, Nat.reduceAdd, pc, ls, bs, and_self, Nat.reduceAdd, Nat.le_refl]
    rw [hR]
    simp [show isNat [49] = true from by decide]
  | true =>
    simp only [if_true]
    simp (maxSteps := 10000000) only [↓sx, sx, ↓reduceIte, Nat.reduceEqDiff, pc]
    refine CallT.mk (ivalid_n p (by omega)) ?_
    simp (maxSteps := 10000000) only [↓sx, sx, ↓ty, ↓reduceIte, Nat.reduceEqDiff, Nat.reduceAdd, Nat.reduceLeDiff, Nat.reduceLT, pc, ls, bs, and_self, Nat.reduceAdd, Nat.le_refl]
    cases hp : isInt p with
    | false =>
      rw [hp] at hR
      simp only [Bool.false_and] at hR
      simp (maxSteps := 10000000) only [↓sx, sx]
      rw [hR]
    | true =>
      obtain ⟨z, rfl⟩ : ∃ z, p = iD z := ⟨_, (iD_intOf hp).symm⟩
      rw [intOf_iD, hp] at hR
      have lp := Lw_intOf hp
      rw [intOf_iD] at lp
      by_cases hz : z = 0
      · have hR : isRat l = false := by rw [hR]; simp [hz]
        have e1 : (iD z == [48]) = true := by rw [iD_eq0]; simp [hz]
        simp (maxSteps := 10000000) only [↓sx, sx, bs, e1]
        rw [hR]
      · have e1 : (iD z == [48]) = false := by rw [iD_eq0]; simp [hz]
        simp (maxSteps := 10000000) only [↓sx, sx, bs, e1]
        refine CallT.mk (nvalid_n d (by omega)) ?_
        simp (maxSteps := 10000000) only [↓sx, sx, ↓ty, ↓reduceIte, Nat.reduceEqDiff, Nat.reduceAdd, Nat.reduceLeDiff, Nat.reduceLT, pc, ls, bs, and_self, Nat.reduceAdd, Nat.le_refl]
        cases hd : isNat d with
        | false =>
          rw [hd] at hR
          simp only [Bool.false_and, Bool.and_false] at hR
          simp (maxSteps := 10000000) only [↓sx, sx]
          rw [hR]
        | true =>
          obtain ⟨n, rfl⟩ : ∃ n, d = Lib.decDigits n := ⟨_, (dec_natOf hd).symm⟩
          rw [natOf_dec, hd] at hR
          have ld := Lw_natOf (isNat_iff.1 hd).2.1
          rw [natOf_dec] at ld
          by_cases n0 : n = 0
          · have hR : isRat l = false := by rw [hR]; simp [n0]
            have e2 : (Lib.decDigits n == [48]) = true := by rw [dec_eq0]; simp [n0]
            simp (maxSteps := 10000000) only [↓sx, sx, bs, e2]
            rw [hR]
          · have e2 : (Lib.decDigits n == [48]) = false := by rw [dec_eq0]; simp [n0]
            by_cases n1 : n = 1
            · have hR : isRat l = false := by rw [hR]; simp [n1]
              have e3 : (Lib.decDigits n == [49]) = true := by rw [dec_eq1]; simp [n1]
              simp (maxSteps := 10000000) only [↓sx, sx, bs, e2, e3]
              rw [hR]
            · have e3 : (Lib.decDigits n == [49]) = false := by rw [dec_eq1]; simp [n1]
              simp (maxSteps := 10000000) only [↓sx, sx, bs, e2, e3]
              refine CallT.mk (divisor_n z n (by omega) (by omega)) ?_
              simp (maxSteps := 10000000) only [↓sx, sx, ↓ty, ↓reduceIte, Nat.reduceEqDiff, Nat.reduceAdd, Nat.reduceLeDiff, Nat.reduceLT, pc, ls, bs, and_self, Nat.reduceAdd, Nat.le_refl, dec_eq1]
              rw [hR]
              have : 1 < n := by omega
              simp [hz, this]
set_option maxRecDepth 100000 in
set_option maxHeartbeats 4000000 in
theorem flittle_s (x : Rat) (h : shortQ x = true) : Meets Tryz.prog Gd 137 [frP x] (.tup [iP x.num, iP x.den, .val (.bool true)]) := by
  have hs := shortQ_spec h
  unfold shortQ at h
  simp only [Bool.and_eq_true, decide_eq_true_eq] at h
  refine meets_of_vc (Y := {}) (N := 33) (rs := [.tmp 2, .tmp 3, .tmp 4]) mix tk gd Tryz.func137 rfl (by kernel_rfl) rfl rfl (by simp) (by kernel_rfl) ?_
  have e1 : decide (((iD x.num).length : Int) > 9) = false := by simp; omega
  have e2 : decide (((Lib.decDigits x.den).length : Int) > 9) = false := by simp; omega
  simp (maxSteps := 10000000) only [↓sx, sx, ↓ty, ↓reduceIte, Nat.reduceEqDiff, Nat.reduceAdd, Nat.reduceLT, ne_eq, not_false_eq_true, ls, Nat.reduceAdd, pd, e1, e2]
  refine CallT.mk (parseI_n x.num (by omega) (by omega)) ?_
  simp (maxSteps := 10000000) only [↓sx, sx, ↓ty, ↓reduceIte, Nat.reduceEqDiff, Nat.reduceAdd, ne_eq, not_false_eq_true, pc, ls, Nat.reduceAdd]
  refine CallT.to (parseI_n (x.den : Int) (by omega) (by omega)) (by rw [siP_nat]; rfl) ?_
  simp (maxSteps := 10000000) only [↓sx, sx, ↓reduceIte, Nat.reduceEqDiff, pc]
set_option maxRecDepth 100000 in
set_option maxHeartbeats 4000000 in
theorem flittle_l (x : Rat) (h : shortQ x = false) : Meets Tryz.prog Gd 137 [frP x] (.tup [iP 0, iP 0, .val (.bool false)]) := by
  unfold shortQ at h
  simp only [Bool.and_eq_false_iff, decide_eq_false_iff_not] at h
  refine meets_of_vc (Y := {}) (N := 33) (rs := [.tmp 2, .tmp 3, .tmp 4]) mix tk gd Tryz.func137 rfl (by kernel_rfl) rfl rfl (by simp) (by kernel_rfl) ?_
  by_cases h1 : (iD x.num).length ≤ 9
  · have e1 : decide (((iD x.num).length : Int) > 9) = false := by simp; omega
    have e2 : decide (((Lib.decDigits x.den).length : Int) > 9) = true := by simp; omega
    simp (maxSteps := 10000000) only [↓sx, sx, ↓ty, ↓reduceIte, Nat.reduceEqDiff, Nat.reduceAdd, Nat.reduceLT, ne_eq, not_false_eq_true, pc, ls, and_self, Nat.reduceAdd, pd, e1, e2]
  · have e1 : decide (((iD x.num).length : Int) > 9) = true := by simp; omega
    simp (maxSteps := 10000000) only [↓sx, sx, ↓ty, ↓reduceIte, Nat.reduceEqDiff, Nat.reduceAdd, Nat.reduceLT, ne_eq, not_false_eq_true, pc, ls, and_self, Nat.reduceAdd, pd, e1]
end Go.Proofs.YtfbmphbmidlijaaGreatDoor.S
namespace Go.Proofs.YtfbmphbmidlijaaGreatDoor.S
open Go Go.Sx Go.RowKit Gb Go.Shelf
set_option maxRecDepth 100000 in
set_option maxHeartbeats 4000000 in
theorem fof_n (p : Int) (q : Nat) (x : Rat) (hq : q ≠ 0) (h1 : p.natAbs < 4611686018427387904) (h2 : q < 4611686018427387904) (hx : Rat.normalize p q hq = x) : Meets Tryz.prog Gd 138 [iP p, iP q] (frP x) := by
  have x1 : x.num = p / (p.natAbs.gcd q : Nat) := by rw [← hx, Rat.num_normalize]
  have x2 : x.den = q / p.natAbs.gcd q := by rw [← hx, Rat.den_normalize]
  have hdv : p.natAbs.gcd q ∣ p.natAbs := Nat.gcd_dvd_left _ _
  have hdq : p.natAbs.gcd q ∣ q := Nat.gcd_dvd_right _ _
  have hg0 : 0 < p.natAbs.gcd q := Nat.gcd_pos_of_pos_right _ (by omega)
  have hgl : p.natAbs.gcd q ≤ q := Nat.gcd_le_right _ (by omega)
  clear hx
  refine meets_of_vc (Y := {}) (N := 28) (rs := [.cell 4 55]) mix tk gd Tryz.func138 rfl (by kernel_rfl) rfl rfl (by simp) (by kernel_rfl) ?_
  simp (maxSteps := 10000000) only [↓sx, sx, ↓ty, ↓reduceIte, Nat.reduceEqDiff, pc]
  refine loopK_of (fun s : Int × Int => [(0, .p (.val (.int .i64 p))), (1, .p (.val (.int .i64 q))), (4, .box 4 0), (5, .p (.val (.int .i64 s.1))), (6, .p (.val (.int .i64 s.2)))]) (fun _ => [(4, (55, [.val (.string ⟨#[]⟩), .val (.string ⟨#[]⟩)]))]) (fun _ => []) (fun s => s.1.natAbs < 4611686018427387904 ∧ s.2.natAbs < 4611686018427387904 ∧ s.1.natAbs.gcd s.2.natAbs = p.natAbs.gcd q) (fun s => s.2.natAbs) (p, (q : Int)) ⟨h1, by simpa using h2, by simp⟩ ?_ ?_
  · simp (maxSteps := 10000000) only [isE_nil, is_cons, bo_p, bo_box, any_cons', all_cons', all_nil', Bool.true_or, ↓sx, sx, ↓reduceIte, Nat.reduceEqDiff]
    exact ⟨rfl, rfl⟩
  · rintro ⟨a, b⟩ ⟨i1, i2, i3⟩
    dsimp only at i1 i2 i3
    simp (maxSteps := 10000000) only [↓sx, sx, ↓reduceIte, Nat.reduceEqDiff, ls]
    refine vcIf_b (fun hb => ?_) (fun hb => ?_)
    · have hb : b ≠ 0 := by simpa using hb
      have hm := tmod_natAbs a b
      have hlt : (a.tmod b).natAbs < b.natAbs := by rw [hm]; exact Nat.mod_lt _ (by omega)
      refine ⟨hb, NextK.mk (b, a.tmod b) hlt ⟨i2, by show (a.tmod b).natAbs < _; omega, ?_⟩ ?_⟩
      · show b.natAbs.gcd (a.tmod b).natAbs = _
        rw [hm, Nat.gcd_comm, ← Nat.gcd_rec, Nat.gcd_comm, i3]
      · simp (maxSteps := 10000000) only [isE_nil, is_cons, bo_p, bo_box, any_cons', all_cons', all_nil', Bool.true_or, ↓sx, sx, ↓reduceIte, Nat.reduceEqDiff]
    · have hb : b = 0 := by simpa using hb
      subst hb
      rw [Int.natAbs_zero, Nat.gcd_zero_right] at i3
      generalize p.natAbs.gcd q = g at *
      have e1 : (if IntKind.i64.wrap (0 - a) > a then IntKind.i64.wrap (0 - a) else a) = (g : Int) := by
        rw [i64_id (by omega) (by omega)]
        split <;> omega
      simp (maxSteps := 10000000) only [Int.reduceBNe, e1]
      have hgi : ¬ (g : Int) = 0 := by omega
      refine ⟨hgi, ?_⟩
      have q1 : p.tdiv g = p / g := tdiv_dvd hdv
      have q2 : (q : Int).tdiv g = ((q / g : Nat) : Int) := by rw [Int.ofNat_tdiv]
      have b1 : (p / (g : Int)).natAbs ≤ p.natAbs := by rw [Int.natAbs_ediv_of_dvd (Int.ofNat_dvd_left.2 hdv)]; exact Nat.div_le_self _ _
      have b2 : q / g ≤ q := Nat.div_le_self _ _
      rw [q1, i64_id (x := p / (g : Int)) (by omega) (by omega)]
      refine CallT.mk (formatI_n (p / (g : Int)) (by omega) (by omega)) ?_
      simp (maxSteps := 10000000) only [↓sx, sx, ↓reduceIte, Nat.reduceEqDiff, e1]
      refine ⟨hgi, ?_⟩
      rw [q2, i64_id (x := ((q / g : Nat) : Int)) (by omega) (by omega)]
      refine CallT.mk (formatI_n ((q / g : Nat) : Int) (by omega) (by omega)) ?_
      simp (maxSteps := 10000000) only [↓sx, sx, ↓ty, ↓reduceIte, Nat.reduceEqDiff, Nat.reduceAdd, Nat.reduceLeDiff, pc, ls, bs, and_self, Nat.reduceAdd, Nat.le_refl, pd]
      rw [x1, x2, iD_nat]
theorem scale_lt {a b : Int} {k m : Nat} (ha : a.natAbs < k) (hb : b.natAbs < m) (hk : 0 < k) : (a * b).natAbs < k * m := by
  rw [Int.natAbs_mul]
  have h1 : a.natAbs * b.natAbs ≤ a.natAbs * m := Nat.mul_le_mul_left _ (by omega)
  have h2 : a.natAbs * m < k * m := Nat.mul_lt_mul_of_pos_right ha (by omega)
  omega
set_option maxRecDepth 100000 in
set_option maxHeartbeats 4000000 in
theorem fplus_n (x y : Rat) (hx : Sz 20000 x) (hy : Sz 20000 y) : Meets Tryz.prog Gd 85 [frP x, frP y] (frP (x + y)) := by
  have a1 := hx.1
  have a2 := hx.2
  have a3 := hy.1
  have a4 := hy.2
  have b4 := Lw_mul x.den y.den
  have b5 := Lw_iadd (x.num * y.den) (y.num * x.den)
  have b6 := Lw_imul x.num y.den
  have b7 := Lw_imul y.num x.den
  rw [Int.natAbs_natCast] at b6 b7
  have hd0 := Nat.mul_ne_zero x.den_nz y.den_nz
  refine meets_of_vc (Y := {}) (N := 77) (rs := [.cell 4 55]) mix tk gd Tryz.func85 rfl (by kernel_rfl) rfl rfl (by simp) (by kernel_rfl) ?_
  simp (maxSteps := 10000000) only [↓sx, sx, ↓ty, ↓reduceIte, Nat.reduceEqDiff, Nat.reduceAdd, ls, Nat.reduceAdd, Nat.le_refl, pd]
  by_cases hb : shortQ x = true ∧ shortQ y = true
  · have s1 := shortQ_spec hb.1
    have s2 := shortQ_spec hb.2
    refine CallT.mk (flittle_s x hb.1) ?_
    simp (maxSteps := 10000000) only [↓sx, sx, ↓ty, ↓reduceIte, Nat.reduceEqDiff, Nat.reduceAdd, pc, ls, Nat.reduceAdd, Nat.le_refl]
    refine CallT.mk (flittle_s y hb.2) ?_
    simp (maxSteps := 10000000) only [↓sx, sx, ↓reduceIte, Nat.reduceEqDiff, Nat.reduceLT, pc]
    have m1 := scale_lt (a := x.num) (b := y.den) (k := 1000000000) (m := 1000000000) (by omega) (by omega) (by omega)
    have m2 := scale_lt (a := y.num) (b := x.den) (k := 1000000000) (m := 1000000000) (by omega) (by omega) (by omega)
    have m3 := scale_lt (a := x.den) (b := y.den) (k := 1000000000) (m := 1000000000) (by omega) (by omega) (by omega)
    have m4 : (x.den : Int) * y.den = ((x.den * y.den : Nat) : Int) := by rw [Int.natCast_mul]
    obtain ⟨D, hD⟩ : ∃ D, D = x.den * y.den := ⟨_, rfl⟩
    have hD0 : D ≠ 0 := by rw [hD]; exact hd0
    obtain ⟨X, hX⟩ : ∃ X, X = x.num * (y.den : Int) := ⟨_, rfl⟩
    obtain ⟨Y, hY⟩ : ∃ Y, Y = y.num * (x.den : Int) := ⟨_, rfl⟩
    have hdef : Rat.normalize (X + Y) D hD0 = x + y := by subst hD hX hY; exact (Rat.add_def x y).symm
    rw [m4, ← hD] at m3 ⊢
    rw [← hX] at m1 ⊢
    rw [← hY] at m2 ⊢
    clear hD hX hY m4 b4 b5 b6 b7 hd0
    rw [i64_id (x := X) (by omega) (by omega), i64_id (x := Y) (by omega) (by omega), i64_id (x := X + Y) (by omega) (by omega), i64_id (x := (D : Int)) (by omega) (by omega)]
    refine CallT.mk (fof_n (X + Y) D (x + y) hD0 (by omega) (by omega) hdef) ?_
    simp (maxSteps := 10000000) only [↓sx, sx, ↓ty, ↓reduceIte, Nat.reduceEqDiff, Nat.reduceAdd, ls, bs, and_self, Nat.reduceAdd, Nat.le_refl, pd]
  · cases hsx : shortQ x with
    | false =>
      refine CallT.mk (flittle_l x hsx) ?_
      simp (maxSteps := 10000000) only [↓sx, sx, ↓ty, ↓reduceIte, Nat.reduceEqDiff, Nat.reduceAdd, pc, ls, Nat.reduceAdd, Nat.le_refl]
      cases hsy : shortQ y with
      | false =>
        refine CallT.mk (flittle_l y hsy) ?_
        simp (maxSteps := 10000000) only [↓sx, sx, ↓ty, ↓reduceIte, Nat.reduceEqDiff, Nat.reduceAdd, Nat.reduceLT, ne_eq, not_false_eq_true, pc, ls, Nat.reduceAdd]
        refine CallT.to (imul_n x.num (y.den : Int) (by omega) (by rw [Int.natAbs_natCast]; omega)) (by rw [siP_nat]; rfl) ?_
        simp (maxSteps := 10000000) only [↓sx, sx, ↓ty, ↓reduceIte, Nat.reduceEqDiff, Nat.reduceAdd, ne_eq, not_false_eq_true, pc, ls, Nat.reduceAdd]
        refine CallT.to (imul_n y.num (x.den : Int) (by omega) (by rw [Int.natAbs_natCast]; omega)) (by rw [siP_nat]; rfl) ?_
        simp (maxSteps := 10000000) only [↓sx, sx, ↓reduceIte, Nat.reduceEqDiff, pc]
        refine CallT.mk (iadd_n (x.num * y.den) (y.num * x.den) (by omega) (by omega)) ?_
        simp (maxSteps := 10000000) only [↓sx, sx, ↓ty, ↓reduceIte, Nat.reduceEqDiff, Nat.reduceAdd, ne_eq, not_false_eq_true, pc, ls, Nat.reduceAdd]
        refine CallT.mk (nmul_n x.den y.den (by omega) (by omega)) ?_
        simp (maxSteps := 10000000) only [↓sx, sx, ↓reduceIte, Nat.reduceEqDiff, pc]
        refine CallT.mk (lowestp_n (x.num * y.den + y.num * x.den) (x.den * y.den) (x + y) hd0 (by omega) (by omega) (Rat.add_def x y).symm) ?_
        simp (maxSteps := 10000000) only [↓sx, sx, ↓ty, ↓reduceIte, Nat.reduceEqDiff, Nat.reduceAdd, ls, bs, and_self, Nat.reduceAdd, Nat.le_refl, pd]
      | true =>
        refine CallT.mk (flittle_s y hsy) ?_
        simp (maxSteps := 10000000) only [↓sx, sx, ↓ty, ↓reduceIte, Nat.reduceEqDiff, Nat.reduceAdd, Nat.reduceLT, ne_eq, not_false_eq_true, pc, ls, Nat.reduceAdd]
        refine CallT.to (imul_n x.num (y.den : Int) (by omega) (by rw [Int.natAbs_natCast]; omega)) (by rw [siP_nat]; rfl) ?_
        simp (maxSteps := 10000000) only [↓sx, sx, ↓ty, ↓reduceIte, Nat.reduceEqDiff, Nat.reduceAdd, ne_eq, not_false_eq_true, pc, ls, Nat.reduceAdd]
        refine CallT.to (imul_n y.num (x.den : Int) (by omega) (by rw [Int.natAbs_natCast]; omega)) (by rw [siP_nat]; rfl) ?_
        simp (maxSteps := 10000000) only [↓sx, sx, ↓reduceIte, Nat.reduceEqDiff, pc]
        refine CallT.mk (iadd_n (x.num * y.den) (y.num * x.den) (by omega) (by omega)) ?_
        simp (maxSteps := 10000000) only [↓sx, sx, ↓ty, ↓reduceIte, Nat.reduceEqDiff, Nat.reduceAdd, ne_eq, not_false_eq_true, pc, ls, Nat.reduceAdd]
        refine CallT.mk (nmul_n x.den y.den (by omega) (by omega)) ?_
        simp (maxSteps := 10000000) only [↓sx, sx, ↓reduceIte, Nat.reduceEqDiff, pc]
        refine CallT.mk (lowestp_n (x.num * y.den + y.num * x.den) (x.den * y.den) (x + y) hd0 (by omega) (by omega) (Rat.add_def x y).symm) ?_
        simp (maxSteps := 10000000) only [↓sx, sx, ↓ty, ↓reduceIte, Nat.reduceEqDiff, Nat.reduceAdd, ls, bs, and_self, Nat.reduceAdd, Nat.le_refl, pd]
    | true =>
      refine CallT.mk (flittle_s x hsx) ?_
      simp (maxSteps := 10000000) only [↓sx, sx, ↓ty, ↓reduceIte, Nat.reduceEqDiff, Nat.reduceAdd, pc, ls, Nat.reduceAdd, Nat.le_refl]
      have hsy : shortQ y = false := by cases h : shortQ y with | false => rfl | true => exact absurd ⟨hsx, h⟩ hb
      refine CallT.mk (flittle_l y hsy) ?_
      simp (maxSteps := 10000000) only [↓sx, sx, ↓ty, ↓reduceIte, Nat.reduceEqDiff, Nat.reduceAdd, Nat.reduceLT, ne_eq, not_false_eq_true, pc, ls, Nat.reduceAdd]
      refine CallT.to (imul_n x.num (y.den : Int) (by omega) (by rw [Int.natAbs_natCast]; omega)) (by rw [siP_nat]; rfl) ?_
      simp (maxSteps := 10000000) only [↓sx, sx, ↓ty, ↓reduceIte, Nat.reduceEqDiff, Nat.reduceAdd, ne_eq, not_false_eq_true, pc, ls, Nat.reduceAdd]
      refine CallT.to (imul_n y.num (x.den : Int) (by omega) (by rw [Int.natAbs_natCast]; omega)) (by rw [siP_nat]; rfl) ?_
      simp (maxSteps := 10000000) only [↓sx, sx, ↓reduceIte, Nat.reduceEqDiff, pc]
      refine CallT.mk (iadd_n (x.num * y.den) (y.num * x.den) (by omega) (by omega)) ?_
      simp (maxSteps := 10000000) only [↓sx, sx, ↓ty, ↓reduceIte, Nat.reduceEqDiff, Nat.reduceAdd, ne_eq, not_false_eq_true, pc, ls, Nat.reduceAdd]
      refine CallT.mk (nmul_n x.den y.den (by omega) (by omega)) ?_
      simp (maxSteps := 10000000) only [↓sx, sx, ↓reduceIte, Nat.reduceEqDiff, pc]
      refine CallT.mk (lowestp_n (x.num * y.den + y.num * x.den) (x.den * y.den) (x + y) hd0 (by omega) (by omega) (Rat.add_def x y).symm) ?_
      simp (maxSteps := 10000000) only [↓sx, sx, ↓ty, ↓reduceIte, Nat.reduceEqDiff, Nat.reduceAdd, ls, bs, and_self, Nat.reduceAdd, Nat.le_refl, pd]
set_option maxRecDepth 100000 in
set_option maxHeartbeats 4000000 in
theorem ftimes_n (x y : Rat) (hx : Sz 20000 x) (hy : Sz 20000 y) : Meets Tryz.prog Gd 189 [frP x, frP y] (frP (x * y)) := by
  have a1 := hx.1
  have a2 := hx.2
  have a3 := hy.1
  have a4 := hy.2
  have b4 := Lw_mul x.den y.den
  have b6 := Lw_imul x.num y.num
  have hd0 := Nat.mul_ne_zero x.den_nz y.den_nz
  refine meets_of_vc (Y := {}) (N := 57) (rs := [.cell 4 55]) mix tk gd Tryz.func189 rfl (by kernel_rfl) rfl rfl (by simp) (by kernel_rfl) ?_
  simp (maxSteps := 10000000) only [↓sx, sx, ↓ty, ↓reduceIte, Nat.reduceEqDiff, Nat.reduceAdd, ls, Nat.reduceAdd, Nat.le_refl, pd]
  by_cases hb : shortQ x = true ∧ shortQ y = true
  · have s1 := shortQ_spec hb.1
    have s2 := shortQ_spec hb.2
    refine CallT.mk (flittle_s x hb.1) ?_
    simp (maxSteps := 10000000) only [↓sx, sx, ↓ty, ↓reduceIte, Nat.reduceEqDiff, Nat.reduceAdd, pc, ls, Nat.reduceAdd, Nat.le_refl]
    refine CallT.mk (flittle_s y hb.2) ?_
    simp (maxSteps := 10000000) only [↓sx, sx, ↓reduceIte, Nat.reduceEqDiff, Nat.reduceLT, pc]
    have m1 := scale_lt (a := x.num) (b := y.num) (k := 1000000000) (m := 1000000000) (by omega) (by omega) (by omega)
    have m3 := scale_lt (a := x.den) (b := y.den) (k := 1000000000) (m := 1000000000) (by omega) (by omega) (by omega)
    have m4 : (x.den : Int) * y.den = ((x.den * y.den : Nat) : Int) := by rw [Int.natCast_mul]
    obtain ⟨D, hD⟩ : ∃ D, D = x.den * y.den := ⟨_, rfl⟩
    have hD0 : D ≠ 0 := by rw [hD]; exact hd0
    obtain ⟨X, hX⟩ : ∃ X, X = x.num * y.num := ⟨_, rfl⟩
    have hdef : Rat.normalize X D hD0 = x * y := by subst hD hX; exact (Rat.mul_def x y).symm
    rw [m4, ← hD] at m3 ⊢
    rw [← hX] at m1 ⊢
    clear hD hX m4 b4 b6 hd0
    rw [i64_id (x := X) (by omega) (by omega), i64_id (x := (D : Int)) (by omega) (by omega)]
    refine CallT.mk (fof_n X D (x * y) hD0 (by omega) (by omega) hdef) ?_
    simp (maxSteps := 10000000) only [↓sx, sx, ↓ty, ↓reduceIte, Nat.reduceEqDiff, Nat.reduceAdd, ls, bs, and_self, Nat.reduceAdd, Nat.le_refl, pd]
  · cases hsx : shortQ x with
    | false =>
      refine CallT.mk (flittle_l x hsx) ?_
      simp (maxSteps := 10000000) only [↓sx, sx, ↓ty, ↓reduceIte, Nat.reduceEqDiff, Nat.reduceAdd, pc, ls, Nat.reduceAdd, Nat.le_refl]
      cases hsy : shortQ y with
      | false =>
        refine CallT.mk (flittle_l y hsy) ?_
        simp (maxSteps := 10000000) only [↓sx, sx, ↓ty, ↓reduceIte, Nat.reduceEqDiff, Nat.reduceAdd, Nat.reduceLT, ne_eq, not_false_eq_true, pc, ls, Nat.reduceAdd]
        refine CallT.mk (imul_n x.num y.num (by omega) (by omega)) ?_
        simp (maxSteps := 10000000) only [↓sx, sx, ↓ty, ↓reduceIte, Nat.reduceEqDiff, Nat.reduceAdd, ne_eq, not_false_eq_true, pc, ls, Nat.reduceAdd]
        refine CallT.mk (nmul_n x.den y.den (by omega) (by omega)) ?_
        simp (maxSteps := 10000000) only [↓sx, sx, ↓reduceIte, Nat.reduceEqDiff, pc]
        refine CallT.mk (lowestp_n (x.num * y.num) (x.den * y.den) (x * y) hd0 (by omega) (by omega) (Rat.mul_def x y).symm) ?_
        simp (maxSteps := 10000000) only [↓sx, sx, ↓ty, ↓reduceIte, Nat.reduceEqDiff, Nat.reduceAdd, ls, bs, and_self, Nat.reduceAdd, Nat.le_refl, pd]
      | true =>
        refine CallT.mk (flittle_s y hsy) ?_
        simp (maxSteps := 10000000) only [↓sx, sx, ↓ty, ↓reduceIte, Nat.reduceEqDiff, Nat.reduceAdd, Nat.reduceLT, ne_eq, not_false_eq_true, pc, ls, Nat.reduceAdd]
        refine CallT.mk (imul_n x.num y.num (by omega) (by omega)) ?_
        simp (maxSteps := 10000000) only [↓sx, sx, ↓ty, ↓reduceIte, Nat.reduceEqDiff, Nat.reduceAdd, ne_eq, not_false_eq_true, pc, ls, Nat.reduceAdd]
        refine CallT.mk (nmul_n x.den y.den (by omega) (by omega)) ?_
        simp (maxSteps := 10000000) only [↓sx, sx, ↓reduceIte, Nat.reduceEqDiff, pc]
        refine CallT.mk (lowestp_n (x.num * y.num) (x.den * y.den) (x * y) hd0 (by omega) (by omega) (Rat.mul_def x y).symm) ?_
        simp (maxSteps := 10000000) only [↓sx, sx, ↓ty, ↓reduceIte, Nat.reduceEqDiff, Nat.reduceAdd, ls, bs, and_self, Nat.reduceAdd, Nat.le_refl, pd]
    | true =>
      refine CallT.mk (flittle_s x hsx) ?_
      simp (maxSteps := 10000000) only [↓sx, sx, ↓ty, ↓reduceIte, Nat.reduceEqDiff, Nat.reduceAdd, pc, ls, Nat.reduceAdd, Nat.le_refl]
      have hsy : shortQ y = false := by cases h : shortQ y with | false => rfl | true => exact absurd ⟨hsx, h⟩ hb
      refine CallT.mk (flittle_l y hsy) ?_
      simp (maxSteps := 10000000) only [↓sx, sx, ↓ty, ↓reduceIte, Nat.reduceEqDiff, Nat.reduceAdd, Nat.reduceLT, ne_eq, not_false_eq_true, pc, ls, Nat.reduceAdd]
      refine CallT.mk (imul_n x.num y.num (by omega) (by omega)) ?_
      simp (maxSteps := 10000000) only [↓sx, sx, ↓ty, ↓reduceIte, Nat.reduceEqDiff, Nat.reduceAdd, ne_eq, not_false_eq_true, pc, ls, Nat.reduceAdd]
      refine CallT.mk (nmul_n x.den y.den (by omega) (by omega)) ?_
      simp (maxSteps := 10000000) only [↓sx, sx, ↓reduceIte, Nat.reduceEqDiff, pc]
      refine CallT.mk (lowestp_n (x.num * y.num) (x.den * y.den) (x * y) hd0 (by omega) (by omega) (Rat.mul_def x y).symm) ?_
      simp (maxSteps := 10000000) only [↓sx, sx, ↓ty, ↓reduceIte, Nat.reduceEqDiff, Nat.reduceAdd, ls, bs, and_self, Nat.reduceAdd, Nat.le_refl, pd]
set_option maxRecDepth 100000 in
theorem fminus_n (x y : Rat) (hx : Sz 20000 x) (hy : Sz 20000 y) : Meets Tryz.prog Gd 190 [frP x, frP y] (frP (x - y)) := by
  refine meets_of_vc (Y := {}) (N := 9) (rs := [.cell 4 55]) mix tk gd Tryz.func190 rfl (by kernel_rfl) rfl rfl (by simp) (by kernel_rfl) ?_
  simp (maxSteps := 10000000) only [↓sx, sx, ↓ty, ↓reduceIte, Nat.reduceEqDiff, Nat.reduceAdd, ls, Nat.reduceAdd, Nat.le_refl, pd]
  refine CallT.mk (fopp_n y (hy.mono (by omega))) ?_
  simp (maxSteps := 10000000) only [↓sx, sx, ↓reduceIte, Nat.reduceEqDiff, pd]
  refine CallT.mk (fplus_n x (-y) hx hy.neg) ?_
  simp (maxSteps := 10000000) only [↓sx, sx, ↓ty, ↓reduceIte, Nat.reduceEqDiff, Nat.reduceAdd, ls, bs, and_self, Nat.reduceAdd, Nat.le_refl, pd]
  rw [Rat.sub_eq_add_neg]
set_option maxRecDepth 100000 in
theorem fdiv_n (x y : Rat) (hx : Sz 20000 x) (hy : Sz 20000 y) (h0 : y ≠ 0) : Meets Tryz.prog Gd 191 [frP x, frP y] (frP (x / y)) := by
  refine meets_of_vc (Y := {}) (N := 9) (rs := [.cell 4 55]) mix tk gd Tryz.func191 rfl (by kernel_rfl) rfl rfl (by simp) (by kernel_rfl) ?_
  simp (maxSteps := 10000000) only [↓sx, sx, ↓ty, ↓reduceIte, Nat.reduceEqDiff, Nat.reduceAdd, ls, Nat.reduceAdd, Nat.le_refl, pd]
  refine CallT.mk (finv_n y (hy.mono (by omega)) h0) ?_
  simp (maxSteps := 10000000) only [↓sx, sx, ↓reduceIte, Nat.reduceEqDiff, pd]
  refine CallT.mk (ftimes_n x y⁻¹ hx (hy.inv (by omega))) ?_
  simp (maxSteps := 10000000) only [↓sx, sx, ↓ty, ↓reduceIte, Nat.reduceEqDiff, Nat.reduceAdd, ls, bs, and_self, Nat.reduceAdd, Nat.le_refl, pd]
  rw [Rat.div_def]
end Go.Proofs.YtfbmphbmidlijaaGreatDoor.S
namespace Gb
open Go Go.Sx
theorem fr_of {l : List UInt8} (h : isRat l = true) : frP (ratOf l) = .agg [strP (splitM l).1, strP (splitM l).2.1] := by
  obtain ⟨h1, h2, _⟩ := isRat_spec h
  obtain ⟨e1, e2⟩ := ratOf_spec h
  unfold frP siP dP
  rw [e1, e2, iD_intOf h1, dec_natOf h2]
theorem Sz.of {l : List UInt8} {k : Nat} (h : isRat l = true) (hk : l.length ≤ 9 * k) : Sz (k + 1) (ratOf l) := (Sz.text h).mono (by omega)
def fr0 : PV := .agg [.val (.string ⟨#[]⟩), .val (.string ⟨#[]⟩)]
end Gb
namespace Go.Proofs.YtfbmphbmidlijaaGreatDoor.S
open Go Go.Sx Go.RowKit Gb Go.Shelf
set_option maxRecDepth 100000 in
theorem both_ok (a b : List UInt8) (ha : a.length < 90000) (hb : b.length < 90000) (h1 : isRat a = true) (h2 : isRat b = true) : Meets Tryz.prog Gd 59 [strP a, strP b] (.tup [frP (ratOf a), frP (ratOf b), iP 0]) := by
  refine meets_of_vc (Y := { ex := [5] }) (N := 31) (rs := [.cell 4 55, .cell 5 55, .tmp 6]) mix tk gd Tryz.func59 rfl (by kernel_rfl) rfl rfl (by simp) (by kernel_rfl) ?_
  simp (maxSteps := 10000000) only [↓sx, sx, ↓ty, ↓reduceIte, Nat.reduceEqDiff, pc]
  refine CallT.mk (fread_n a (by omega)) ?_
  rw [h1, ← fr_of h1]
  simp (maxSteps := 10000000) only [↓sx, sx, ↓ty, ↓reduceIte, Nat.reduceEqDiff, Nat.reduceAdd, pc, ls, bs, and_self, Nat.reduceAdd, Nat.le_refl, pd]
  refine CallT.mk (fread_n b (by omega)) ?_
  rw [h2, ← fr_of h2]
  simp (maxSteps := 10000000) only [↓sx, sx, ↓ty, ↓reduceIte, Nat.reduceEqDiff, Nat.reduceAdd, Nat.reduceLT, pc, ls, bs, and_self, Nat.reduceAdd, Nat.le_refl, pd]
  first | exact ⟨by kernel_rfl, rfl⟩ | kernel_rfl
set_option maxRecDepth 100000 in
theorem both_no (a b : List UInt8) (ha : a.length < 90000) (hb : b.length < 90000) (h : (isRat a && isRat b) = false) : Meets Tryz.prog Gd 59 [strP a, strP b] (.tup [fr0, fr0, iP 1]) := by
  refine meets_of_vc (Y := { ex := [5] }) (N := 31) (rs := [.cell 4 55, .cell 5 55, .tmp 6]) mix tk gd Tryz.func59 rfl (by kernel_rfl) rfl rfl (by simp) (by kernel_rfl) ?_
  simp (maxSteps := 10000000) only [↓sx, sx, ↓ty, ↓reduceIte, Nat.reduceEqDiff, pc]
  refine CallT.mk (fread_n a (by omega)) ?_
  simp (maxSteps := 10000000) only [↓sx, sx, ↓ty, ↓reduceIte, Nat.reduceEqDiff, Nat.reduceAdd, pc, ls, bs, and_self, Nat.reduceAdd, Nat.le_refl]
  refine CallT.mk (fread_n b (by omega)) ?_
  cases h1 : isRat a with
  | false =>
    simp (maxSteps := 10000000) only [↓sx, sx, ↓ty, ↓reduceIte, Nat.reduceEqDiff, Nat.reduceAdd, Nat.reduceLT, pc, ls, bs, and_self, Nat.reduceAdd, Nat.le_refl]
    rfl
  | true =>
    rw [h1, Bool.true_and] at h
    rw [h]
    simp (maxSteps := 10000000) only [↓sx, sx, ↓ty, ↓reduceIte, Nat.reduceEqDiff, Nat.reduceAdd, Nat.reduceLT, pc, ls, bs, and_self, Nat.reduceAdd, Nat.le_refl]
    rfl
set_option maxRecDepth 100000 in
set_option maxHeartbeats 4000000 in
theorem apply_ok (op : Int) (g : FuncId) (a b : List UInt8) (r : Rat) (ha : a.length < 90000) (hb : b.length < 90000) (h1 : isRat a = true) (h2 : isRat b = true) (hg : mpGet opsL op = some g) (hm : Meets Tryz.prog Gd g [frP (ratOf a), frP (ratOf b)] (frP r)) (hz : op ≠ 47 ∨ ratOf b ≠ 0) (hr : Sz 50000 r) :
    Meets Tryz.prog Gd 64 [.val (.int .u8 op), strP a, strP b] (.tup [rtP r, iP 0]) := by
  refine meets_of_vc (Y := {}) (N := 37) (rs := [.tmp 6, .tmp 7]) mix tk gd Tryz.func64 rfl (by kernel_rfl) rfl rfl (by simp) (by kernel_rfl) ?_
  simp (maxSteps := 10000000) only [↓sx, sx, ↓reduceIte, Nat.reduceEqDiff, pc]
  refine CallT.mk (both_ok a b ha hb h1 h2) ?_
  by_cases h47 : op = 47
  · subst h47
    have hb0 : ((ratOf b).num = 0) = False := by simp; simpa using hz
    simp (maxSteps := 10000000) only [↓sx, sx, ↓ty, ↓reduceIte, Nat.reduceEqDiff, Nat.reduceAdd, Nat.reduceLT, Int.reduceBNe, Int.reduceBEq, ne_eq, not_false_eq_true, pc, ls, bs, and_self, Nat.reduceAdd, Nat.le_refl, pd, iD_eq0, hb0, decide_false]
    refine CallT.mk (t := ⟨⟩) all_n ?_
    simp (maxSteps := 10000000) only [↓sx, sx, ↓ty, ↓reduceIte, Nat.reduceEqDiff, Nat.reduceAdd, ls, Nat.reduceAdd, Nat.le_refl, hg]
    refine CallT.mk hm ?_
    simp (maxSteps := 10000000) only [↓sx, sx, ↓reduceIte, pd]
    refine CallT.mk (ftext_n r hr) ?_
    simp (maxSteps := 10000000) only [↓sx, sx, ↓reduceIte, Nat.reduceEqDiff, pc]
  · have e1 : (op == 47) = false := by simpa using h47
    simp (maxSteps := 10000000) only [↓sx, sx, ↓ty, ↓reduceIte, Nat.reduceEqDiff, Nat.reduceAdd, Nat.reduceLT, Int.reduceBNe, pc, ls, bs, and_self, Nat.reduceAdd, Nat.le_refl, pd, e1]
    refine CallT.mk (t := ⟨⟩) all_n ?_
    simp (maxSteps := 10000000) only [↓sx, sx, ↓ty, ↓reduceIte, Nat.reduceEqDiff, Nat.reduceAdd, ls, Nat.reduceAdd, Nat.le_refl, hg]
    refine CallT.mk hm ?_
    simp (maxSteps := 10000000) only [↓sx, sx, ↓reduceIte, pd]
    refine CallT.mk (ftext_n r hr) ?_
    simp (maxSteps := 10000000) only [↓sx, sx, ↓reduceIte, Nat.reduceEqDiff, pc]
set_option maxRecDepth 100000 in
set_option maxHeartbeats 4000000 in
theorem apply_no (op : Int) (a b : List UInt8) (ha : a.length < 90000) (hb : b.length < 90000) (h : (isRat a && isRat b) = false) :
    Meets Tryz.prog Gd 64 [.val (.int .u8 op), strP a, strP b] (.tup [strP [], iP 1]) := by
  refine meets_of_vc (Y := {}) (N := 37) (rs := [.tmp 6, .tmp 7]) mix tk gd Tryz.func64 rfl (by kernel_rfl) rfl rfl (by simp) (by kernel_rfl) ?_
  simp (maxSteps := 10000000) only [↓sx, sx, ↓reduceIte, Nat.reduceEqDiff, pc]
  refine CallT.mk (both_no a b ha hb h) ?_
  simp (maxSteps := 10000000) only [↓sx, sx, ↓ty, ↓reduceIte, Nat.reduceEqDiff, Nat.reduceAdd, Int.reduceBNe, pc, ls, bs, and_self, Nat.reduceAdd, Nat.le_refl, fr0]
set_option maxRecDepth 100000 in
set_option maxHeartbeats 4000000 in
theorem apply_zero (a b : List UInt8) (ha : a.length < 90000) (hb : b.length < 90000) (h1 : isRat a = true) (h2 : isRat b = true) (hz : ratOf b = 0) :
    Meets Tryz.prog Gd 64 [.val (.int .u8 47), strP a, strP b] (.tup [strP [], iP 16]) := by
  refine meets_of_vc (Y := {}) (N := 37) (rs := [.tmp 6, .tmp 7]) mix tk gd Tryz.func64 rfl (by kernel_rfl) rfl rfl (by simp) (by kernel_rfl) ?_
  simp (maxSteps := 10000000) only [↓sx, sx, ↓reduceIte, Nat.reduceEqDiff, pc]
  refine CallT.mk (both_ok a b ha hb h1 h2) ?_
  rw [hz]
  have e0 : (Rat.num 0 = 0) = True := by simp
  simp (maxSteps := 10000000) only [↓sx, sx, ↓ty, ↓reduceIte, Nat.reduceEqDiff, Nat.reduceAdd, Nat.reduceLT, Int.reduceBNe, Int.reduceBEq, ne_eq, not_false_eq_true, pc, ls, bs, and_self, Nat.reduceAdd, Nat.le_refl, pd, iD_eq0, e0, decide_true]
end Go.Proofs.YtfbmphbmidlijaaGreatDoor.S
namespace Gb
open Go Go.Sx
def ropP (f : Rat → Rat → Rat) (a b : List UInt8) : PV := if isRat a && isRat b then .tup [rtP (f (ratOf a) (ratOf b)), iP 0] else .tup [strP [], iP 1]
def rdivP (a b : List UInt8) : PV := if isRat a && isRat b then (if ratOf b = 0 then .tup [strP [], iP 16] else .tup [rtP (ratOf a / ratOf b), iP 0]) else .tup [strP [], iP 1]
def rcmpP (a b : List UInt8) : PV := if isRat a && isRat b then .tup [iP (ratOf a - ratOf b).num.sign, iP 0] else .tup [iP 0, iP 1]
def rfloorP (a : List UInt8) : PV := if isRat a then .tup [siP (ratOf a).floor, iP 0] else .tup [strP [], iP 1]
def rmakeP (a b : List UInt8) : PV := if isInt a && isInt b then (if intOf b = 0 then .tup [strP [], iP 16] else .tup [rtP (Rat.divInt (intOf a) (intOf b)), iP 0]) else .tup [strP [], iP 1]
theorem and_split {a b : Bool} (h : (a && b) = true) : a = true ∧ b = true := by simpa using h
theorem sz_ok {l : List UInt8} (h : isRat l = true) (hl : l.length < 90000) : Sz 10001 (ratOf l) := Sz.of h (by omega)
end Gb
namespace Go.Proofs.YtfbmphbmidlijaaGreatDoor.S
open Go Go.Sx Go.RowKit Gb Go.Shelf
set_option maxRecDepth 100000 in
theorem radd_n (a b : List UInt8) (ha : a.length < 90000) (hb : b.length < 90000) : Meets Tryz.prog Gd 21 [strP a, strP b] (ropP (· + ·) a b) := by
  refine meets_of_vc (Y := {}) (N := 11) (rs := [.tmp 4, .tmp 5]) mix tk gd Tryz.func21 rfl (by kernel_rfl) rfl rfl (by simp) (by kernel_rfl) ?_
  unfold ropP
  cases h : (isRat a && isRat b) with
  | true =>
    obtain ⟨h1, h2⟩ := and_split h
    have s1 := sz_ok h1 ha
    have s2 := sz_ok h2 hb
    simp (maxSteps := 10000000) only [↓sx, sx, ↓reduceIte, Nat.reduceEqDiff, pc]
    refine CallT.mk (apply_ok 43 _ a b (ratOf a + ratOf b) ha hb h1 h2 rfl (fplus_n _ _ (s1.mono (by omega)) (s2.mono (by omega))) (.inl (by decide)) ((s1.add s2).mono (by omega))) ?_
    simp (maxSteps := 10000000) only [↓sx, sx, ↓reduceIte, Nat.reduceEqDiff, pc]
  | false =>
    simp (maxSteps := 10000000) only [↓sx, sx, ↓reduceIte, Nat.reduceEqDiff, pc]
    refine CallT.mk (apply_no 43 a b ha hb h) ?_
    simp (maxSteps := 10000000) only [↓sx, sx, ↓reduceIte, Nat.reduceEqDiff, pc]
set_option maxRecDepth 100000 in
theorem rmul_n (a b : List UInt8) (ha : a.length < 90000) (hb : b.length < 90000) : Meets Tryz.prog Gd 25 [strP a, strP b] (ropP (· * ·) a b) := by
  refine meets_of_vc (Y := {}) (N := 11) (rs := [.tmp 4, .tmp 5]) mix tk gd Tryz.func25 rfl (by kernel_rfl) rfl rfl (by simp) (by kernel_rfl) ?_
  unfold ropP
  cases h : (isRat a && isRat b) with
  | true =>
    obtain ⟨h1, h2⟩ := and_split h
    have s1 := sz_ok h1 ha
    have s2 := sz_ok h2 hb
    simp (maxSteps := 10000000) only [↓sx, sx, ↓reduceIte, Nat.reduceEqDiff, pc]
    refine CallT.mk (apply_ok 42 _ a b (ratOf a * ratOf b) ha hb h1 h2 rfl (ftimes_n _ _ (s1.mono (by omega)) (s2.mono (by omega))) (.inl (by decide)) ((s1.mul s2).mono (by omega))) ?_
    simp (maxSteps := 10000000) only [↓sx, sx, ↓reduceIte, Nat.reduceEqDiff, pc]
  | false =>
    simp (maxSteps := 10000000) only [↓sx, sx, ↓reduceIte, Nat.reduceEqDiff, pc]
    refine CallT.mk (apply_no 42 a b ha hb h) ?_
    simp (maxSteps := 10000000) only [↓sx, sx, ↓reduceIte, Nat.reduceEqDiff, pc]
set_option maxRecDepth 100000 in
theorem rsub_n (a b : List UInt8) (ha : a.length < 90000) (hb : b.length < 90000) : Meets Tryz.prog Gd 23 [strP a, strP b] (ropP (· - ·) a b) := by
  refine meets_of_vc (Y := {}) (N := 11) (rs := [.tmp 4, .tmp 5]) mix tk gd Tryz.func23 rfl (by kernel_rfl) rfl rfl (by simp) (by kernel_rfl) ?_
  unfold ropP
  cases h : (isRat a && isRat b) with
  | true =>
    obtain ⟨h1, h2⟩ := and_split h
    have s1 := sz_ok h1 ha
    have s2 := sz_ok h2 hb
    simp (maxSteps := 10000000) only [↓sx, sx, ↓reduceIte, Nat.reduceEqDiff, pc]
    refine CallT.mk (apply_ok 45 _ a b (ratOf a - ratOf b) ha hb h1 h2 rfl (fminus_n _ _ (s1.mono (by omega)) (s2.mono (by omega))) (.inl (by decide)) ((s1.sub s2).mono (by omega))) ?_
    simp (maxSteps := 10000000) only [↓sx, sx, ↓reduceIte, Nat.reduceEqDiff, pc]
  | false =>
    simp (maxSteps := 10000000) only [↓sx, sx, ↓reduceIte, Nat.reduceEqDiff, pc]
    refine CallT.mk (apply_no 45 a b ha hb h) ?_
    simp (maxSteps := 10000000) only [↓sx, sx, ↓reduceIte, Nat.reduceEqDiff, pc]
set_option maxRecDepth 100000 in
theorem rdiv_n (a b : List UInt8) (ha : a.length < 90000) (hb : b.length < 90000) : Meets Tryz.prog Gd 27 [strP a, strP b] (rdivP a b) := by
  refine meets_of_vc (Y := {}) (N := 11) (rs := [.tmp 4, .tmp 5]) mix tk gd Tryz.func27 rfl (by kernel_rfl) rfl rfl (by simp) (by kernel_rfl) ?_
  unfold rdivP
  cases h : (isRat a && isRat b) with
  | true =>
    obtain ⟨h1, h2⟩ := and_split h
    have s1 := sz_ok h1 ha
    have s2 := sz_ok h2 hb
    by_cases hz : ratOf b = 0
    · rw [if_pos hz]
      simp (maxSteps := 10000000) only [↓sx, sx, ↓reduceIte, Nat.reduceEqDiff, pc]
      refine CallT.mk (apply_zero a b ha hb h1 h2 hz) ?_
      simp (maxSteps := 10000000) only [↓sx, sx, ↓reduceIte, Nat.reduceEqDiff, pc]
    · rw [if_neg hz]
      simp (maxSteps := 10000000) only [↓sx, sx, ↓reduceIte, Nat.reduceEqDiff, pc]
      refine CallT.mk (apply_ok 47 _ a b (ratOf a / ratOf b) ha hb h1 h2 rfl (fdiv_n _ _ (s1.mono (by omega)) (s2.mono (by omega)) hz) (.inr hz) ((s1.div s2 (by omega)).mono (by omega))) ?_
      simp (maxSteps := 10000000) only [↓sx, sx, ↓reduceIte, Nat.reduceEqDiff, pc]
  | false =>
    simp (maxSteps := 10000000) only [↓sx, sx, ↓reduceIte, Nat.reduceEqDiff, pc]
    refine CallT.mk (apply_no 47 a b ha hb h) ?_
    simp (maxSteps := 10000000) only [↓sx, sx, ↓reduceIte, Nat.reduceEqDiff, pc]
set_option maxRecDepth 100000 in
theorem rvalid_n (l : List UInt8) (hl : l.length < 300000) : Meets Tryz.prog Gd 17 [strP l] (.val (.bool (isRat l))) := by
  refine meets_of_vc (Y := {}) (N := 11) (rs := [.tmp 2]) mix tk gd Tryz.func17 rfl (by kernel_rfl) rfl rfl (by simp) (by kernel_rfl) ?_
  simp (maxSteps := 10000000) only [↓sx, sx, ↓reduceIte, Nat.reduceEqDiff, pc]
  refine CallT.mk (fread_n l hl) ?_
  simp (maxSteps := 10000000) only [↓sx, sx, ↓ty, ↓reduceIte, Nat.reduceEqDiff, Nat.reduceAdd, pc, ls, bs, and_self, Nat.reduceAdd, Nat.le_refl]
set_option maxRecDepth 100000 in
theorem rfloor_n (l : List UInt8) (hl : l.length < 90000) : Meets Tryz.prog Gd 29 [strP l] (rfloorP l) := by
  refine meets_of_vc (Y := {}) (N := 15) (rs := [.tmp 2, .tmp 3]) mix tk gd Tryz.func29 rfl (by kernel_rfl) rfl rfl (by simp) (by kernel_rfl) ?_
  unfold rfloorP
  simp (maxSteps := 10000000) only [↓sx, sx, ↓reduceIte, Nat.reduceEqDiff, pc]
  refine CallT.mk (fread_n l (by omega)) ?_
  cases h : isRat l with
  | true =>
    rw [← fr_of h]
    simp (maxSteps := 10000000) only [↓sx, sx, ↓ty, ↓reduceIte, Nat.reduceEqDiff, Nat.reduceAdd, ls, bs, and_self, Nat.reduceAdd, Nat.le_refl, pd]
    refine CallT.mk (ffloor_n (ratOf l) ((sz_ok h hl).mono (by omega))) ?_
    simp (maxSteps := 10000000) only [↓sx, sx, ↓reduceIte, Nat.reduceEqDiff, pc]
  | false =>
    simp (maxSteps := 10000000) only [↓sx, sx, ↓ty, ↓reduceIte, Nat.reduceEqDiff, Nat.reduceAdd, pc, ls, bs, and_self, Nat.reduceAdd, Nat.le_refl]
end Go.Proofs.YtfbmphbmidlijaaGreatDoor.S
namespace Gb
open Go Go.Sx
theorem sub_self_sign (x : Rat) : (x - x).num.sign = 0 := by rw [Rat.sub_self]; rfl
theorem cut_sign {s t : Int} (hs : s = -1 ∨ s = 0 ∨ s = 1) (ht : t = -1 ∨ t = 0 ∨ t = 1) (h : s ≠ t) :
    (if (if 1 < s - t then (1 : Int) else s - t) > -1 then (if 1 < s - t then (1 : Int) else s - t) else -1) = if s < t then -1 else 1 := by
  rcases hs with rfl | rfl | rfl <;> rcases ht with rfl | rfl | rfl <;> first | (exact absurd rfl h) | decide
theorem sign_3 (z : Int) : z.sign = -1 ∨ z.sign = 0 ∨ z.sign = 1 := by
  rcases Int.lt_trichotomy z 0 with h | h | h
  · exact .inl (Int.sign_eq_neg_one_of_neg h)
  · exact .inr (.inl (by rw [h]; rfl))
  · exact .inr (.inr (Int.sign_eq_one_of_pos h))
theorem sign_key (x y : Rat) : x.num.sign ≠ y.num.sign → (x - y).num.sign = if x.num.sign < y.num.sign then -1 else 1 := by
  have hsx : ∀ z : Int, ∀ d : Nat, d ≠ 0 → (z * d).sign = z.sign := by
    intro z d hd
    rw [Int.sign_mul, Int.sign_eq_one_of_pos (show (0 : Int) < d by omega), Int.mul_one]
  have hcx := hsx x.num y.den y.den_nz
  have hcy := hsx y.num x.den x.den_nz
  rw [sub_sign_num, ← hcx, ← hcy]
  generalize x.num * (y.den : Int) = a
  generalize y.num * (x.den : Int) = b
  intro h
  rcases Int.lt_trichotomy a 0 with h1 | h1 | h1 <;> rcases Int.lt_trichotomy b 0 with h2 | h2 | h2 <;>
    simp [h1, h2, Int.sign_eq_neg_one_of_neg, Int.sign_eq_one_of_pos] at h ⊢ <;> omega
theorem cutM_iD (z : Int) : cutM (iD z) = (Lib.decDigits z.natAbs, decide (z < 0)) := by
  unfold iD
  by_cases h : z < 0
  · rw [if_pos h, cutM_cons, if_pos rfl]; simp [h]
  · rw [if_neg h]
    cases hl : Lib.decDigits z.natAbs with
    | nil => simp [h]; rfl
    | cons c r =>
      have := isNat_head (c := c) (r := r) (by rw [← hl]; exact isNat_dec _)
      rw [cutM_cons, if_neg this]; simp [h]
theorem norm_divInt (x : Int) {y : Int} (h : 0 < y) : Rat.normalize x y.natAbs (by omega) = Rat.divInt x y := by
  obtain ⟨q, rfl⟩ : ∃ q : Nat, y = q := ⟨y.natAbs, by omega⟩
  rw [Rat.normalize_eq_mkRat]
  simp
theorem norm_divInt_neg (x : Int) {y : Int} (h : y < 0) : Rat.normalize (-x) y.natAbs (by omega) = Rat.divInt x y := by
  cases y with
  | ofNat n => exact absurd h (by simp)
  | negSucc q => rfl
end Gb
namespace Go.Proofs.YtfbmphbmidlijaaGreatDoor.S
open Go Go.Sx Go.RowKit Gb Go.Shelf
set_option maxRecDepth 100000 in
set_option maxHeartbeats 4000000 in
theorem rcmp_n (a b : List UInt8) (ha : a.length < 90000) (hb : b.length < 90000) : Meets Tryz.prog Gd 19 [strP a, strP b] (rcmpP a b) := by
  refine meets_of_vc (Y := {}) (N := 63) (rs := [.tmp 4, .tmp 5]) mix tk gd Tryz.func19 rfl (by kernel_rfl) rfl rfl (by simp) (by kernel_rfl) ?_
  unfold rcmpP
  cases h : (isRat a && isRat b) with
  | false =>
    simp (maxSteps := 10000000) only [↓sx, sx, ↓reduceIte, Nat.reduceEqDiff, pc]
    refine CallT.mk (both_no a b ha hb h) ?_
    simp (maxSteps := 10000000) only [↓sx, sx, ↓ty, ↓reduceIte, Nat.reduceEqDiff, Nat.reduceAdd, Nat.reduceLT, Int.reduceBNe, pc, ls, bs, and_self, Nat.reduceAdd, Nat.le_refl, fr0]
  | true =>
    obtain ⟨h1, h2⟩ := and_split h
    have s1 := sz_ok h1 ha
    have s2 := sz_ok h2 hb
    have z1 := s1.1
    have z2 := s1.2
    have z3 := s2.1
    have z4 := s2.2
    simp (maxSteps := 10000000) only [↓sx, sx, ↓reduceIte, Nat.reduceEqDiff, pc]
    refine CallT.mk (both_ok a b ha hb h1 h2) ?_
    by_cases hab : a = b
    · subst hab
      have e1 : (a == a) = true := by simp
      simp (maxSteps := 10000000) only [↓sx, sx, ↓ty, ↓reduceIte, Nat.reduceEqDiff, Nat.reduceAdd, Nat.reduceLT, Int.reduceBNe, pc, ls, bs, and_self, Nat.reduceAdd, Nat.le_refl, pd, e1]
      rw [sub_self_sign]
    · have e1 : (a == b) = false := by simpa using hab
      simp (maxSteps := 10000000) only [↓sx, sx, ↓ty, ↓reduceIte, Nat.reduceEqDiff, Nat.reduceAdd, Nat.reduceLT, Int.reduceBNe, pc, ls, bs, and_self, Nat.reduceAdd, Nat.le_refl, pd, e1]
      refine CallT.mk (t := ⟨⟩) (fsign_n (ratOf a) (s1.mono (by omega))) ?_
      simp (maxSteps := 10000000) only [↓sx, sx, ↓ty, ↓reduceIte, Nat.reduceEqDiff, Nat.reduceAdd, ls, Nat.reduceAdd, Nat.le_refl]
      refine CallT.mk (t := ⟨⟩) (fsign_n (ratOf b) (s2.mono (by omega))) ?_
      by_cases hs : (ratOf a).num.sign = (ratOf b).num.sign
      · have e2 : ((ratOf a).num.sign != (ratOf b).num.sign) = false := by simpa using hs
        simp (maxSteps := 10000000) only [↓sx, sx, ↓ty, ↓reduceIte, Nat.reduceEqDiff, Nat.reduceAdd, ne_eq, not_false_eq_true, pc, ls, Nat.reduceAdd, e2]
        refine CallT.to (imul_n (ratOf a).num ((ratOf b).den : Int) (by omega) (by rw [Int.natAbs_natCast]; omega)) (by rw [siP_nat]; rfl) ?_
        simp (maxSteps := 10000000) only [↓sx, sx, ↓ty, ↓reduceIte, Nat.reduceEqDiff, Nat.reduceAdd, ne_eq, not_false_eq_true, pc, ls, Nat.reduceAdd]
        refine CallT.to (imul_n (ratOf b).num ((ratOf a).den : Int) (by omega) (by rw [Int.natAbs_natCast]; omega)) (by rw [siP_nat]; rfl) ?_
        simp (maxSteps := 10000000) only [↓sx, sx, ↓reduceIte, Nat.reduceEqDiff, pc]
        have l1 := Lw_imul (ratOf a).num (ratOf b).den
        have l2 := Lw_imul (ratOf b).num (ratOf a).den
        rw [Int.natAbs_natCast] at l1 l2
        refine CallT.mk (icompare_n ((ratOf a).num * (ratOf b).den) ((ratOf b).num * (ratOf a).den) (by omega) (by omega)) ?_
        simp (maxSteps := 10000000) only [↓sx, sx, ↓reduceIte, Nat.reduceEqDiff, pc]
        rw [sub_sign_num]
      · have e2 : ((ratOf a).num.sign != (ratOf b).num.sign) = true := by simpa using hs
        have k := sign_key (ratOf a) (ratOf b) hs
        have c := cut_sign (sign_3 _) (sign_3 _) hs
        have b1 := sign_3 (ratOf a).num
        have b2 := sign_3 (ratOf b).num
        simp (maxSteps := 10000000) only [↓sx, sx, ↓reduceIte, Nat.reduceEqDiff, pc, e2]
        rw [k, ← c, i64_id (x := (ratOf a).num.sign - (ratOf b).num.sign) (by omega) (by omega)]
set_option maxRecDepth 100000 in
set_option maxHeartbeats 4000000 in
theorem rmake_n (a b : List UInt8) (ha : a.length < 90000) (hb : b.length < 90000) : Meets Tryz.prog Gd 13 [strP a, strP b] (rmakeP a b) := by
  refine meets_of_vc (Y := {}) (N := 36) (rs := [.tmp 4, .tmp 5]) mix tk gd Tryz.func13 rfl (by kernel_rfl) rfl rfl (by simp) (by kernel_rfl) ?_
  unfold rmakeP
  simp (maxSteps := 10000000) only [↓sx, sx, ↓reduceIte, Nat.reduceEqDiff, pc]
  refine CallT.mk (ivalid_n a (by omega)) ?_
  cases h1 : isInt a with
  | false =>
    simp (maxSteps := 10000000) only [↓sx, sx, ↓reduceIte, Nat.reduceEqDiff, Nat.reduceLT, pc, and_self]
  | true =>
    simp (maxSteps := 10000000) only [↓sx, sx, ↓reduceIte, Nat.reduceEqDiff, Nat.reduceLT, pc]
    refine CallT.mk (ivalid_n b (by omega)) ?_
    cases h2 : isInt b with
    | false =>
      simp (maxSteps := 10000000) only [↓sx, sx, ↓reduceIte, Nat.reduceEqDiff, Nat.reduceLT, pc, and_self]
    | true =>
      obtain ⟨x, rfl⟩ : ∃ x, a = iD x := ⟨_, (iD_intOf h1).symm⟩
      obtain ⟨y, rfl⟩ : ∃ y, b = iD y := ⟨_, (iD_intOf h2).symm⟩
      rw [intOf_iD, intOf_iD]
      have lx := Lw_intOf h1
      have ly := Lw_intOf h2
      rw [intOf_iD] at lx ly
      by_cases hy : y = 0
      · have e1 : (iD y == [48]) = true := by rw [iD_eq0]; simp [hy]
        simp (maxSteps := 10000000) only [↓sx, sx, ↓reduceIte, Nat.reduceEqDiff, Nat.reduceLT, pc, e1]
        rw [if_pos hy]
      · have e1 : (iD y == [48]) = false := by rw [iD_eq0]; simp [hy]
        simp (maxSteps := 10000000) only [↓sx, sx, ↓reduceIte, Nat.reduceEqDiff, Nat.reduceLT, pc, e1]
        rw [if_neg hy]
        refine CallT.mk (t := ⟨⟩) (cutm_n (iD y)) ?_
        rw [cutM_iD]
        have e2 : (iD y).length < 90000 := hb
        by_cases hy0 : y < 0
        · simp only [hy0, decide_true]
          simp (maxSteps := 10000000) only [↓sx, sx, ↓reduceIte, Nat.reduceEqDiff, pc]
          refine CallT.mk (ineg_n x (by omega)) ?_
          simp (maxSteps := 10000000) only [↓sx, sx, ↓reduceIte, Nat.reduceEqDiff, pc]
          have q := norm_divInt_neg x hy0
          refine CallT.mk (lowestp_n (-x) y.natAbs _ (by omega) (by rw [Int.natAbs_neg]; omega) (by omega) q) ?_
          simp (maxSteps := 10000000) only [↓sx, sx, ↓reduceIte, pd]
          have sz : Sz 20000 (Rat.divInt x y) := by rw [← q]; exact Sz.norm _ (by rw [Int.natAbs_neg]; omega) (by omega)
          refine CallT.mk (ftext_n _ (sz.mono (by omega))) ?_
          simp (maxSteps := 10000000) only [↓sx, sx, ↓reduceIte, Nat.reduceEqDiff, pc]
        · simp only [hy0, decide_false]
          simp (maxSteps := 10000000) only [↓sx, sx, ↓reduceIte, Nat.reduceEqDiff, pc]
          have q := norm_divInt x (y := y) (by omega)
          have e3 : iD y = Lib.decDigits y.natAbs := by unfold iD; rw [if_neg hy0]
          refine CallT.to (lowestp_n x y.natAbs _ (by omega) (by omega) (by omega) q) (by rw [e3]; rfl) ?_
          simp (maxSteps := 10000000) only [↓sx, sx, ↓reduceIte, pd]
          have sz : Sz 20000 (Rat.divInt x y) := by rw [← q]; exact Sz.norm _ (by omega) (by omega)
          refine CallT.mk (ftext_n _ (sz.mono (by omega))) ?_
          simp (maxSteps := 10000000) only [↓sx, sx, ↓reduceIte, Nat.reduceEqDiff, pc]
end Go.Proofs.YtfbmphbmidlijaaGreatDoor.S
namespace Go.Proofs.YtfbmphbmidlijaaGreatDoor.S
open Go Go.Sx Go.RowKit Gb Go.Shelf
theorem rcmp_q (x y : Rat) (hx : Sz 4000 x) (hy : Sz 4000 y) : Meets Tryz.prog Gd 19 [rtP x, rtP y] (.tup [iP (x - y).num.sign, iP 0]) := by
  have := rcmp_n (rT x) (rT y) (by have := rT_len hx; omega) (by have := rT_len hy; omega)
  unfold rcmpP at this
  rw [isRat_rT, isRat_rT, ratOf_rT, ratOf_rT] at this
  exact this
end Go.Proofs.YtfbmphbmidlijaaGreatDoor.S
namespace Gb
open Go Go.RowKit Go.Sx
theorem rT_0 : rT 0 = [48] := by
  unfold rT
  rw [if_pos (show (0 : Rat).den = 1 from rfl)]
  show iD 0 = _
  unfold iD
  rw [if_neg (by decide)]
  exact dec_0
theorem rtP_0 : rtP 0 = .val (.string ⟨#[48]⟩) := by unfold rtP; rw [rT_0]; rfl
def e0 : PV := .val (.string ⟨#[]⟩)
theorem w4 : IntKind.i64.wrap 0 = 0 ∧ IntKind.i64.wrap 1 = 1 ∧ IntKind.i64.wrap 2 = 2 ∧ IntKind.i64.wrap 3 = 3 := by decide
end Gb
namespace Go.Proofs.YtfbmphbmidlijaaGreatDoor.S
open Go Go.Sx Go.RowKit Gb Go.Shelf
end Go.Proofs.YtfbmphbmidlijaaGreatDoor.S
namespace Gb
open Go Go.RowKit Go.Sx
theorem Sz0 (k : Nat) (hk : 1 ≤ k) : Sz k 0 := Sz.int (z := 0) (by rw [Int.natAbs_zero, Lw_zero]; omega) hk
end Gb
namespace Go.Proofs.YtfbmphbmidlijaaGreatDoor.S
open Go Go.Sx Go.RowKit Gb Go.Shelf
theorem rop_q {F : FuncId} {f : Rat → Rat → Rat} (h : ∀ a b : List UInt8, a.length < 90000 → b.length < 90000 → Meets Tryz.prog Gd F [strP a, strP b] (ropP f a b)) (x y : Rat) (hx : Sz 4000 x) (hy : Sz 4000 y) :
    Meets Tryz.prog Gd F [rtP x, rtP y] (.tup [rtP (f x y), iP 0]) := by
  have := h (rT x) (rT y) (by have := rT_len hx; omega) (by have := rT_len hy; omega)
  unfold ropP at this
  rw [isRat_rT, isRat_rT, ratOf_rT, ratOf_rT] at this
  exact this
end Go.Proofs.YtfbmphbmidlijaaGreatDoor.S
namespace Gb
open Go Go.RowKit Go.Sx
theorem rT_int (z : Int) : rT (z : Rat) = iD z := by unfold rT; rw [Rat.den_intCast, if_pos rfl, Rat.num_intCast]
theorem Lw_floor {x : Rat} {k : Nat} (h : Sz k x) : Lw x.floor.natAbs ≤ k + 2 := by
  have := h.1
  rw [Rat.floor_def]
  have := Lw_ediv x.num (x.den : Int) (by have := x.den_nz; omega)
  omega
end Gb
namespace Go.Proofs.YtfbmphbmidlijaaGreatDoor.S
open Go Go.Sx Go.RowKit Gb Go.Shelf
end Go.Proofs.YtfbmphbmidlijaaGreatDoor.S
namespace Gb
open Go Go.RowKit Go.Sx
end Gb
namespace Go.Proofs.YtfbmphbmidlijaaGreatDoor.S
open Go Go.Sx Go.RowKit Gb Go.Shelf
end Go.Proofs.YtfbmphbmidlijaaGreatDoor.S
namespace Gb
open Go Go.RowKit Go.Sx
def iqP (p : Rat × Rat) : PV := .agg [.val (.bool (decide (p.1.num < 0))), nP p.1.num.natAbs, nP p.1.den, .val (.bool (decide (p.2.num < 0))), nP p.2.num.natAbs, nP p.2.den]
theorem pj : ∀ p : Rat × Rat, iqP p = .agg [.val (.bool (decide (p.1.num < 0))), .sl (wl p.1.num.natAbs).length ((wl p.1.num.natAbs).map wv), .sl (wl p.1.den).length ((wl p.1.den).map wv),
  .val (.bool (decide (p.2.num < 0))), .sl (wl p.2.num.natAbs).length ((wl p.2.num.natAbs).map wv), .sl (wl p.2.den).length ((wl p.2.den).map wv)] := fun _ => rfl
def SzI (k : Nat) (p : Rat × Rat) : Prop := Sz k p.1 ∧ Sz k p.2
theorem SzI.mono {k m : Nat} {p : Rat × Rat} (h : SzI k p) (hm : k ≤ m) : SzI m p := ⟨h.1.mono hm, h.2.mono hm⟩
end Gb
namespace Go.Proofs.YtfbmphbmidlijaaGreatDoor.S
open Go Go.Sx Go.RowKit Gb Go.Shelf
end Go.Proofs.YtfbmphbmidlijaaGreatDoor.S
namespace Gb
open Go Go.RowKit Go.Sx
end Gb
namespace Gb
open Go Go.RowKit Go.Sx
def wi (p q : Rat × Rat) : Prop := p.1 ≤ q.1 ∧ q.1 ≤ q.2 ∧ q.2 ≤ p.2
end Gb
namespace Gb
open Go Go.RowKit Go.Sx
theorem siP_rt (n : Int) : siP n = rtP (n : Rat) := by unfold siP rtP; rw [rT_int]
theorem rtP_1 : rtP 1 = .val (.string ⟨#[49]⟩) := by
  have := siP_rt 1
  rw [show ((1 : Int) : Rat) = 1 from rfl] at this
  rw [← this]
  unfold siP strP
  rw [show iD 1 = [49] from by unfold iD; rw [if_neg (by decide)]; exact dec_1]
theorem Sz1 (k : Nat) (hk : 1 ≤ k) : Sz k 1 := Sz.int (z := 1) (Nat.le_trans (Lw_le (by decide)) hk) hk
end Gb
namespace Gb
open Go Go.RowKit Go.Sx
end Gb
namespace Gb
open Go Go.RowKit Go.Sx
theorem rep_zeros : ∀ c, Lib.repeatL [48] c = List.replicate c 48
  | 0 => rfl
  | c + 1 => by rw [Lib.repeatL, rep_zeros c]; rfl
theorem natOf_ten (c : Nat) : natOf (49 :: List.replicate c 48) = 10 ^ c := by
  rw [show (49 : UInt8) :: List.replicate c 48 = [49] ++ List.replicate c 48 from rfl, natOf_append, natOf_zeros, List.length_replicate]
  simp [natOf]
theorem Lw_ten (c : Nat) : Lw (10 ^ c) ≤ c / 9 + 1 := by
  refine Lw_le ?_
  rw [show (1000000000 : Nat) = 10 ^ 9 from rfl, ← Nat.pow_mul]
  exact Nat.pow_lt_pow_right (by omega) (by omega)
end Gb
namespace Go.Proofs.YtfbmphbmidlijaaGreatDoor.S
open Go Go.Sx Go.RowKit Gb Go.Shelf
theorem repeat_n (l : List UInt8) (c : Nat) (hc : l.length * c ≤ 140737488355328) (hc2 : c ≤ 9223372036854775807) : Meets Tryz.prog Gd 77 [strP l, iP c] (strP (Lib.repeatL l c)) := by
  refine meets_val [.string ⟨l.toArray⟩, .int .i64 c] (.string ⟨(Lib.repeatL l c).toArray⟩) (enters_of Tryz.func77 (by kernel_rfl) rfl) ?_ ?_
  · intro B w
    simp [strP_c, RepP]
  · intro w hw
    have := Tryz.strings_Repeat ⟨l.toArray⟩ c w hc2 (by simpa [ByteArray.size] using hc)
    exact this
end Go.Proofs.YtfbmphbmidlijaaGreatDoor.S
