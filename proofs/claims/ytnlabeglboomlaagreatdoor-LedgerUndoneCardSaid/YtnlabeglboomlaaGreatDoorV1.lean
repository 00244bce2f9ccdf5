/- A part of a proof; the last text of this claim says of what. -/
import Derived.Shelf.Strings.Builder1
import Derived.Shelf.Strings.Builder2
import Derived.Shelf.Strings.Trim
import Derived.Shelf.Small.Utf8
import Derived.Shelf.Small.Strs
import Derived.Shelf.Small.Wraps
import Derived.Shelf.Strings.BuilderF
import Derived.Shelf.Strings.BuilderK
import Derived.Shelf.Strings.Builder2Cap
import Derived.Shelf.Strconv.Itoa0
import Derived.Shelf.Strconv.Itoa1
import Derived.Shelf.LaysM
import Derived.Shelf.Strconv.Itoa2
import Derived.Shelf.Strconv.Itoa3
import Derived.Shelf.Strconv.Itoa4
import Derived.Shelf.Strconv.ParseIntEmpty
import Derived.Shelf.Strconv.Clone
import Derived.Shelf.Strconv.SyntaxError
import Derived.Shelf.LaysC
import Derived.Shelf.Strconv.ToError
import Derived.Shelf.Strconv.Lower
import Derived.Shelf.Strconv.ParseUint10
import Derived.Shelf.Strconv.ParseUint10Empty
import Derived.Shelf.Strconv.ParseUint10Any
import Derived.Shelf.Strconv.ParseInt10
import Derived.Shelf.Strconv.RangeError
import Derived.Shelf.Strconv.ToErrorRange
import Derived.Shelf.Strconv.ParseUintEmpty
import Derived.Shelf.Strconv.ParseUint10b64
import Derived.Shelf.Strconv.ParseUint10b32
import Derived.Shelf.Strconv.ParseUint10b16
import Derived.Shelf.Strconv.ParseUint10b8
import Derived.Shelf.Strconv.ParseUint10At
import Derived.Shelf.Strconv.ParseInt10At64
import Derived.Shelf.Strconv.ParseInt10At32
import Derived.Shelf.Strconv.ParseInt10At16
import Derived.Shelf.Strconv.ParseInt10At8
import Derived.Shelf.Strconv.ParseInt10All
import Derived.Shelf.Strconv.ParseIntPublic10
import Derived.Ground.MpProg
import Derived.Shelf.Pu.ParseUintPublic10
import Derived.Shelf.Strings.Search1
import Derived.Shelf.Strings.Search2
import Derived.Shelf.Strings.Cut
import Derived.Shelf.Strings.Shaped
import Derived.Shelf.Strings.Prefix
import Derived.Shelf.Unicode.Decode
import Derived.Shelf.Strings.Runes
import Derived.Shelf.Strings.AsciiSet
import Derived.Shelf.Bits.Mul64
import Derived.Shelf.Strings.Repeat
import Derived.Shelf.Unicode.DecodeSlow
import Derived.Shelf.Unicode.DecodeAny
import Derived.Shelf.Unicode.DecodeLast
import Derived.Shelf.Strings.BuilderCap
import Derived.Ground.Names2Prog
import Derived.Shelf.Slices.SearchI
import Derived.Test.YtnlabeglboomlaaGreatDoorProg
set_option linter.unusedVariables false
set_option linter.unusedSimpArgs false
set_option linter.unusedSectionVars false
namespace Go.Proofs
open Go.Shelf
def Tryz.lays169_ren : Go.Shelf.Ren := ⟨fun | 169 => 207 | n => n, fun | 70 => 222 | 9 => 9 | 0 => 0 | 72 => 224 | 37 => 139 | 127 => 244 | 3 => 3 | 5 => 5 | n => n, fun | n => n⟩
theorem Tryz.lays169 : Go.Proofs.Lays.n169 Tryz.prog Tryz.lays169_ren := {
  mixed := by kernel_rfl
  f169 := Tryz.func207.trans (congrArg some (by kernel_rfl))
  t0 := Tryz.underlying0
  a0 := Tryz.isAgg0
  z0 := Tryz.sizeOf0
  v0 := Tryz.zeroValue0
  t3 := Tryz.underlying3
  a3 := Tryz.isAgg3
  z3 := Tryz.sizeOf3
  v3 := Tryz.zeroValue3
  t9 := Tryz.underlying9
  a9 := Tryz.isAgg9
  z9 := Tryz.sizeOf9
  v9 := Tryz.zeroValue9
  t37 := Tryz.underlying139
  a37 := Tryz.isAgg139
  z37 := Tryz.sizeOf139
  v37 := Tryz.zeroValue139
  t70 := Tryz.underlying222
  a70 := Tryz.isAgg222
  z70 := Tryz.sizeOf222
  v70 := Tryz.zeroValue222
  t72 := Tryz.underlying224
  a72 := Tryz.isAgg224
  z72 := Tryz.sizeOf224
  v72 := Tryz.zeroValue224
  t127 := Tryz.underlying244
  a127 := Tryz.isAgg244
  z127 := Tryz.sizeOf244
  v127 := Tryz.zeroValue244 }
theorem Tryz.Builder_Extra_169 : Builder.Extra Tryz.prog Tryz.lays169_ren := {
  sizeBuilder := by kernel_rfl
  liesBuilder := by kernel_rfl
  t5 := Tryz.underlying5
  a5 := Tryz.isAgg5
  z5 := Tryz.sizeOf5
  v5 := Tryz.zeroValue5
  infoByte := by kernel_rfl
  cellsByte := by kernel_rfl
  sizeByte := by kernel_rfl
  neB5 := by decide }
open Go.RowKit in
theorem Tryz.Builder_String_any_k (B b : Nat) (l : List UInt8) (w : World) (h : Lib.IsBuilderF 224 5 B b (Lib.byteCells l) w) (hBw : B ≤ w.heap.size) :
    Calls Tryz.prog 207 #[.pointer (some ⟨b, 0, none⟩)] w fun e w' => e = .returned (.string ⟨l.toArray⟩) ∧ (Lib.IsBuilderF 224 5 B b (Lib.byteCells l) w' ∧ Below B w w' ∧ Lib.OthersKept 5 (some b) w w') := Any.Builder_String_any_k Tryz.lays169 Tryz.Builder_Extra_169 B b l w h hBw
def Tryz.lays283_ren : Go.Shelf.Ren := ⟨fun | 283 => 237 | n => n, fun | 3 => 3 | 9 => 9 | 4 => 4 | n => n, fun | n => n⟩
theorem Tryz.lays283 : Go.Proofs.Lays.n283 Tryz.prog Tryz.lays283_ren := {
  mixed := by kernel_rfl
  f283 := Tryz.func237.trans (congrArg some (by kernel_rfl))
  t3 := Tryz.underlying3
  a3 := Tryz.isAgg3
  z3 := Tryz.sizeOf3
  v3 := Tryz.zeroValue3
  t4 := Tryz.underlying4
  a4 := Tryz.isAgg4
  z4 := Tryz.sizeOf4
  v4 := Tryz.zeroValue4
  t9 := Tryz.underlying9
  a9 := Tryz.isAgg9
  z9 := Tryz.sizeOf9
  v9 := Tryz.zeroValue9 }
open Go.Lib in
theorem Tryz.internal_strconv_small (i : Nat) (h : i < 100) (w : World) :
    Calls Tryz.prog 237 #[.int .i64 i] w fun e w' => e = .returned (.string ⟨(Lib.decDigits i).toArray⟩) ∧ w' = w := Any.internal_strconv_small Tryz.lays283 i h w
def Tryz.laysM284_ren : Go.Shelf.Ren := ⟨fun | 284 => 238 | 129 => 251 | 317 => 250 | 318 => 252 | n => n, fun | 53 => 124 | 3 => 3 | 212 => 272 | 0 => 0 | 4 => 4 | 46 => 198 | 5 => 5 | 9 => 9 | n => n, fun | 17 => 5 | n => n⟩
theorem Tryz.laysM284 : Go.Proofs.LaysM.n284 Tryz.prog Tryz.laysM284_ren := {
  mixed := by kernel_rfl
  f129 := Tryz.func251.trans (congrArg some (by kernel_rfl))
  f284 := Tryz.func238.trans (congrArg some (by kernel_rfl))
  f317 := Tryz.func250.trans (congrArg some (by kernel_rfl))
  f318 := Tryz.func252.trans (congrArg some (by kernel_rfl))
  t0 := Tryz.underlying0
  a0 := Tryz.isAgg0
  z0 := Tryz.sizeOf0
  v0 := Tryz.zeroValue0
  t3 := Tryz.underlying3
  a3 := Tryz.isAgg3
  z3 := Tryz.sizeOf3
  v3 := Tryz.zeroValue3
  t4 := Tryz.underlying4
  a4 := Tryz.isAgg4
  z4 := Tryz.sizeOf4
  v4 := Tryz.zeroValue4
  t5 := Tryz.underlying5
  a5 := Tryz.isAgg5
  z5 := Tryz.sizeOf5
  v5 := Tryz.zeroValue5
  t9 := Tryz.underlying9
  a9 := Tryz.isAgg9
  z9 := Tryz.sizeOf9
  v9 := Tryz.zeroValue9
  t46 := Tryz.underlying198
  a46 := Tryz.isAgg198
  z46 := Tryz.sizeOf198
  v46 := Tryz.zeroValue198
  t53 := Tryz.underlying124
  a53 := Tryz.isAgg124
  z53 := Tryz.sizeOf124
  v53 := Tryz.zeroValue124
  t212 := Tryz.underlying272
  a212 := Tryz.isAgg272
  z212 := Tryz.sizeOf272
  v212 := Tryz.zeroValue272
  g17 := by kernel_rfl
  i0 := by kernel_rfl
  i3 := by kernel_rfl
  i4 := by kernel_rfl
  i5 := by kernel_rfl
  i9 := by kernel_rfl
  i46 := by kernel_rfl
  i53 := by kernel_rfl
  i212 := by kernel_rfl
  m17 := by kernel_rfl }
open Go.Lib in
theorem Tryz.internal_strconv_numDigits (u : Nat) (h1 : 1 ≤ u) (h2 : u < 18446744073709551616) (w : World) (htab : Lib.TabIs Tryz.prog w "internal/strconv.uint64pow10" .u64 Lib.pow10Tab) :
    Calls Tryz.prog 238 #[.int .u64 u] w fun e w' => e = .returned (.int .i64 (Lib.nDigits u)) ∧ w' = w := Any.internal_strconv_numDigits Tryz.laysM284 u h1 h2 w htab
def Tryz.lays285_ren : Go.Shelf.Ren := ⟨fun | 285 => 239 | n => n, fun | 37 => 139 | 53 => 124 | 3 => 3 | 4 => 4 | 51 => 95 | 9 => 9 | 5 => 5 | 0 => 0 | n => n, fun | n => n⟩
theorem Tryz.lays285 : Go.Proofs.Lays.n285 Tryz.prog Tryz.lays285_ren := {
  mixed := by kernel_rfl
  f285 := Tryz.func239.trans (congrArg some (by kernel_rfl))
  t0 := Tryz.underlying0
  a0 := Tryz.isAgg0
  z0 := Tryz.sizeOf0
  v0 := Tryz.zeroValue0
  t3 := Tryz.underlying3
  a3 := Tryz.isAgg3
  z3 := Tryz.sizeOf3
  v3 := Tryz.zeroValue3
  t4 := Tryz.underlying4
  a4 := Tryz.isAgg4
  z4 := Tryz.sizeOf4
  v4 := Tryz.zeroValue4
  t5 := Tryz.underlying5
  a5 := Tryz.isAgg5
  z5 := Tryz.sizeOf5
  v5 := Tryz.zeroValue5
  t9 := Tryz.underlying9
  a9 := Tryz.isAgg9
  z9 := Tryz.sizeOf9
  v9 := Tryz.zeroValue9
  t37 := Tryz.underlying139
  a37 := Tryz.isAgg139
  z37 := Tryz.sizeOf139
  v37 := Tryz.zeroValue139
  t51 := Tryz.underlying95
  a51 := Tryz.isAgg95
  z51 := Tryz.sizeOf95
  v51 := Tryz.zeroValue95
  t53 := Tryz.underlying124
  a53 := Tryz.isAgg124
  z53 := Tryz.sizeOf124
  v53 := Tryz.zeroValue124 }
open Go.RowKit Go.Sort Go.Lib in
theorem Tryz.internal_strconv_formatBase10 (blk off cap : Nat) (u : Nat) (d : Array UInt8) (w : World) (hH : Holds (fun (b : UInt8) => Value.int .u8 (b.toNat : Int)) w blk off d) (hu : u < 10 ^ d.size) (hu64 : u < 18446744073709551616) (hsz : d.size < 4611686018427387904) :
    Calls Tryz.prog 239 #[.slice (some ⟨blk, off, none⟩) d.size cap, .int .u64 u] w fun e w' =>
      e = .returned (.tuple #[]) ∧ ∃ (n v' : Nat) (dk : Array UInt8), w' = (putRow (fun (b : UInt8) => Value.int .u8 (b.toNat : Int)) w blk off dk).drewN n ∧ FmtInv d.size u 0 v' dk := Any.internal_strconv_formatBase10 Tryz.lays285 blk off cap u d w hH hu hu64 hsz
def Tryz.laysM171_ren : Go.Shelf.Ren := ⟨fun | 171 => 249 | 243 => 256 | 246 => 229 | 283 => 237 | 284 => 238 | 285 => 239 | 286 => 240 | 129 => 251 | 317 => 250 | 318 => 252 | 319 => 253 | 320 => 254 | 337 => 257 | 338 => 258 | n => n, fun | 3 => 3 | 9 => 9 | 2 => 2 | 4 => 4 | 171 => 256 | 0 => 0 | 53 => 124 | 37 => 139 | 5 => 5 | 173 => 259 | 212 => 272 | 51 => 95 | 20 => 20 | 213 => 273 | 46 => 198 | 232 => 280 | 233 => 281 | n => n, fun | 17 => 5 | 18 => 6 | 19 => 7 | n => n⟩
theorem Tryz.laysM171 : Go.Proofs.LaysM.n171 Tryz.prog Tryz.laysM171_ren := {
  mixed := by kernel_rfl
  f129 := Tryz.func251.trans (congrArg some (by kernel_rfl))
  f171 := Tryz.func249.trans (congrArg some (by kernel_rfl))
  f243 := Tryz.func256.trans (congrArg some (by kernel_rfl))
  f246 := Tryz.func229.trans (congrArg some (by kernel_rfl))
  f283 := Tryz.func237.trans (congrArg some (by kernel_rfl))
  f284 := Tryz.func238.trans (congrArg some (by kernel_rfl))
  f285 := Tryz.func239.trans (congrArg some (by kernel_rfl))
  f286 := Tryz.func240.trans (congrArg some (by kernel_rfl))
  f317 := Tryz.func250.trans (congrArg some (by kernel_rfl))
  f318 := Tryz.func252.trans (congrArg some (by kernel_rfl))
  f319 := Tryz.func253.trans (congrArg some (by kernel_rfl))
  f320 := Tryz.func254.trans (congrArg some (by kernel_rfl))
  f337 := Tryz.func257.trans (congrArg some (by kernel_rfl))
  f338 := Tryz.func258.trans (congrArg some (by kernel_rfl))
  t0 := Tryz.underlying0
  a0 := Tryz.isAgg0
  z0 := Tryz.sizeOf0
  v0 := Tryz.zeroValue0
  t2 := Tryz.underlying2
  a2 := Tryz.isAgg2
  z2 := Tryz.sizeOf2
  v2 := Tryz.zeroValue2
  t3 := Tryz.underlying3
  a3 := Tryz.isAgg3
  z3 := Tryz.sizeOf3
  v3 := Tryz.zeroValue3
  t4 := Tryz.underlying4
  a4 := Tryz.isAgg4
  z4 := Tryz.sizeOf4
  v4 := Tryz.zeroValue4
  t5 := Tryz.underlying5
  a5 := Tryz.isAgg5
  z5 := Tryz.sizeOf5
  v5 := Tryz.zeroValue5
  t9 := Tryz.underlying9
  a9 := Tryz.isAgg9
  z9 := Tryz.sizeOf9
  v9 := Tryz.zeroValue9
  t20 := Tryz.underlying20
  a20 := Tryz.isAgg20
  z20 := Tryz.sizeOf20
  v20 := Tryz.zeroValue20
  t37 := Tryz.underlying139
  a37 := Tryz.isAgg139
  z37 := Tryz.sizeOf139
  v37 := Tryz.zeroValue139
  t46 := Tryz.underlying198
  a46 := Tryz.isAgg198
  z46 := Tryz.sizeOf198
  v46 := Tryz.zeroValue198
  t51 := Tryz.underlying95
  a51 := Tryz.isAgg95
  z51 := Tryz.sizeOf95
  v51 := Tryz.zeroValue95
  t53 := Tryz.underlying124
  a53 := Tryz.isAgg124
  z53 := Tryz.sizeOf124
  v53 := Tryz.zeroValue124
  t171 := Tryz.underlying256
  a171 := Tryz.isAgg256
  z171 := Tryz.sizeOf256
  v171 := Tryz.zeroValue256
  t173 := Tryz.underlying259
  a173 := Tryz.isAgg259
  z173 := Tryz.sizeOf259
  v173 := Tryz.zeroValue259
  t212 := Tryz.underlying272
  a212 := Tryz.isAgg272
  z212 := Tryz.sizeOf272
  v212 := Tryz.zeroValue272
  t213 := Tryz.underlying273
  a213 := Tryz.isAgg273
  z213 := Tryz.sizeOf273
  t232 := Tryz.underlying280
  a232 := Tryz.isAgg280
  z232 := Tryz.sizeOf280
  v232 := Tryz.zeroValue280
  t233 := Tryz.underlying281
  a233 := Tryz.isAgg281
  z233 := Tryz.sizeOf281
  v233 := Tryz.zeroValue281
  g17 := by kernel_rfl
  g18 := by kernel_rfl
  g19 := by kernel_rfl
  i0 := by kernel_rfl
  i2 := by kernel_rfl
  i3 := by kernel_rfl
  i4 := by kernel_rfl
  i5 := by kernel_rfl
  i9 := by kernel_rfl
  i20 := by kernel_rfl
  i37 := by kernel_rfl
  i46 := by kernel_rfl
  i51 := by kernel_rfl
  i53 := by kernel_rfl
  i171 := by kernel_rfl
  i173 := by kernel_rfl
  i212 := by kernel_rfl
  i232 := by kernel_rfl
  i233 := by kernel_rfl
  m17 := by kernel_rfl
  m18 := by kernel_rfl
  m19 := by kernel_rfl }
open Go.RowKit Go.Sort Go.Lib in
theorem Tryz.strconv_Itoa (n : Int) (h0 : -9223372036854775808 ≤ n) (h1 : n ≤ 9223372036854775807) (w : World) (htab : Lib.TabIs Tryz.prog w "internal/strconv.uint64pow10" .u64 Lib.pow10Tab) :
    Calls Tryz.prog 249 #[.int .i64 n] w fun e w' => e = .returned (.string ⟨(Lib.itoa n).toArray⟩) ∧ ∃ k os, w' = grow (w.drewN k) os := Any.strconv_Itoa Tryz.laysM171 n h0 h1 w htab
def Tryz.laysM173_ren : Go.Shelf.Ren := ⟨fun | 173 => 213 | 246 => 229 | 283 => 237 | 284 => 238 | 285 => 239 | 286 => 240 | 129 => 251 | 317 => 250 | 318 => 252 | 319 => 253 | 320 => 254 | 337 => 257 | 338 => 258 | n => n, fun | 2 => 2 | 3 => 3 | 9 => 9 | 4 => 4 | 171 => 256 | 0 => 0 | 53 => 124 | 37 => 139 | 5 => 5 | 173 => 259 | 212 => 272 | 51 => 95 | 20 => 20 | 213 => 273 | 46 => 198 | 232 => 280 | 233 => 281 | n => n, fun | 17 => 5 | 18 => 6 | 19 => 7 | n => n⟩
theorem Tryz.laysM173 : Go.Proofs.LaysM.n173 Tryz.prog Tryz.laysM173_ren := {
  mixed := by kernel_rfl
  f129 := Tryz.func251.trans (congrArg some (by kernel_rfl))
  f173 := Tryz.func213.trans (congrArg some (by kernel_rfl))
  f246 := Tryz.func229.trans (congrArg some (by kernel_rfl))
  f283 := Tryz.func237.trans (congrArg some (by kernel_rfl))
  f284 := Tryz.func238.trans (congrArg some (by kernel_rfl))
  f285 := Tryz.func239.trans (congrArg some (by kernel_rfl))
  f286 := Tryz.func240.trans (congrArg some (by kernel_rfl))
  f317 := Tryz.func250.trans (congrArg some (by kernel_rfl))
  f318 := Tryz.func252.trans (congrArg some (by kernel_rfl))
  f319 := Tryz.func253.trans (congrArg some (by kernel_rfl))
  f320 := Tryz.func254.trans (congrArg some (by kernel_rfl))
  f337 := Tryz.func257.trans (congrArg some (by kernel_rfl))
  f338 := Tryz.func258.trans (congrArg some (by kernel_rfl))
  t0 := Tryz.underlying0
  a0 := Tryz.isAgg0
  z0 := Tryz.sizeOf0
  v0 := Tryz.zeroValue0
  t2 := Tryz.underlying2
  a2 := Tryz.isAgg2
  z2 := Tryz.sizeOf2
  v2 := Tryz.zeroValue2
  t3 := Tryz.underlying3
  a3 := Tryz.isAgg3
  z3 := Tryz.sizeOf3
  v3 := Tryz.zeroValue3
  t4 := Tryz.underlying4
  a4 := Tryz.isAgg4
  z4 := Tryz.sizeOf4
  v4 := Tryz.zeroValue4
  t5 := Tryz.underlying5
  a5 := Tryz.isAgg5
  z5 := Tryz.sizeOf5
  v5 := Tryz.zeroValue5
  t9 := Tryz.underlying9
  a9 := Tryz.isAgg9
  z9 := Tryz.sizeOf9
  v9 := Tryz.zeroValue9
  t20 := Tryz.underlying20
  a20 := Tryz.isAgg20
  z20 := Tryz.sizeOf20
  v20 := Tryz.zeroValue20
  t37 := Tryz.underlying139
  a37 := Tryz.isAgg139
  z37 := Tryz.sizeOf139
  v37 := Tryz.zeroValue139
  t46 := Tryz.underlying198
  a46 := Tryz.isAgg198
  z46 := Tryz.sizeOf198
  v46 := Tryz.zeroValue198
  t51 := Tryz.underlying95
  a51 := Tryz.isAgg95
  z51 := Tryz.sizeOf95
  v51 := Tryz.zeroValue95
  t53 := Tryz.underlying124
  a53 := Tryz.isAgg124
  z53 := Tryz.sizeOf124
  v53 := Tryz.zeroValue124
  t171 := Tryz.underlying256
  a171 := Tryz.isAgg256
  z171 := Tryz.sizeOf256
  v171 := Tryz.zeroValue256
  t173 := Tryz.underlying259
  a173 := Tryz.isAgg259
  z173 := Tryz.sizeOf259
  v173 := Tryz.zeroValue259
  t212 := Tryz.underlying272
  a212 := Tryz.isAgg272
  z212 := Tryz.sizeOf272
  v212 := Tryz.zeroValue272
  t213 := Tryz.underlying273
  a213 := Tryz.isAgg273
  z213 := Tryz.sizeOf273
  t232 := Tryz.underlying280
  a232 := Tryz.isAgg280
  z232 := Tryz.sizeOf280
  v232 := Tryz.zeroValue280
  t233 := Tryz.underlying281
  a233 := Tryz.isAgg281
  z233 := Tryz.sizeOf281
  v233 := Tryz.zeroValue281
  g17 := by kernel_rfl
  g18 := by kernel_rfl
  g19 := by kernel_rfl
  i0 := by kernel_rfl
  i2 := by kernel_rfl
  i3 := by kernel_rfl
  i4 := by kernel_rfl
  i5 := by kernel_rfl
  i9 := by kernel_rfl
  i20 := by kernel_rfl
  i37 := by kernel_rfl
  i46 := by kernel_rfl
  i51 := by kernel_rfl
  i53 := by kernel_rfl
  i171 := by kernel_rfl
  i173 := by kernel_rfl
  i212 := by kernel_rfl
  i232 := by kernel_rfl
  i233 := by kernel_rfl
  m17 := by kernel_rfl
  m18 := by kernel_rfl
  m19 := by kernel_rfl }
open Go.RowKit Go.Sort Go.Lib in
theorem Tryz.strconv_FormatInt_10 (n : Int) (h0 : -9223372036854775808 ≤ n) (h1 : n ≤ 9223372036854775807) (w : World) (htab : Lib.TabIs Tryz.prog w "internal/strconv.uint64pow10" .u64 Lib.pow10Tab) :
    Calls Tryz.prog 213 #[.int .i64 n, .int .i64 10] w fun e w' => e = .returned (.string ⟨(Lib.itoa n).toArray⟩) ∧ ∃ k os, w' = grow (w.drewN k) os := Any.strconv_FormatInt_10 Tryz.laysM173 n h0 h1 w htab
def Tryz.laysC174_ren : Go.Shelf.Ren := ⟨fun | 174 => 212 | 247 => 228 | 245 => 217 | 287 => 216 | 279 => 233 | 280 => 234 | 281 => 235 | 282 => 236 | 321 => 231 | 322 => 232 | 316 => 247 | 171 => 249 | 205 => 248 | 243 => 256 | 246 => 229 | 283 => 237 | 284 => 238 | 285 => 239 | 286 => 240 | 129 => 251 | 317 => 250 | 318 => 252 | 319 => 253 | 320 => 254 | 337 => 257 | 338 => 258 | n => n, fun | 9 => 9 | 3 => 3 | 2 => 2 | 75 => 218 | 85 => 234 | 4 => 4 | 167 => 250 | 5 => 5 | 53 => 124 | 175 => 219 | 46 => 198 | 168 => 252 | 37 => 139 | 0 => 0 | 210 => 270 | 21 => 21 | 127 => 244 | 145 => 278 | 143 => 276 | 171 => 256 | 173 => 259 | 212 => 272 | 51 => 95 | 20 => 20 | 213 => 273 | 232 => 280 | 233 => 281 | 80 => 173 | n => n, fun | 15 => 3 | 16 => 4 | 17 => 5 | 18 => 6 | 19 => 7 | n => n⟩
theorem Tryz.laysC174 : Go.Proofs.LaysC.n174 Tryz.prog Tryz.laysC174_ren := {
  mixed := by kernel_rfl
  f129 := Tryz.func251.trans (congrArg some (by kernel_rfl))
  f171 := Tryz.func249.trans (congrArg some (by kernel_rfl))
  f174 := Tryz.func212.trans (congrArg some (by kernel_rfl))
  f205 := Tryz.func248.trans (congrArg some (by kernel_rfl))
  f243 := Tryz.func256.trans (congrArg some (by kernel_rfl))
  f245 := Tryz.func217.trans (congrArg some (by kernel_rfl))
  f246 := Tryz.func229.trans (congrArg some (by kernel_rfl))
  f247 := Tryz.func228.trans (congrArg some (by kernel_rfl))
  f279 := Tryz.func233.trans (congrArg some (by kernel_rfl))
  f280 := Tryz.func234.trans (congrArg some (by kernel_rfl))
  f281 := Tryz.func235.trans (congrArg some (by kernel_rfl))
  f282 := Tryz.func236.trans (congrArg some (by kernel_rfl))
  f283 := Tryz.func237.trans (congrArg some (by kernel_rfl))
  f284 := Tryz.func238.trans (congrArg some (by kernel_rfl))
  f285 := Tryz.func239.trans (congrArg some (by kernel_rfl))
  f286 := Tryz.func240.trans (congrArg some (by kernel_rfl))
  f287 := Tryz.func216.trans (congrArg some (by kernel_rfl))
  f316 := Tryz.func247.trans (congrArg some (by kernel_rfl))
  f317 := Tryz.func250.trans (congrArg some (by kernel_rfl))
  f318 := Tryz.func252.trans (congrArg some (by kernel_rfl))
  f319 := Tryz.func253.trans (congrArg some (by kernel_rfl))
  f320 := Tryz.func254.trans (congrArg some (by kernel_rfl))
  f321 := Tryz.func231.trans (congrArg some (by kernel_rfl))
  f322 := Tryz.func232.trans (congrArg some (by kernel_rfl))
  f337 := Tryz.func257.trans (congrArg some (by kernel_rfl))
  f338 := Tryz.func258.trans (congrArg some (by kernel_rfl))
  t0 := Tryz.underlying0
  a0 := Tryz.isAgg0
  z0 := Tryz.sizeOf0
  v0 := Tryz.zeroValue0
  t2 := Tryz.underlying2
  a2 := Tryz.isAgg2
  z2 := Tryz.sizeOf2
  v2 := Tryz.zeroValue2
  t3 := Tryz.underlying3
  a3 := Tryz.isAgg3
  z3 := Tryz.sizeOf3
  v3 := Tryz.zeroValue3
  t4 := Tryz.underlying4
  a4 := Tryz.isAgg4
  z4 := Tryz.sizeOf4
  v4 := Tryz.zeroValue4
  t5 := Tryz.underlying5
  a5 := Tryz.isAgg5
  z5 := Tryz.sizeOf5
  v5 := Tryz.zeroValue5
  t9 := Tryz.underlying9
  a9 := Tryz.isAgg9
  z9 := Tryz.sizeOf9
  v9 := Tryz.zeroValue9
  t20 := Tryz.underlying20
  a20 := Tryz.isAgg20
  z20 := Tryz.sizeOf20
  v20 := Tryz.zeroValue20
  t21 := Tryz.underlying21
  a21 := Tryz.isAgg21
  z21 := Tryz.sizeOf21
  v21 := Tryz.zeroValue21
  t37 := Tryz.underlying139
  a37 := Tryz.isAgg139
  z37 := Tryz.sizeOf139
  v37 := Tryz.zeroValue139
  t46 := Tryz.underlying198
  a46 := Tryz.isAgg198
  z46 := Tryz.sizeOf198
  v46 := Tryz.zeroValue198
  t51 := Tryz.underlying95
  a51 := Tryz.isAgg95
  z51 := Tryz.sizeOf95
  v51 := Tryz.zeroValue95
  t53 := Tryz.underlying124
  a53 := Tryz.isAgg124
  z53 := Tryz.sizeOf124
  v53 := Tryz.zeroValue124
  t75 := Tryz.underlying218
  a75 := Tryz.isAgg218
  z75 := Tryz.sizeOf218
  v75 := Tryz.zeroValue218
  t85 := Tryz.underlying234
  a85 := Tryz.isAgg234
  z85 := Tryz.sizeOf234
  v85 := Tryz.zeroValue234
  t127 := Tryz.underlying244
  a127 := Tryz.isAgg244
  z127 := Tryz.sizeOf244
  v127 := Tryz.zeroValue244
  t143 := Tryz.underlying276
  a143 := Tryz.isAgg276
  z143 := Tryz.sizeOf276
  v143 := Tryz.zeroValue276
  t145 := Tryz.underlying278
  a145 := Tryz.isAgg278
  z145 := Tryz.sizeOf278
  v145 := Tryz.zeroValue278
  t167 := Tryz.underlying250
  a167 := Tryz.isAgg250
  z167 := Tryz.sizeOf250
  v167 := Tryz.zeroValue250
  t168 := Tryz.underlying252
  a168 := Tryz.isAgg252
  z168 := Tryz.sizeOf252
  v168 := Tryz.zeroValue252
  t171 := Tryz.underlying256
  a171 := Tryz.isAgg256
  z171 := Tryz.sizeOf256
  v171 := Tryz.zeroValue256
  t173 := Tryz.underlying259
  a173 := Tryz.isAgg259
  z173 := Tryz.sizeOf259
  v173 := Tryz.zeroValue259
  t175 := Tryz.underlying219
  a175 := Tryz.isAgg219
  z175 := Tryz.sizeOf219
  v175 := Tryz.zeroValue219
  t210 := Tryz.underlying270
  a210 := Tryz.isAgg270
  z210 := Tryz.sizeOf270
  v210 := Tryz.zeroValue270
  t212 := Tryz.underlying272
  a212 := Tryz.isAgg272
  z212 := Tryz.sizeOf272
  v212 := Tryz.zeroValue272
  t213 := Tryz.underlying273
  a213 := Tryz.isAgg273
  z213 := Tryz.sizeOf273
  t232 := Tryz.underlying280
  a232 := Tryz.isAgg280
  z232 := Tryz.sizeOf280
  v232 := Tryz.zeroValue280
  t233 := Tryz.underlying281
  a233 := Tryz.isAgg281
  z233 := Tryz.sizeOf281
  v233 := Tryz.zeroValue281
  g15 := by kernel_rfl
  g16 := by kernel_rfl
  g17 := by kernel_rfl
  g18 := by kernel_rfl
  g19 := by kernel_rfl
  t80 := Tryz.underlying173
  a80 := Tryz.isAgg173
  z80 := Tryz.sizeOf173
  v80 := Tryz.zeroValue173
  i0 := by kernel_rfl
  i2 := by kernel_rfl
  i3 := by kernel_rfl
  i4 := by kernel_rfl
  i5 := by kernel_rfl
  i9 := by kernel_rfl
  i20 := by kernel_rfl
  i21 := by kernel_rfl
  i37 := by kernel_rfl
  i46 := by kernel_rfl
  i51 := by kernel_rfl
  i53 := by kernel_rfl
  i75 := by kernel_rfl
  i80 := by kernel_rfl
  i85 := by kernel_rfl
  i127 := by kernel_rfl
  i143 := by kernel_rfl
  i145 := by kernel_rfl
  i167 := by kernel_rfl
  i168 := by kernel_rfl
  i171 := by kernel_rfl
  i173 := by kernel_rfl
  i175 := by kernel_rfl
  i210 := by kernel_rfl
  i212 := by kernel_rfl
  i232 := by kernel_rfl
  i233 := by kernel_rfl
  m15 := by kernel_rfl
  m16 := by kernel_rfl
  m17 := by kernel_rfl
  m18 := by kernel_rfl
  m19 := by kernel_rfl
  c0 := by kernel_rfl
  c2 := by kernel_rfl
  c3 := by kernel_rfl
  c4 := by kernel_rfl
  c5 := by kernel_rfl
  c9 := by kernel_rfl
  c20 := by kernel_rfl
  c21 := by kernel_rfl
  c37 := by kernel_rfl
  c46 := by kernel_rfl
  c51 := by kernel_rfl
  c53 := by kernel_rfl
  c75 := by kernel_rfl
  c80 := by kernel_rfl
  c85 := by kernel_rfl
  c127 := by kernel_rfl
  c143 := by kernel_rfl
  c145 := by kernel_rfl
  c167 := by kernel_rfl
  c168 := by kernel_rfl
  c171 := by kernel_rfl
  c173 := by kernel_rfl
  c175 := by kernel_rfl
  c210 := by kernel_rfl
  c212 := by kernel_rfl
  c213 := by kernel_rfl
  c232 := by kernel_rfl
  c233 := by kernel_rfl }
open Go.RowKit in
theorem Tryz.strconv_ParseInt_10_at64_ok (s : ByteArray) (hmax : s.size ≤ 9223372036854775806) (v : Int) (h : Lib.parseIntB 64 s.data.toList = .ok v) (w : World) :
    Calls Tryz.prog 212 #[.string s, .int .i64 10, .int .i64 64] w fun e w' => e = .returned (.tuple #[.int .i64 v, .nilIface]) ∧ (w' = w ∨ ∃ t, w' = Lib.bytesWorld w 5 t) := Any.strconv_ParseInt_10_at64_ok Tryz.laysC174 s hmax v h w
def Tryz.laysPu14_ren : Go.Shelf.Ren := ⟨fun | 14 => 201 | 16 => 216 | 17 => 217 | 19 => 231 | 20 => 232 | 21 => 233 | 22 => 234 | 23 => 235 | 24 => 236 | 25 => 247 | 27 => 249 | 26 => 248 | 28 => 256 | 29 => 229 | 30 => 237 | 31 => 238 | 32 => 239 | 33 => 240 | 35 => 251 | 34 => 250 | 36 => 252 | 37 => 253 | 38 => 254 | 39 => 257 | 40 => 258 | n => n, fun | 9 => 9 | 3 => 3 | 22 => 124 | 24 => 218 | 25 => 219 | 4 => 4 | 34 => 250 | 5 => 5 | 36 => 198 | 37 => 139 | 0 => 0 | 39 => 252 | 21 => 21 | 44 => 270 | 47 => 244 | 50 => 278 | 48 => 276 | 2 => 2 | 52 => 256 | 55 => 259 | 59 => 272 | 60 => 95 | 20 => 20 | 61 => 273 | 65 => 280 | 66 => 281 | 67 => 173 | n => n, fun | 0 => 3 | 1 => 4 | 2 => 5 | 3 => 6 | 4 => 7 | n => n⟩
theorem Tryz.laysPu14 : Go.Proofs.LaysPu.n14 Tryz.prog Tryz.laysPu14_ren := {
  mixed := by kernel_rfl
  f14 := Tryz.func201.trans (congrArg some (by kernel_rfl))
  f16 := Tryz.func216.trans (congrArg some (by kernel_rfl))
  f17 := Tryz.func217.trans (congrArg some (by kernel_rfl))
  f19 := Tryz.func231.trans (congrArg some (by kernel_rfl))
  f20 := Tryz.func232.trans (congrArg some (by kernel_rfl))
  f21 := Tryz.func233.trans (congrArg some (by kernel_rfl))
  f22 := Tryz.func234.trans (congrArg some (by kernel_rfl))
  f23 := Tryz.func235.trans (congrArg some (by kernel_rfl))
  f24 := Tryz.func236.trans (congrArg some (by kernel_rfl))
  f25 := Tryz.func247.trans (congrArg some (by kernel_rfl))
  f26 := Tryz.func248.trans (congrArg some (by kernel_rfl))
  f27 := Tryz.func249.trans (congrArg some (by kernel_rfl))
  f28 := Tryz.func256.trans (congrArg some (by kernel_rfl))
  f29 := Tryz.func229.trans (congrArg some (by kernel_rfl))
  f30 := Tryz.func237.trans (congrArg some (by kernel_rfl))
  f31 := Tryz.func238.trans (congrArg some (by kernel_rfl))
  f32 := Tryz.func239.trans (congrArg some (by kernel_rfl))
  f33 := Tryz.func240.trans (congrArg some (by kernel_rfl))
  f34 := Tryz.func250.trans (congrArg some (by kernel_rfl))
  f35 := Tryz.func251.trans (congrArg some (by kernel_rfl))
  f36 := Tryz.func252.trans (congrArg some (by kernel_rfl))
  f37 := Tryz.func253.trans (congrArg some (by kernel_rfl))
  f38 := Tryz.func254.trans (congrArg some (by kernel_rfl))
  f39 := Tryz.func257.trans (congrArg some (by kernel_rfl))
  f40 := Tryz.func258.trans (congrArg some (by kernel_rfl))
  t0 := Tryz.underlying0
  a0 := Tryz.isAgg0
  z0 := Tryz.sizeOf0
  v0 := Tryz.zeroValue0
  i0 := by kernel_rfl
  t2 := Tryz.underlying2
  a2 := Tryz.isAgg2
  z2 := Tryz.sizeOf2
  v2 := Tryz.zeroValue2
  i2 := by kernel_rfl
  t3 := Tryz.underlying3
  a3 := Tryz.isAgg3
  z3 := Tryz.sizeOf3
  v3 := Tryz.zeroValue3
  i3 := by kernel_rfl
  t4 := Tryz.underlying4
  a4 := Tryz.isAgg4
  z4 := Tryz.sizeOf4
  v4 := Tryz.zeroValue4
  i4 := by kernel_rfl
  t5 := Tryz.underlying5
  a5 := Tryz.isAgg5
  z5 := Tryz.sizeOf5
  v5 := Tryz.zeroValue5
  i5 := by kernel_rfl
  t9 := Tryz.underlying9
  a9 := Tryz.isAgg9
  z9 := Tryz.sizeOf9
  v9 := Tryz.zeroValue9
  i9 := by kernel_rfl
  t20 := Tryz.underlying20
  a20 := Tryz.isAgg20
  z20 := Tryz.sizeOf20
  v20 := Tryz.zeroValue20
  i20 := by kernel_rfl
  t21 := Tryz.underlying21
  a21 := Tryz.isAgg21
  z21 := Tryz.sizeOf21
  v21 := Tryz.zeroValue21
  i21 := by kernel_rfl
  t22 := Tryz.underlying124
  a22 := Tryz.isAgg124
  z22 := Tryz.sizeOf124
  v22 := Tryz.zeroValue124
  i22 := by kernel_rfl
  t24 := Tryz.underlying218
  a24 := Tryz.isAgg218
  z24 := Tryz.sizeOf218
  v24 := Tryz.zeroValue218
  i24 := by kernel_rfl
  t25 := Tryz.underlying219
  a25 := Tryz.isAgg219
  z25 := Tryz.sizeOf219
  v25 := Tryz.zeroValue219
  i25 := by kernel_rfl
  t34 := Tryz.underlying250
  a34 := Tryz.isAgg250
  z34 := Tryz.sizeOf250
  v34 := Tryz.zeroValue250
  i34 := by kernel_rfl
  c34 := by kernel_rfl
  t36 := Tryz.underlying198
  a36 := Tryz.isAgg198
  z36 := Tryz.sizeOf198
  v36 := Tryz.zeroValue198
  i36 := by kernel_rfl
  t37 := Tryz.underlying139
  a37 := Tryz.isAgg139
  z37 := Tryz.sizeOf139
  v37 := Tryz.zeroValue139
  i37 := by kernel_rfl
  t39 := Tryz.underlying252
  a39 := Tryz.isAgg252
  z39 := Tryz.sizeOf252
  v39 := Tryz.zeroValue252
  i39 := by kernel_rfl
  t44 := Tryz.underlying270
  a44 := Tryz.isAgg270
  z44 := Tryz.sizeOf270
  v44 := Tryz.zeroValue270
  i44 := by kernel_rfl
  t47 := Tryz.underlying244
  a47 := Tryz.isAgg244
  z47 := Tryz.sizeOf244
  v47 := Tryz.zeroValue244
  i47 := by kernel_rfl
  t48 := Tryz.underlying276
  a48 := Tryz.isAgg276
  z48 := Tryz.sizeOf276
  v48 := Tryz.zeroValue276
  i48 := by kernel_rfl
  t50 := Tryz.underlying278
  a50 := Tryz.isAgg278
  z50 := Tryz.sizeOf278
  v50 := Tryz.zeroValue278
  i50 := by kernel_rfl
  t52 := Tryz.underlying256
  a52 := Tryz.isAgg256
  z52 := Tryz.sizeOf256
  v52 := Tryz.zeroValue256
  i52 := by kernel_rfl
  t55 := Tryz.underlying259
  a55 := Tryz.isAgg259
  z55 := Tryz.sizeOf259
  v55 := Tryz.zeroValue259
  i55 := by kernel_rfl
  t59 := Tryz.underlying272
  a59 := Tryz.isAgg272
  z59 := Tryz.sizeOf272
  v59 := Tryz.zeroValue272
  i59 := by kernel_rfl
  t60 := Tryz.underlying95
  a60 := Tryz.isAgg95
  z60 := Tryz.sizeOf95
  v60 := Tryz.zeroValue95
  i60 := by kernel_rfl
  t61 := Tryz.underlying273
  a61 := Tryz.isAgg273
  z61 := Tryz.sizeOf273
  t65 := Tryz.underlying280
  a65 := Tryz.isAgg280
  z65 := Tryz.sizeOf280
  v65 := Tryz.zeroValue280
  i65 := by kernel_rfl
  t66 := Tryz.underlying281
  a66 := Tryz.isAgg281
  z66 := Tryz.sizeOf281
  v66 := Tryz.zeroValue281
  i66 := by kernel_rfl
  t67 := Tryz.underlying173
  a67 := Tryz.isAgg173
  z67 := Tryz.sizeOf173
  v67 := Tryz.zeroValue173
  i67 := by kernel_rfl
  g0 := by kernel_rfl
  m0 := by kernel_rfl
  g1 := by kernel_rfl
  m1 := by kernel_rfl
  g2 := by kernel_rfl
  m2 := by kernel_rfl
  g3 := by kernel_rfl
  m3 := by kernel_rfl
  g4 := by kernel_rfl
  m4 := by kernel_rfl }
open Go.RowKit in
theorem Tryz.strconv_ParseUint_10_at32_ok (s : ByteArray) (hmax : s.size ≤ 9223372036854775806) (u : Nat) (h : Lib.parseUintB 32 s.data.toList = .ok u) (w : World) :
    Calls Tryz.prog 201 #[.string s, .int .i64 10, .int .i64 32] w fun e w' => e = .returned (.tuple #[.int .u64 u, .nilIface]) ∧ (w' = w ∨ w' = Lib.bytesWorld w 5 s) := Any.strconv_ParseUint_10_at32_ok Tryz.laysPu14 s hmax u h w
def Tryz.lays219_ren : Go.Shelf.Ren := ⟨fun | 219 => 156 | 217 => 177 | 225 => 178 | 224 => 179 | 267 => 180 | 266 => 198 | 314 => 199 | n => n, fun | 9 => 9 | 3 => 3 | 4 => 4 | 5 => 5 | 46 => 198 | 146 => 214 | 51 => 95 | n => n, fun | 1 => 0 | n => n⟩
theorem Tryz.lays219 : Go.Proofs.Lays.n219 Tryz.prog Tryz.lays219_ren := {
  mixed := by kernel_rfl
  f217 := Tryz.func177.trans (congrArg some (by kernel_rfl))
  f219 := Tryz.func156.trans (congrArg some (by kernel_rfl))
  f224 := Tryz.func179.trans (congrArg some (by kernel_rfl))
  f225 := Tryz.func178.trans (congrArg some (by kernel_rfl))
  f266 := Tryz.func198.trans (congrArg some (by kernel_rfl))
  f267 := Tryz.func180.trans (congrArg some (by kernel_rfl))
  f314 := Tryz.func199.trans (congrArg some (by kernel_rfl))
  t3 := Tryz.underlying3
  a3 := Tryz.isAgg3
  z3 := Tryz.sizeOf3
  v3 := Tryz.zeroValue3
  t4 := Tryz.underlying4
  a4 := Tryz.isAgg4
  z4 := Tryz.sizeOf4
  v4 := Tryz.zeroValue4
  t5 := Tryz.underlying5
  a5 := Tryz.isAgg5
  z5 := Tryz.sizeOf5
  v5 := Tryz.zeroValue5
  t9 := Tryz.underlying9
  a9 := Tryz.isAgg9
  z9 := Tryz.sizeOf9
  v9 := Tryz.zeroValue9
  t46 := Tryz.underlying198
  a46 := Tryz.isAgg198
  z46 := Tryz.sizeOf198
  v46 := Tryz.zeroValue198
  t51 := Tryz.underlying95
  a51 := Tryz.isAgg95
  z51 := Tryz.sizeOf95
  v51 := Tryz.zeroValue95
  t146 := Tryz.underlying214
  a146 := Tryz.isAgg214
  z146 := Tryz.sizeOf214
  v146 := Tryz.zeroValue214
  g1 := by kernel_rfl }
open Go.RowKit Go.Lib in
theorem Tryz.stringslite_Index_one (s : ByteArray) (c : UInt8) (w : World) :
    Calls Tryz.prog 156 #[.string s, .string ⟨#[c]⟩] w fun e w' => e = .returned (.int .i64 (Lib.indexByte s.data.toList c)) ∧ w' = w := Any.stringslite_Index_one Tryz.lays219 s c w
def Tryz.lays105_ren : Go.Shelf.Ren := ⟨fun | 105 => 206 | 212 => 221 | 99 => 222 | 165 => 223 | 166 => 205 | 170 => 224 | 169 => 207 | 263 => 242 | 264 => 243 | 206 => 200 | 240 => 220 | 241 => 244 | 276 => 241 | 277 => 255 | n => n, fun | 9 => 9 | 3 => 3 | 4 => 4 | 20 => 20 | 0 => 0 | 46 => 198 | 109 => 241 | 5 => 5 | 72 => 224 | 76 => 229 | 51 => 95 | 146 => 214 | 53 => 124 | 148 => 264 | 70 => 222 | 37 => 139 | 75 => 218 | 127 => 244 | 164 => 261 | 80 => 173 | n => n, fun | n => n⟩
theorem Tryz.lays105 : Go.Proofs.Lays.n105 Tryz.prog Tryz.lays105_ren := {
  mixed := by kernel_rfl
  f99 := Tryz.func222.trans (congrArg some (by kernel_rfl))
  f105 := Tryz.func206.trans (congrArg some (by kernel_rfl))
  f165 := Tryz.func223.trans (congrArg some (by kernel_rfl))
  f166 := Tryz.func205.trans (congrArg some (by kernel_rfl))
  f169 := Tryz.func207.trans (congrArg some (by kernel_rfl))
  f170 := Tryz.func224.trans (congrArg some (by kernel_rfl))
  f206 := Tryz.func200.trans (congrArg some (by kernel_rfl))
  f212 := Tryz.func221.trans (congrArg some (by kernel_rfl))
  f240 := Tryz.func220.trans (congrArg some (by kernel_rfl))
  f241 := Tryz.func244.trans (congrArg some (by kernel_rfl))
  f263 := Tryz.func242.trans (congrArg some (by kernel_rfl))
  f264 := Tryz.func243.trans (congrArg some (by kernel_rfl))
  f276 := Tryz.func241.trans (congrArg some (by kernel_rfl))
  f277 := Tryz.func255.trans (congrArg some (by kernel_rfl))
  t0 := Tryz.underlying0
  a0 := Tryz.isAgg0
  z0 := Tryz.sizeOf0
  v0 := Tryz.zeroValue0
  t3 := Tryz.underlying3
  a3 := Tryz.isAgg3
  z3 := Tryz.sizeOf3
  v3 := Tryz.zeroValue3
  t4 := Tryz.underlying4
  a4 := Tryz.isAgg4
  z4 := Tryz.sizeOf4
  v4 := Tryz.zeroValue4
  t5 := Tryz.underlying5
  a5 := Tryz.isAgg5
  z5 := Tryz.sizeOf5
  v5 := Tryz.zeroValue5
  t9 := Tryz.underlying9
  a9 := Tryz.isAgg9
  z9 := Tryz.sizeOf9
  v9 := Tryz.zeroValue9
  t20 := Tryz.underlying20
  a20 := Tryz.isAgg20
  z20 := Tryz.sizeOf20
  v20 := Tryz.zeroValue20
  t37 := Tryz.underlying139
  a37 := Tryz.isAgg139
  z37 := Tryz.sizeOf139
  v37 := Tryz.zeroValue139
  t46 := Tryz.underlying198
  a46 := Tryz.isAgg198
  z46 := Tryz.sizeOf198
  v46 := Tryz.zeroValue198
  t51 := Tryz.underlying95
  a51 := Tryz.isAgg95
  z51 := Tryz.sizeOf95
  v51 := Tryz.zeroValue95
  t53 := Tryz.underlying124
  a53 := Tryz.isAgg124
  z53 := Tryz.sizeOf124
  v53 := Tryz.zeroValue124
  t70 := Tryz.underlying222
  a70 := Tryz.isAgg222
  z70 := Tryz.sizeOf222
  v70 := Tryz.zeroValue222
  t72 := Tryz.underlying224
  a72 := Tryz.isAgg224
  z72 := Tryz.sizeOf224
  v72 := Tryz.zeroValue224
  t75 := Tryz.underlying218
  a75 := Tryz.isAgg218
  z75 := Tryz.sizeOf218
  v75 := Tryz.zeroValue218
  t76 := Tryz.underlying229
  a76 := Tryz.isAgg229
  z76 := Tryz.sizeOf229
  v76 := Tryz.zeroValue229
  t109 := Tryz.underlying241
  a109 := Tryz.isAgg241
  z109 := Tryz.sizeOf241
  v109 := Tryz.zeroValue241
  t127 := Tryz.underlying244
  a127 := Tryz.isAgg244
  z127 := Tryz.sizeOf244
  v127 := Tryz.zeroValue244
  t146 := Tryz.underlying214
  a146 := Tryz.isAgg214
  z146 := Tryz.sizeOf214
  v146 := Tryz.zeroValue214
  t148 := Tryz.underlying264
  a148 := Tryz.isAgg264
  z148 := Tryz.sizeOf264
  v148 := Tryz.zeroValue264
  t164 := Tryz.underlying261
  a164 := Tryz.isAgg261
  z164 := Tryz.sizeOf261
  v164 := Tryz.zeroValue261 }
theorem Tryz.Builder_Extra_105 : Builder.Extra Tryz.prog Tryz.lays105_ren := {
  sizeBuilder := by kernel_rfl
  liesBuilder := by kernel_rfl
  t5 := Tryz.underlying5
  a5 := Tryz.isAgg5
  z5 := Tryz.sizeOf5
  v5 := Tryz.zeroValue5
  infoByte := by kernel_rfl
  cellsByte := by kernel_rfl
  sizeByte := by kernel_rfl
  neB5 := by decide }
open Go.RowKit Go.Lib in
theorem Tryz.strings_Repeat (s : ByteArray) (c : Nat) (w : World) (hc : c ≤ 9223372036854775807) (hlen : s.size * c ≤ 140737488355328) :
    Calls Tryz.prog 206 #[.string s, .int .i64 c] w fun e w' => e = .returned (.string ⟨(Lib.repeatL s.data.toList c).toArray⟩) ∧ Below w.heap.size w w' := Any.strings_Repeat Tryz.lays105 Tryz.Builder_Extra_105 s c w hc hlen
end Go.Proofs
