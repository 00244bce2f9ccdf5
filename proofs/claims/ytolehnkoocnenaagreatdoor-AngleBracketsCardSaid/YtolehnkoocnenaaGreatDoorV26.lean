/- A part of a proof; the last text of this claim says of what. -/
import Derived.Test.YtolehnkoocnenaaGreatDoorV25
import Derived.Test.YtolehnkoocnenaaGreatDoorProg
import Derived.KernelRfl
import Derived.Lib.ItoaNum
import Derived.Lib.Bytealg
import Derived.Lib.ParseIntB
import Derived.Shelf.Strings.Builder1
import Derived.Shelf.Strings.Builder2
import Derived.Shelf.Strings.BuilderF
import Derived.Shelf.Strings.BuilderK
import Derived.Shelf.Strconv.Itoa0
import Derived.Shelf.Strconv.Itoa1
import Derived.Shelf.LaysM
import Derived.Shelf.Strconv.Itoa2
import Derived.Shelf.Strconv.Itoa3
import Derived.Shelf.Strconv.Itoa4
import Derived.Shelf.Strconv.ParseIntEmpty
import Derived.Shelf.Strconv.Clone
import Derived.Shelf.Strconv.SyntaxError
import Derived.Shelf.LaysC
import Derived.Shelf.Strconv.ToError
import Derived.Shelf.Strconv.Lower
import Derived.Shelf.Strconv.ParseUint10
import Derived.Shelf.Strconv.ParseUint10Empty
import Derived.Shelf.Strconv.ParseUint10Any
import Derived.Shelf.Strconv.ParseInt10
import Derived.Shelf.Strconv.RangeError
import Derived.Shelf.Strconv.ToErrorRange
import Derived.Shelf.Strconv.ParseUintEmpty
import Derived.Shelf.Strconv.ParseUint10b64
import Derived.Shelf.Strconv.ParseUint10b32
import Derived.Shelf.Strconv.ParseUint10b16
import Derived.Shelf.Strconv.ParseUint10b8
import Derived.Shelf.Strconv.ParseUint10At
import Derived.Shelf.Strconv.ParseInt10At64
import Derived.Shelf.Strconv.ParseInt10At32
import Derived.Shelf.Strconv.ParseInt10At16
import Derived.Shelf.Strconv.ParseInt10At8
import Derived.Shelf.Strconv.ParseInt10All
import Derived.Shelf.Strconv.ParseIntPublic10
import Derived.Ground.MpProg
import Derived.Shelf.Pu.ParseUintPublic10
import Derived.Shelf.Strings.Search1
import Derived.Shelf.Strings.Search2
import Derived.Shelf.Strings.Cut
import Derived.Shelf.Strings.Shaped
import Derived.Shelf.Strings.Prefix
import Derived.Shelf.Bits.Mul64
import Derived.Shelf.Strings.Repeat
import Derived.Ground.Names2Prog
import Derived.Shelf.Slices.SearchI
import Derived.WalkKit
import Derived.RangeFuncBox
import Derived.RangeFuncLeaves
import Derived.Shelf.Abstract
import Derived.OwnWalkIn
import Derived.TacticsInMore
import Derived.LoopNIn
import Derived.LoopIn
import Derived.Lib.Walk
import Derived.Lib.ItoaMem
import Derived.Lib.AppendIntMem
import Derived.BigCall
import Derived.BigGuard
import Derived.Below
import Derived.Lib.OthersKept
import Derived.RangeFuncCalls
import Derived.RangeFuncWrites
set_option linter.unusedVariables false
set_option linter.unusedSimpArgs false
set_option linter.unusedSectionVars false
namespace Go.Proofs.YtolehnkoocnenaaGreatDoor.S
open Go Go.Sx
set_option maxRecDepth 100000
def tab : TT := (.node (.node (.node (.node (.node (.node (.node (.node .nil 1 ⟨1, false, .func, [.val .nilFunc], [], 8⟩
 .nil) 2 ⟨1, false, .int .i64, [.val (.int .i64 0)], [], 8⟩
 (.node .nil 3 ⟨1, false, .int .i64, [.val (.int .i64 0)], [], 8⟩
 .nil)) 4 ⟨1, false, .bool, [.val (.bool false)], [], 1⟩
 (.node (.node .nil 5 ⟨1, false, .int .u8, [.val (.int .u8 0)], [], 1⟩
 .nil) 6 ⟨1, false, .int .u8, [.val (.int .u8 0)], [], 1⟩
 .nil)) 7 ⟨4, true, .struct [(0, 2), (1, 3), (2, 4), (3, 6)], [.val (.int .i64 0), .val (.int .i64 0), .val (.bool false), .val (.int .u8 0)], [], 24⟩
 (.node (.node (.node .nil 8 ⟨4, true, .struct [(0, 2), (1, 3), (2, 4), (3, 6)], [.val (.int .i64 0), .val (.int .i64 0), .val (.bool false), .val (.int .u8 0)], [], 24⟩
 .nil) 9 ⟨1, false, .string, [.val (.string ⟨#[]⟩)], [], 16⟩
 (.node .nil 10 ⟨1, false, .string, [.val (.string ⟨#[]⟩)], [], 16⟩
 .nil)) 11 ⟨1, false, .string, [.val (.string ⟨#[]⟩)], [], 16⟩
 (.node (.node .nil 12 ⟨1, false, .int .u64, [.val (.int .u64 0)], [], 8⟩
 .nil) 13 ⟨2, true, .struct [(0, 9), (1, 12)], [.val (.string ⟨#[]⟩), .val (.int .u64 0)], [], 24⟩
 .nil))) 14 ⟨2, true, .struct [(0, 9), (1, 12)], [.val (.string ⟨#[]⟩), .val (.int .u64 0)], [], 24⟩
 (.node (.node (.node (.node .nil 18 ⟨1, true, .struct [(0, 17)], [.val (.pointer none)], [], 8⟩
 .nil) 19 ⟨1, true, .struct [(0, 17)], [.val (.pointer none)], [], 8⟩
 (.node .nil 21 ⟨1, false, .int .i32, [.val (.int .i32 0)], [], 4⟩
 .nil)) 22 ⟨1, false, .string, [.val (.string ⟨#[]⟩)], [], 16⟩
 (.node (.node .nil 23 ⟨1, false, .func, [.val .nilFunc], [], 8⟩
 .nil) 24 ⟨2, true, .struct [(0, 22), (1, 22)], [.val (.string ⟨#[]⟩), .val (.string ⟨#[]⟩)], [], 32⟩
 .nil)) 25 ⟨2, true, .struct [(0, 22), (1, 22)], [.val (.string ⟨#[]⟩), .val (.string ⟨#[]⟩)], [.string, .string], 32⟩
 (.node (.node (.node .nil 26 ⟨1, false, .int .i64, [.val (.int .i64 0)], [], 8⟩
 .nil) 28 ⟨1, false, .func, [.val .nilFunc], [], 8⟩
 (.node .nil 29 ⟨1, false, .func, [.val .nilFunc], [], 8⟩
 .nil)) 30 ⟨1, false, .func, [.val .nilFunc], [], 8⟩
 (.node (.node .nil 31 ⟨1, false, .func, [.val .nilFunc], [], 8⟩
 .nil) 32 ⟨1, false, .func, [.val .nilFunc], [], 8⟩
 .nil)))) 33 ⟨1, false, .func, [.val .nilFunc], [], 8⟩
 (.node (.node (.node (.node (.node .nil 35 ⟨1, false, .func, [.val .nilFunc], [], 8⟩
 .nil) 36 ⟨1, false, .func, [.val .nilFunc], [], 8⟩
 (.node .nil 37 ⟨1, false, .func, [.val .nilFunc], [], 8⟩
 .nil)) 39 ⟨1, false, .func, [.val .nilFunc], [], 8⟩
 (.node (.node .nil 40 ⟨1, false, .func, [.val .nilFunc], [], 8⟩
 .nil) 41 ⟨1, false, .func, [.val .nilFunc], [], 8⟩
 .nil)) 43 ⟨1, false, .func, [.val .nilFunc], [], 8⟩
 (.node (.node (.node .nil 44 ⟨1, false, .func, [.val .nilFunc], [], 8⟩
 .nil) 45 ⟨1, false, .func, [.val .nilFunc], [], 8⟩
 (.node .nil 46 ⟨1, false, .func, [.val .nilFunc], [], 8⟩
 .nil)) 48 ⟨1, false, .func, [.val .nilFunc], [], 8⟩
 (.node (.node .nil 49 ⟨1, false, .func, [.val .nilFunc], [], 8⟩
 .nil) 50 ⟨1, false, .func, [.val .nilFunc], [], 8⟩
 .nil))) 51 ⟨1, false, .func, [.val .nilFunc], [], 8⟩
 (.node (.node (.node (.node .nil 52 ⟨1, false, .func, [.val .nilFunc], [], 8⟩
 .nil) 53 ⟨1, false, .func, [.val .nilFunc], [], 8⟩
 (.node .nil 54 ⟨1, false, .func, [.val .nilFunc], [], 8⟩
 .nil)) 55 ⟨1, false, .slice 109, [.sl 0 []], [], 24⟩
 (.node (.node .nil 56 ⟨1, false, .slice 109, [.sl 0 []], [], 24⟩
 .nil) 57 ⟨2, true, .struct [(0, 4), (1, 56)], [.val (.bool false), .sl 0 []], [], 32⟩
 .nil)) 58 ⟨2, true, .struct [(0, 4), (1, 56)], [.val (.bool false), .sl 0 []], [], 32⟩
 (.node (.node (.node .nil 59 ⟨3, true, .struct [(0, 58), (2, 56)], [.val (.bool false), .sl 0 [], .sl 0 []], [], 56⟩
 .nil) 60 ⟨3, true, .struct [(0, 58), (2, 56)], [.val (.bool false), .sl 0 [], .sl 0 []], [], 56⟩
 (.node .nil 61 ⟨6, true, .struct [(0, 60), (3, 60)], [.val (.bool false), .sl 0 [], .sl 0 [], .val (.bool false), .sl 0 [], .sl 0 []], [], 112⟩
 .nil)) 62 ⟨6, true, .struct [(0, 60), (3, 60)], [.val (.bool false), .sl 0 [], .sl 0 [], .val (.bool false), .sl 0 [], .sl 0 []], [], 112⟩
 (.node (.node .nil 63 ⟨1, false, .func, [.val .nilFunc], [], 8⟩
 .nil) 64 ⟨1, false, .func, [.val .nilFunc], [], 8⟩
 .nil))))) 65 ⟨1, false, .func, [.val .nilFunc], [], 8⟩
 (.node (.node (.node (.node (.node (.node .nil 67 ⟨1, false, .func, [.val .nilFunc], [], 8⟩
 .nil) 68 ⟨1, false, .func, [.val .nilFunc], [], 8⟩
 (.node .nil 69 ⟨1, false, .func, [.val .nilFunc], [], 8⟩
 .nil)) 71 ⟨1, false, .func, [.val .nilFunc], [], 8⟩
 (.node (.node .nil 72 ⟨1, false, .func, [.val .nilFunc], [], 8⟩
 .nil) 73 ⟨1, false, .func, [.val .nilFunc], [], 8⟩
 .nil)) 74 ⟨1, false, .func, [.val .nilFunc], [], 8⟩
 (.node (.node (.node .nil 75 ⟨1, false, .func, [.val .nilFunc], [], 8⟩
 .nil) 76 ⟨1, false, .func, [.val .nilFunc], [], 8⟩
 (.node .nil 77 ⟨2, true, .struct [(0, 9), (1, 9)], [.val (.string ⟨#[]⟩), .val (.string ⟨#[]⟩)], [], 32⟩
 .nil)) 78 ⟨2, true, .struct [(0, 9), (1, 9)], [.val (.string ⟨#[]⟩), .val (.string ⟨#[]⟩)], [.string, .string], 32⟩
 (.node (.node .nil 80 ⟨1, false, .func, [.val .nilFunc], [], 8⟩
 .nil) 81 ⟨1, false, .func, [.val .nilFunc], [], 8⟩
 .nil))) 83 ⟨1, false, .func, [.val .nilFunc], [], 8⟩
 (.node (.node (.node (.node .nil 84 ⟨1, false, .func, [.val .nilFunc], [], 8⟩
 .nil) 85 ⟨1, false, .slice 22, [.sl 0 []], [], 24⟩
 (.node .nil 86 ⟨1, false, .func, [.val .nilFunc], [], 8⟩
 .nil)) 87 ⟨1, false, .func, [.val .nilFunc], [], 8⟩
 (.node (.node .nil 88 ⟨1, false, .func, [.val .nilFunc], [], 8⟩
 .nil) 89 ⟨1, false, .func, [.val .nilFunc], [], 8⟩
 .nil)) 91 ⟨1, false, .func, [.val .nilFunc], [], 8⟩
 (.node (.node (.node .nil 92 ⟨1, false, .func, [.val .nilFunc], [], 8⟩
 .nil) 93 ⟨1, false, .func, [.val .nilFunc], [], 8⟩
 (.node .nil 94 ⟨1, false, .func, [.val .nilFunc], [], 8⟩
 .nil)) 95 ⟨1, false, .func, [.val .nilFunc], [], 8⟩
 (.node (.node .nil 96 ⟨2, true, .struct [(0, 22), (1, 22)], [.val (.string ⟨#[]⟩), .val (.string ⟨#[]⟩)], [.string, .string], 32⟩
 .nil) 97 ⟨1, false, .func, [.val .nilFunc], [], 8⟩
 .nil)))) 98 ⟨1, false, .func, [.val .nilFunc], [], 8⟩
 (.node (.node (.node (.node (.node .nil 99 ⟨1, false, .func, [.val .nilFunc], [], 8⟩
 .nil) 100 ⟨1, false, .func, [.val .nilFunc], [], 8⟩
 (.node .nil 102 ⟨1, false, .func, [.val .nilFunc], [], 8⟩
 .nil)) 104 ⟨1, false, .func, [.val .nilFunc], [], 8⟩
 (.node (.node .nil 105 ⟨1, false, .func, [.val .nilFunc], [], 8⟩
 .nil) 106 ⟨1, false, .func, [.val .nilFunc], [], 8⟩
 .nil)) 107 ⟨1, false, .func, [.val .nilFunc], [], 8⟩
 (.node (.node (.node .nil 108 ⟨1, false, .func, [.val .nilFunc], [], 8⟩
 .nil) 109 ⟨1, false, .int .u32, [.val (.int .u32 0)], [], 4⟩
 (.node .nil 110 ⟨1, false, .func, [.val .nilFunc], [], 8⟩
 .nil)) 111 ⟨1, false, .func, [.val .nilFunc], [], 8⟩
 (.node (.node .nil 112 ⟨1, false, .func, [.val .nilFunc], [], 8⟩
 .nil) 113 ⟨1, false, .func, [.val .nilFunc], [], 8⟩
 .nil))) 114 ⟨1, false, .func, [.val .nilFunc], [], 8⟩
 (.node (.node (.node (.node .nil 115 ⟨1, false, .func, [.val .nilFunc], [], 8⟩
 .nil) 116 ⟨1, false, .func, [.val .nilFunc], [], 8⟩
 (.node .nil 117 ⟨2, true, .struct [(0, 4), (1, 9)], [.val (.bool false), .val (.string ⟨#[]⟩)], [], 24⟩
 .nil)) 118 ⟨2, true, .struct [(0, 4), (1, 9)], [.val (.bool false), .val (.string ⟨#[]⟩)], [.bool, .string], 24⟩
 (.node (.node .nil 120 ⟨1, false, .func, [.val .nilFunc], [], 8⟩
 .nil) 121 ⟨1, false, .func, [.val .nilFunc], [], 8⟩
 .nil)) 122 ⟨1, false, .func, [.val .nilFunc], [], 8⟩
 (.node (.node (.node .nil 123 ⟨1, false, .func, [.val .nilFunc], [], 8⟩
 .nil) 124 ⟨1, false, .func, [.val .nilFunc], [], 8⟩
 (.node .nil 125 ⟨1, false, .func, [.val .nilFunc], [], 8⟩
 .nil)) 126 ⟨1, false, .func, [.val .nilFunc], [], 8⟩
 (.node (.node .nil 127 ⟨1, false, .func, [.val .nilFunc], [], 8⟩
 .nil) 128 ⟨1, false, .func, [.val .nilFunc], [], 8⟩
 .nil)))))) 129 ⟨1, false, .func, [.val .nilFunc], [], 8⟩
 (.node (.node (.node (.node (.node (.node (.node .nil 130 ⟨1, false, .map 5, [.val (.map none)], [], 8⟩
 .nil) 131 ⟨1, false, .func, [.val .nilFunc], [], 8⟩
 (.node .nil 132 ⟨1, false, .func, [.val .nilFunc], [], 8⟩
 .nil)) 133 ⟨4, true, .array 4 22, [.val (.string ⟨#[]⟩), .val (.string ⟨#[]⟩), .val (.string ⟨#[]⟩), .val (.string ⟨#[]⟩)], [], 64⟩
 (.node (.node .nil 134 ⟨2, true, .array 2 22, [.val (.string ⟨#[]⟩), .val (.string ⟨#[]⟩)], [], 32⟩
 .nil) 135 ⟨1, false, .func, [.val .nilFunc], [], 8⟩
 .nil)) 136 ⟨1, false, .func, [.val .nilFunc], [], 8⟩
 (.node (.node (.node .nil 137 ⟨1, false, .func, [.val .nilFunc], [], 8⟩
 .nil) 138 ⟨1, false, .func, [.val .nilFunc], [], 8⟩
 (.node .nil 139 ⟨1, false, .func, [.val .nilFunc], [], 8⟩
 .nil)) 140 ⟨1, false, .func, [.val .nilFunc], [], 8⟩
 (.node (.node .nil 141 ⟨1, false, .func, [.val .nilFunc], [], 8⟩
 .nil) 142 ⟨1, false, .func, [.val .nilFunc], [], 8⟩
 .nil))) 143 ⟨1, false, .func, [.val .nilFunc], [], 8⟩
 (.node (.node (.node (.node .nil 144 ⟨1, false, .int .u64, [.val (.int .u64 0)], [], 8⟩
 .nil) 145 ⟨1, false, .func, [.val .nilFunc], [], 8⟩
 (.node .nil 146 ⟨1, false, .func, [.val .nilFunc], [], 8⟩
 .nil)) 148 ⟨1, false, .func, [.val .nilFunc], [], 8⟩
 (.node (.node .nil 150 ⟨1, false, .func, [.val .nilFunc], [], 8⟩
 .nil) 152 ⟨1, false, .func, [.val .nilFunc], [], 8⟩
 .nil)) 153 ⟨1, false, .func, [.val .nilFunc], [], 8⟩
 (.node (.node (.node .nil 154 ⟨1, false, .func, [.val .nilFunc], [], 8⟩
 .nil) 155 ⟨2, true, .array 2 154, [.val .nilFunc, .val .nilFunc], [], 16⟩
 (.node .nil 156 ⟨4, true, .array 2 155, [.val .nilFunc, .val .nilFunc, .val .nilFunc, .val .nilFunc], [], 32⟩
 .nil)) 157 ⟨1, false, .func, [.val .nilFunc], [], 8⟩
 (.node (.node .nil 158 ⟨1, false, .slice 5, [.sl 0 []], [], 24⟩
 .nil) 159 ⟨1, false, .func, [.val .nilFunc], [], 8⟩
 .nil)))) 160 ⟨1, false, .func, [.val .nilFunc], [], 8⟩
 (.node (.node (.node (.node (.node .nil 162 ⟨1, false, .func, [.val .nilFunc], [], 8⟩
 .nil) 163 ⟨1, false, .func, [.val .nilFunc], [], 8⟩
 (.node .nil 165 ⟨1, false, .func, [.val .nilFunc], [], 8⟩
 .nil)) 166 ⟨1, false, .slice 109, [.sl 0 []], [], 24⟩
 (.node (.node .nil 168 ⟨1, false, .func, [.val .nilFunc], [], 8⟩
 .nil) 169 ⟨1, false, .func, [.val .nilFunc], [], 8⟩
 .nil)) 170 ⟨1, false, .func, [.val .nilFunc], [], 8⟩
 (.node (.node (.node .nil 171 ⟨1, false, .func, [.val .nilFunc], [], 8⟩
 .nil) 172 ⟨1, false, .func, [.val .nilFunc], [], 8⟩
 (.node .nil 173 ⟨1, false, .func, [.val .nilFunc], [], 8⟩
 .nil)) 174 ⟨1, false, .func, [.val .nilFunc], [], 8⟩
 (.node (.node .nil 175 ⟨1, false, .func, [.val .nilFunc], [], 8⟩
 .nil) 176 ⟨1, false, .func, [.val .nilFunc], [], 8⟩
 .nil))) 178 ⟨1, false, .func, [.val .nilFunc], [], 8⟩
 (.node (.node (.node (.node .nil 179 ⟨1, false, .func, [.val .nilFunc], [], 8⟩
 .nil) 180 ⟨1, false, .func, [.val .nilFunc], [], 8⟩
 (.node .nil 181 ⟨1, false, .func, [.val .nilFunc], [], 8⟩
 .nil)) 182 ⟨1, false, .func, [.val .nilFunc], [], 8⟩
 (.node (.node .nil 183 ⟨1, false, .int .u64, [.val (.int .u64 0)], [], 8⟩
 .nil) 185 ⟨1, false, .func, [.val .nilFunc], [], 8⟩
 .nil)) 186 ⟨1, false, .func, [.val .nilFunc], [], 8⟩
 (.node (.node (.node .nil 188 ⟨1, false, .func, [.val .nilFunc], [], 8⟩
 .nil) 189 ⟨1, false, .func, [.val .nilFunc], [], 8⟩
 (.node .nil 193 ⟨1, false, .func, [.val .nilFunc], [], 8⟩
 .nil)) 195 ⟨2, true, .struct [(0, 194), (1, 158)], [.val (.pointer none), .sl 0 []], [], 32⟩
 (.node (.node .nil 196 ⟨2, true, .struct [(0, 194), (1, 158)], [.val (.pointer none), .sl 0 []], [], 32⟩
 .nil) 197 ⟨1, false, .func, [.val .nilFunc], [], 8⟩
 .nil))))) 198 ⟨1, false, .func, [.val .nilFunc], [], 8⟩
 (.node (.node (.node (.node (.node (.node .nil 199 ⟨1, false, .func, [.val .nilFunc], [], 8⟩
 .nil) 200 ⟨1, false, .func, [.val .nilFunc], [], 8⟩
 (.node .nil 202 ⟨1, false, .func, [.val .nilFunc], [], 8⟩
 .nil)) 203 ⟨1, false, .func, [.val .nilFunc], [], 8⟩
 (.node (.node .nil 204 ⟨1, false, .func, [.val .nilFunc], [], 8⟩
 .nil) 205 ⟨1, false, .func, [.val .nilFunc], [], 8⟩
 .nil)) 206 ⟨1, false, .func, [.val .nilFunc], [], 8⟩
 (.node (.node (.node .nil 208 ⟨1, false, .func, [.val .nilFunc], [], 8⟩
 .nil) 209 ⟨1, false, .func, [.val .nilFunc], [], 8⟩
 (.node .nil 211 ⟨1, false, .func, [.val .nilFunc], [], 8⟩
 .nil)) 213 ⟨1, false, .func, [.val .nilFunc], [], 8⟩
 (.node (.node .nil 214 ⟨1, false, .func, [.val .nilFunc], [], 8⟩
 .nil) 215 ⟨1, false, .func, [.val .nilFunc], [], 8⟩
 .nil))) 216 ⟨1, false, .func, [.val .nilFunc], [], 8⟩
 (.node (.node (.node (.node .nil 218 ⟨1, false, .func, [.val .nilFunc], [], 8⟩
 .nil) 219 ⟨1, false, .func, [.val .nilFunc], [], 8⟩
 (.node .nil 221 ⟨1, false, .func, [.val .nilFunc], [], 8⟩
 .nil)) 223 ⟨1, false, .func, [.val .nilFunc], [], 8⟩
 (.node (.node .nil 224 ⟨24, true, .array 24 5, [.val (.int .u8 0), .val (.int .u8 0), .val (.int .u8 0), .val (.int .u8 0), .val (.int .u8 0), .val (.int .u8 0), .val (.int .u8 0), .val (.int .u8 0), .val (.int .u8 0), .val (.int .u8 0), .val (.int .u8 0), .val (.int .u8 0), .val (.int .u8 0), .val (.int .u8 0), .val (.int .u8 0), .val (.int .u8 0), .val (.int .u8 0), .val (.int .u8 0), .val (.int .u8 0), .val (.int .u8 0), .val (.int .u8 0), .val (.int .u8 0), .val (.int .u8 0), .val (.int .u8 0)], [], 24⟩
 .nil) 225 ⟨1, false, .func, [.val .nilFunc], [], 8⟩
 .nil)) 226 ⟨1, false, .func, [.val .nilFunc], [], 8⟩
 (.node (.node (.node .nil 228 ⟨1, false, .func, [.val .nilFunc], [], 8⟩
 .nil) 229 ⟨1, false, .int .i64, [.val (.int .i64 0)], [], 8⟩
 (.node .nil 230 ⟨1, false, .func, [.val .nilFunc], [], 8⟩
 .nil)) 232 ⟨1, false, .func, [.val .nilFunc], [], 8⟩
 (.node (.node .nil 233 ⟨1, false, .func, [.val .nilFunc], [], 8⟩
 .nil) 235 ⟨1, false, .func, [.val .nilFunc], [], 8⟩
 .nil)))) 236 ⟨1, false, .func, [.val .nilFunc], [], 8⟩
 (.node (.node (.node (.node (.node .nil 238 ⟨1, false, .func, [.val .nilFunc], [], 8⟩
 .nil) 239 ⟨20, true, .array 20 144, [.val (.int .u64 0), .val (.int .u64 0), .val (.int .u64 0), .val (.int .u64 0), .val (.int .u64 0), .val (.int .u64 0), .val (.int .u64 0), .val (.int .u64 0), .val (.int .u64 0), .val (.int .u64 0), .val (.int .u64 0), .val (.int .u64 0), .val (.int .u64 0), .val (.int .u64 0), .val (.int .u64 0), .val (.int .u64 0), .val (.int .u64 0), .val (.int .u64 0), .val (.int .u64 0), .val (.int .u64 0)], [], 160⟩
 (.node .nil 240 ⟨65, true, .array 65 5, List.replicate 65 (.val (.int .u8 0)), [], 65⟩
 .nil)) 241 ⟨1, false, .func, [.val .nilFunc], [], 8⟩
 (.node (.node .nil 242 ⟨1, false, .func, [.val .nilFunc], [], 8⟩
 .nil) 243 ⟨3, true, .struct [(0, 9), (1, 9), (2, 191)], [.val (.string ⟨#[]⟩), .val (.string ⟨#[]⟩), .val .nilIface], [], 48⟩
 .nil)) 244 ⟨3, true, .struct [(0, 9), (1, 9), (2, 191)], [.val (.string ⟨#[]⟩), .val (.string ⟨#[]⟩), .val .nilIface], [], 48⟩
 (.node (.node (.node .nil 245 ⟨1, false, .func, [.val .nilFunc], [], 8⟩
 .nil) 246 ⟨1, false, .func, [.val .nilFunc], [], 8⟩
 (.node .nil 247 ⟨1, false, .func, [.val .nilFunc], [], 8⟩
 .nil)) 249 ⟨1, true, .struct [(0, 9)], [.val (.string ⟨#[]⟩)], [], 16⟩
 (.node (.node .nil 250 ⟨1, true, .struct [(0, 9)], [.val (.string ⟨#[]⟩)], [], 16⟩
 .nil) 251 ⟨32, true, .array 32 5, [.val (.int .u8 0), .val (.int .u8 0), .val (.int .u8 0), .val (.int .u8 0), .val (.int .u8 0), .val (.int .u8 0), .val (.int .u8 0), .val (.int .u8 0), .val (.int .u8 0), .val (.int .u8 0), .val (.int .u8 0), .val (.int .u8 0), .val (.int .u8 0), .val (.int .u8 0), .val (.int .u8 0), .val (.int .u8 0), .val (.int .u8 0), .val (.int .u8 0), .val (.int .u8 0), .val (.int .u8 0), .val (.int .u8 0), .val (.int .u8 0), .val (.int .u8 0), .val (.int .u8 0), .val (.int .u8 0), .val (.int .u8 0), .val (.int .u8 0), .val (.int .u8 0), .val (.int .u8 0), .val (.int .u8 0), .val (.int .u8 0), .val (.int .u8 0)], [], 32⟩
 .nil))) 252 ⟨64, true, .array 64 5, [.val (.int .u8 0), .val (.int .u8 0), .val (.int .u8 0), .val (.int .u8 0), .val (.int .u8 0), .val (.int .u8 0), .val (.int .u8 0), .val (.int .u8 0), .val (.int .u8 0), .val (.int .u8 0), .val (.int .u8 0), .val (.int .u8 0), .val (.int .u8 0), .val (.int .u8 0), .val (.int .u8 0), .val (.int .u8 0), .val (.int .u8 0), .val (.int .u8 0), .val (.int .u8 0), .val (.int .u8 0), .val (.int .u8 0), .val (.int .u8 0), .val (.int .u8 0), .val (.int .u8 0), .val (.int .u8 0), .val (.int .u8 0), .val (.int .u8 0), .val (.int .u8 0), .val (.int .u8 0), .val (.int .u8 0), .val (.int .u8 0), .val (.int .u8 0), .val (.int .u8 0), .val (.int .u8 0), .val (.int .u8 0), .val (.int .u8 0), .val (.int .u8 0), .val (.int .u8 0), .val (.int .u8 0), .val (.int .u8 0), .val (.int .u8 0), .val (.int .u8 0), .val (.int .u8 0), .val (.int .u8 0), .val (.int .u8 0), .val (.int .u8 0), .val (.int .u8 0), .val (.int .u8 0), .val (.int .u8 0), .val (.int .u8 0), .val (.int .u8 0), .val (.int .u8 0), .val (.int .u8 0), .val (.int .u8 0), .val (.int .u8 0), .val (.int .u8 0), .val (.int .u8 0), .val (.int .u8 0), .val (.int .u8 0), .val (.int .u8 0), .val (.int .u8 0), .val (.int .u8 0), .val (.int .u8 0), .val (.int .u8 0)], [], 64⟩
 (.node (.node (.node (.node .nil 253 ⟨4, true, .struct [(0, 17), (1, 17), (2, 17), (3, 9)], [.val (.pointer none), .val (.pointer none), .val (.pointer none), .val (.string ⟨#[]⟩)], [], 40⟩
 .nil) 254 ⟨4, true, .struct [(0, 17), (1, 17), (2, 17), (3, 9)], [.val (.pointer none), .val (.pointer none), .val (.pointer none), .val (.string ⟨#[]⟩)], [], 40⟩
 (.node .nil 255 ⟨0, true, .array 0 16, [], [], 0⟩
 .nil)) 256 ⟨0, true, .struct [(0, 255)], [], [], 0⟩
 (.node (.node .nil 257 ⟨0, true, .struct [(0, 255)], [], [], 0⟩
 .nil) 258 ⟨1, false, .int .u8, [.val (.int .u8 0)], [], 1⟩
 .nil)) 259 ⟨1, false, .int .u8, [.val (.int .u8 0)], [], 1⟩
 (.node (.node (.node .nil 260 ⟨1, false, .func, [.val .nilFunc], [], 8⟩
 .nil) 261 ⟨1, false, .int .i32, [.val (.int .i32 0)], [], 4⟩
 .nil) 262 ⟨1, false, .int .i32, [.val (.int .i32 0)], [], 4⟩
 (.node (.node .nil 263 ⟨11, true, .struct [(0, 12), (1, 12), (2, 109), (3, 258), (4, 5), (5, 5), (6, 259), (7, 260), (8, 220), (9, 261), (10, 262)], [.val (.int .u64 0), .val (.int .u64 0), .val (.int .u32 0), .val (.int .u8 0), .val (.int .u8 0), .val (.int .u8 0), .val (.int .u8 0), .val .nilFunc, .val (.pointer none), .val (.int .i32 0), .val (.int .i32 0)], [], 48⟩
 .nil) 264 ⟨11, true, .struct [(0, 12), (1, 12), (2, 109), (3, 258), (4, 5), (5, 5), (6, 259), (7, 260), (8, 220), (9, 261), (10, 262)], [.val (.int .u64 0), .val (.int .u64 0), .val (.int .u32 0), .val (.int .u8 0), .val (.int .u8 0), .val (.int .u8 0), .val (.int .u8 0), .val .nilFunc, .val (.pointer none), .val (.int .i32 0), .val (.int .i32 0)], [], 48⟩
 .nil)))))))
def T : Tab := tab.get
theorem tk : TOk Tryz.prog T := tOk_of (by kernel_rfl)
theorem ty :
  T 1 = some ⟨1, false, .func, [.val .nilFunc], [], 8⟩ ∧
  T 2 = some ⟨1, false, .int .i64, [.val (.int .i64 0)], [], 8⟩ ∧
  T 3 = some ⟨1, false, .int .i64, [.val (.int .i64 0)], [], 8⟩ ∧
  T 4 = some ⟨1, false, .bool, [.val (.bool false)], [], 1⟩ ∧
  T 5 = some ⟨1, false, .int .u8, [.val (.int .u8 0)], [], 1⟩ ∧
  T 6 = some ⟨1, false, .int .u8, [.val (.int .u8 0)], [], 1⟩ ∧
  T 7 = some ⟨4, true, .struct [(0, 2), (1, 3), (2, 4), (3, 6)], [.val (.int .i64 0), .val (.int .i64 0), .val (.bool false), .val (.int .u8 0)], [], 24⟩ ∧
  T 8 = some ⟨4, true, .struct [(0, 2), (1, 3), (2, 4), (3, 6)], [.val (.int .i64 0), .val (.int .i64 0), .val (.bool false), .val (.int .u8 0)], [], 24⟩ ∧
  T 9 = some ⟨1, false, .string, [.val (.string ⟨#[]⟩)], [], 16⟩ ∧
  T 10 = some ⟨1, false, .string, [.val (.string ⟨#[]⟩)], [], 16⟩ ∧
  T 11 = some ⟨1, false, .string, [.val (.string ⟨#[]⟩)], [], 16⟩ ∧
  T 12 = some ⟨1, false, .int .u64, [.val (.int .u64 0)], [], 8⟩ ∧
  T 13 = some ⟨2, true, .struct [(0, 9), (1, 12)], [.val (.string ⟨#[]⟩), .val (.int .u64 0)], [], 24⟩ ∧
  T 14 = some ⟨2, true, .struct [(0, 9), (1, 12)], [.val (.string ⟨#[]⟩), .val (.int .u64 0)], [], 24⟩ ∧
  T 18 = some ⟨1, true, .struct [(0, 17)], [.val (.pointer none)], [], 8⟩ ∧
  T 19 = some ⟨1, true, .struct [(0, 17)], [.val (.pointer none)], [], 8⟩ ∧
  T 21 = some ⟨1, false, .int .i32, [.val (.int .i32 0)], [], 4⟩ ∧
  T 22 = some ⟨1, false, .string, [.val (.string ⟨#[]⟩)], [], 16⟩ ∧
  T 23 = some ⟨1, false, .func, [.val .nilFunc], [], 8⟩ ∧
  T 24 = some ⟨2, true, .struct [(0, 22), (1, 22)], [.val (.string ⟨#[]⟩), .val (.string ⟨#[]⟩)], [], 32⟩ ∧
  T 25 = some ⟨2, true, .struct [(0, 22), (1, 22)], [.val (.string ⟨#[]⟩), .val (.string ⟨#[]⟩)], [.string, .string], 32⟩ ∧
  T 26 = some ⟨1, false, .int .i64, [.val (.int .i64 0)], [], 8⟩ ∧
  T 28 = some ⟨1, false, .func, [.val .nilFunc], [], 8⟩ ∧
  T 29 = some ⟨1, false, .func, [.val .nilFunc], [], 8⟩ ∧
  T 30 = some ⟨1, false, .func, [.val .nilFunc], [], 8⟩ ∧
  T 31 = some ⟨1, false, .func, [.val .nilFunc], [], 8⟩ ∧
  T 32 = some ⟨1, false, .func, [.val .nilFunc], [], 8⟩ ∧
  T 33 = some ⟨1, false, .func, [.val .nilFunc], [], 8⟩ ∧
  T 35 = some ⟨1, false, .func, [.val .nilFunc], [], 8⟩ ∧
  T 36 = some ⟨1, false, .func, [.val .nilFunc], [], 8⟩ ∧
  T 37 = some ⟨1, false, .func, [.val .nilFunc], [], 8⟩ ∧
  T 39 = some ⟨1, false, .func, [.val .nilFunc], [], 8⟩ ∧
  T 40 = some ⟨1, false, .func, [.val .nilFunc], [], 8⟩ ∧
  T 41 = some ⟨1, false, .func, [.val .nilFunc], [], 8⟩ ∧
  T 43 = some ⟨1, false, .func, [.val .nilFunc], [], 8⟩ ∧
  T 44 = some ⟨1, false, .func, [.val .nilFunc], [], 8⟩ ∧
  T 45 = some ⟨1, false, .func, [.val .nilFunc], [], 8⟩ ∧
  T 46 = some ⟨1, false, .func, [.val .nilFunc], [], 8⟩ ∧
  T 48 = some ⟨1, false, .func, [.val .nilFunc], [], 8⟩ ∧
  T 49 = some ⟨1, false, .func, [.val .nilFunc], [], 8⟩ ∧
  T 50 = some ⟨1, false, .func, [.val .nilFunc], [], 8⟩ ∧
  T 51 = some ⟨1, false, .func, [.val .nilFunc], [], 8⟩ ∧
  T 52 = some ⟨1, false, .func, [.val .nilFunc], [], 8⟩ ∧
  T 53 = some ⟨1, false, .func, [.val .nilFunc], [], 8⟩ ∧
  T 54 = some ⟨1, false, .func, [.val .nilFunc], [], 8⟩ ∧
  T 55 = some ⟨1, false, .slice 109, [.sl 0 []], [], 24⟩ ∧
  T 56 = some ⟨1, false, .slice 109, [.sl 0 []], [], 24⟩ ∧
  T 57 = some ⟨2, true, .struct [(0, 4), (1, 56)], [.val (.bool false), .sl 0 []], [], 32⟩ ∧
  T 58 = some ⟨2, true, .struct [(0, 4), (1, 56)], [.val (.bool false), .sl 0 []], [], 32⟩ ∧
  T 59 = some ⟨3, true, .struct [(0, 58), (2, 56)], [.val (.bool false), .sl 0 [], .sl 0 []], [], 56⟩ ∧
  T 60 = some ⟨3, true, .struct [(0, 58), (2, 56)], [.val (.bool false), .sl 0 [], .sl 0 []], [], 56⟩ ∧
  T 61 = some ⟨6, true, .struct [(0, 60), (3, 60)], [.val (.bool false), .sl 0 [], .sl 0 [], .val (.bool false), .sl 0 [], .sl 0 []], [], 112⟩ ∧
  T 62 = some ⟨6, true, .struct [(0, 60), (3, 60)], [.val (.bool false), .sl 0 [], .sl 0 [], .val (.bool false), .sl 0 [], .sl 0 []], [], 112⟩ ∧
  T 63 = some ⟨1, false, .func, [.val .nilFunc], [], 8⟩ ∧
  T 64 = some ⟨1, false, .func, [.val .nilFunc], [], 8⟩ ∧
  T 65 = some ⟨1, false, .func, [.val .nilFunc], [], 8⟩ ∧
  T 67 = some ⟨1, false, .func, [.val .nilFunc], [], 8⟩ ∧
  T 68 = some ⟨1, false, .func, [.val .nilFunc], [], 8⟩ ∧
  T 69 = some ⟨1, false, .func, [.val .nilFunc], [], 8⟩ ∧
  T 71 = some ⟨1, false, .func, [.val .nilFunc], [], 8⟩ ∧
  T 72 = some ⟨1, false, .func, [.val .nilFunc], [], 8⟩ ∧
  T 73 = some ⟨1, false, .func, [.val .nilFunc], [], 8⟩ ∧
  T 74 = some ⟨1, false, .func, [.val .nilFunc], [], 8⟩ ∧
  T 75 = some ⟨1, false, .func, [.val .nilFunc], [], 8⟩ ∧
  T 76 = some ⟨1, false, .func, [.val .nilFunc], [], 8⟩ ∧
  T 77 = some ⟨2, true, .struct [(0, 9), (1, 9)], [.val (.string ⟨#[]⟩), .val (.string ⟨#[]⟩)], [], 32⟩ ∧
  T 78 = some ⟨2, true, .struct [(0, 9), (1, 9)], [.val (.string ⟨#[]⟩), .val (.string ⟨#[]⟩)], [.string, .string], 32⟩ ∧
  T 80 = some ⟨1, false, .func, [.val .nilFunc], [], 8⟩ ∧
  T 81 = some ⟨1, false, .func, [.val .nilFunc], [], 8⟩ ∧
  T 83 = some ⟨1, false, .func, [.val .nilFunc], [], 8⟩ ∧
  T 84 = some ⟨1, false, .func, [.val .nilFunc], [], 8⟩ ∧
  T 85 = some ⟨1, false, .slice 22, [.sl 0 []], [], 24⟩ ∧
  T 86 = some ⟨1, false, .func, [.val .nilFunc], [], 8⟩ ∧
  T 87 = some ⟨1, false, .func, [.val .nilFunc], [], 8⟩ ∧
  T 88 = some ⟨1, false, .func, [.val .nilFunc], [], 8⟩ ∧
  T 89 = some ⟨1, false, .func, [.val .nilFunc], [], 8⟩ ∧
  T 91 = some ⟨1, false, .func, [.val .nilFunc], [], 8⟩ ∧
  T 92 = some ⟨1, false, .func, [.val .nilFunc], [], 8⟩ ∧
  T 93 = some ⟨1, false, .func, [.val .nilFunc], [], 8⟩ ∧
  T 94 = some ⟨1, false, .func, [.val .nilFunc], [], 8⟩ ∧
  T 95 = some ⟨1, false, .func, [.val .nilFunc], [], 8⟩ ∧
  T 96 = some ⟨2, true, .struct [(0, 22), (1, 22)], [.val (.string ⟨#[]⟩), .val (.string ⟨#[]⟩)], [.string, .string], 32⟩ ∧
  T 97 = some ⟨1, false, .func, [.val .nilFunc], [], 8⟩ ∧
  T 98 = some ⟨1, false, .func, [.val .nilFunc], [], 8⟩ ∧
  T 99 = some ⟨1, false, .func, [.val .nilFunc], [], 8⟩ ∧
  T 100 = some ⟨1, false, .func, [.val .nilFunc], [], 8⟩ ∧
  T 102 = some ⟨1, false, .func, [.val .nilFunc], [], 8⟩ ∧
  T 104 = some ⟨1, false, .func, [.val .nilFunc], [], 8⟩ ∧
  T 105 = some ⟨1, false, .func, [.val .nilFunc], [], 8⟩ ∧
  T 106 = some ⟨1, false, .func, [.val .nilFunc], [], 8⟩ ∧
  T 107 = some ⟨1, false, .func, [.val .nilFunc], [], 8⟩ ∧
  T 108 = some ⟨1, false, .func, [.val .nilFunc], [], 8⟩ ∧
  T 109 = some ⟨1, false, .int .u32, [.val (.int .u32 0)], [], 4⟩ ∧
  T 110 = some ⟨1, false, .func, [.val .nilFunc], [], 8⟩ ∧
  T 111 = some ⟨1, false, .func, [.val .nilFunc], [], 8⟩ ∧
  T 112 = some ⟨1, false, .func, [.val .nilFunc], [], 8⟩ ∧
  T 113 = some ⟨1, false, .func, [.val .nilFunc], [], 8⟩ ∧
  T 114 = some ⟨1, false, .func, [.val .nilFunc], [], 8⟩ ∧
  T 115 = some ⟨1, false, .func, [.val .nilFunc], [], 8⟩ ∧
  T 116 = some ⟨1, false, .func, [.val .nilFunc], [], 8⟩ ∧
  T 117 = some ⟨2, true, .struct [(0, 4), (1, 9)], [.val (.bool false), .val (.string ⟨#[]⟩)], [], 24⟩ ∧
  T 118 = some ⟨2, true, .struct [(0, 4), (1, 9)], [.val (.bool false), .val (.string ⟨#[]⟩)], [.bool, .string], 24⟩ ∧
  T 120 = some ⟨1, false, .func, [.val .nilFunc], [], 8⟩ ∧
  T 121 = some ⟨1, false, .func, [.val .nilFunc], [], 8⟩ ∧
  T 122 = some ⟨1, false, .func, [.val .nilFunc], [], 8⟩ ∧
  T 123 = some ⟨1, false, .func, [.val .nilFunc], [], 8⟩ ∧
  T 124 = some ⟨1, false, .func, [.val .nilFunc], [], 8⟩ ∧
  T 125 = some ⟨1, false, .func, [.val .nilFunc], [], 8⟩ ∧
  T 126 = some ⟨1, false, .func, [.val .nilFunc], [], 8⟩ ∧
  T 127 = some ⟨1, false, .func, [.val .nilFunc], [], 8⟩ ∧
  T 128 = some ⟨1, false, .func, [.val .nilFunc], [], 8⟩ ∧
  T 129 = some ⟨1, false, .func, [.val .nilFunc], [], 8⟩ ∧
  T 130 = some ⟨1, false, .map 5, [.val (.map none)], [], 8⟩ ∧
  T 131 = some ⟨1, false, .func, [.val .nilFunc], [], 8⟩ ∧
  T 132 = some ⟨1, false, .func, [.val .nilFunc], [], 8⟩ ∧
  T 133 = some ⟨4, true, .array 4 22, [.val (.string ⟨#[]⟩), .val (.string ⟨#[]⟩), .val (.string ⟨#[]⟩), .val (.string ⟨#[]⟩)], [], 64⟩ ∧
  T 134 = some ⟨2, true, .array 2 22, [.val (.string ⟨#[]⟩), .val (.string ⟨#[]⟩)], [], 32⟩ ∧
  T 135 = some ⟨1, false, .func, [.val .nilFunc], [], 8⟩ ∧
  T 136 = some ⟨1, false, .func, [.val .nilFunc], [], 8⟩ ∧
  T 137 = some ⟨1, false, .func, [.val .nilFunc], [], 8⟩ ∧
  T 138 = some ⟨1, false, .func, [.val .nilFunc], [], 8⟩ ∧
  T 139 = some ⟨1, false, .func, [.val .nilFunc], [], 8⟩ ∧
  T 140 = some ⟨1, false, .func, [.val .nilFunc], [], 8⟩ ∧
  T 141 = some ⟨1, false, .func, [.val .nilFunc], [], 8⟩ ∧
  T 142 = some ⟨1, false, .func, [.val .nilFunc], [], 8⟩ ∧
  T 143 = some ⟨1, false, .func, [.val .nilFunc], [], 8⟩ ∧
  T 144 = some ⟨1, false, .int .u64, [.val (.int .u64 0)], [], 8⟩ ∧
  T 145 = some ⟨1, false, .func, [.val .nilFunc], [], 8⟩ ∧
  T 146 = some ⟨1, false, .func, [.val .nilFunc], [], 8⟩ ∧
  T 148 = some ⟨1, false, .func, [.val .nilFunc], [], 8⟩ ∧
  T 150 = some ⟨1, false, .func, [.val .nilFunc], [], 8⟩ ∧
  T 152 = some ⟨1, false, .func, [.val .nilFunc], [], 8⟩ ∧
  T 153 = some ⟨1, false, .func, [.val .nilFunc], [], 8⟩ ∧
  T 154 = some ⟨1, false, .func, [.val .nilFunc], [], 8⟩ ∧
  T 155 = some ⟨2, true, .array 2 154, [.val .nilFunc, .val .nilFunc], [], 16⟩ ∧
  T 156 = some ⟨4, true, .array 2 155, [.val .nilFunc, .val .nilFunc, .val .nilFunc, .val .nilFunc], [], 32⟩ ∧
  T 157 = some ⟨1, false, .func, [.val .nilFunc], [], 8⟩ ∧
  T 158 = some ⟨1, false, .slice 5, [.sl 0 []], [], 24⟩ ∧
  T 159 = some ⟨1, false, .func, [.val .nilFunc], [], 8⟩ ∧
  T 160 = some ⟨1, false, .func, [.val .nilFunc], [], 8⟩ ∧
  T 162 = some ⟨1, false, .func, [.val .nilFunc], [], 8⟩ ∧
  T 163 = some ⟨1, false, .func, [.val .nilFunc], [], 8⟩ ∧
  T 165 = some ⟨1, false, .func, [.val .nilFunc], [], 8⟩ ∧
  T 166 = some ⟨1, false, .slice 109, [.sl 0 []], [], 24⟩ ∧
  T 168 = some ⟨1, false, .func, [.val .nilFunc], [], 8⟩ ∧
  T 169 = some ⟨1, false, .func, [.val .nilFunc], [], 8⟩ ∧
  T 170 = some ⟨1, false, .func, [.val .nilFunc], [], 8⟩ ∧
  T 171 = some ⟨1, false, .func, [.val .nilFunc], [], 8⟩ ∧
  T 172 = some ⟨1, false, .func, [.val .nilFunc], [], 8⟩ ∧
  T 173 = some ⟨1, false, .func, [.val .nilFunc], [], 8⟩ ∧
  T 174 = some ⟨1, false, .func, [.val .nilFunc], [], 8⟩ ∧
  T 175 = some ⟨1, false, .func, [.val .nilFunc], [], 8⟩ ∧
  T 176 = some ⟨1, false, .func, [.val .nilFunc], [], 8⟩ ∧
  T 178 = some ⟨1, false, .func, [.val .nilFunc], [], 8⟩ ∧
  T 179 = some ⟨1, false, .func, [.val .nilFunc], [], 8⟩ ∧
  T 180 = some ⟨1, false, .func, [.val .nilFunc], [], 8⟩ ∧
  T 181 = some ⟨1, false, .func, [.val .nilFunc], [], 8⟩ ∧
  T 182 = some ⟨1, false, .func, [.val .nilFunc], [], 8⟩ ∧
  T 183 = some ⟨1, false, .int .u64, [.val (.int .u64 0)], [], 8⟩ ∧
  T 185 = some ⟨1, false, .func, [.val .nilFunc], [], 8⟩ ∧
  T 186 = some ⟨1, false, .func, [.val .nilFunc], [], 8⟩ ∧
  T 188 = some ⟨1, false, .func, [.val .nilFunc], [], 8⟩ ∧
  T 189 = some ⟨1, false, .func, [.val .nilFunc], [], 8⟩ ∧
  T 193 = some ⟨1, false, .func, [.val .nilFunc], [], 8⟩ ∧
  T 195 = some ⟨2, true, .struct [(0, 194), (1, 158)], [.val (.pointer none), .sl 0 []], [], 32⟩ ∧
  T 196 = some ⟨2, true, .struct [(0, 194), (1, 158)], [.val (.pointer none), .sl 0 []], [], 32⟩ ∧
  T 197 = some ⟨1, false, .func, [.val .nilFunc], [], 8⟩ ∧
  T 198 = some ⟨1, false, .func, [.val .nilFunc], [], 8⟩ ∧
  T 199 = some ⟨1, false, .func, [.val .nilFunc], [], 8⟩ ∧
  T 200 = some ⟨1, false, .func, [.val .nilFunc], [], 8⟩ ∧
  T 202 = some ⟨1, false, .func, [.val .nilFunc], [], 8⟩ ∧
  T 203 = some ⟨1, false, .func, [.val .nilFunc], [], 8⟩ ∧
  T 204 = some ⟨1, false, .func, [.val .nilFunc], [], 8⟩ ∧
  T 205 = some ⟨1, false, .func, [.val .nilFunc], [], 8⟩ ∧
  T 206 = some ⟨1, false, .func, [.val .nilFunc], [], 8⟩ ∧
  T 208 = some ⟨1, false, .func, [.val .nilFunc], [], 8⟩ ∧
  T 209 = some ⟨1, false, .func, [.val .nilFunc], [], 8⟩ ∧
  T 211 = some ⟨1, false, .func, [.val .nilFunc], [], 8⟩ ∧
  T 213 = some ⟨1, false, .func, [.val .nilFunc], [], 8⟩ ∧
  T 214 = some ⟨1, false, .func, [.val .nilFunc], [], 8⟩ ∧
  T 215 = some ⟨1, false, .func, [.val .nilFunc], [], 8⟩ ∧
  T 216 = some ⟨1, false, .func, [.val .nilFunc], [], 8⟩ ∧
  T 218 = some ⟨1, false, .func, [.val .nilFunc], [], 8⟩ ∧
  T 219 = some ⟨1, false, .func, [.val .nilFunc], [], 8⟩ ∧
  T 221 = some ⟨1, false, .func, [.val .nilFunc], [], 8⟩ ∧
  T 223 = some ⟨1, false, .func, [.val .nilFunc], [], 8⟩ ∧
  T 224 = some ⟨24, true, .array 24 5, [.val (.int .u8 0), .val (.int .u8 0), .val (.int .u8 0), .val (.int .u8 0), .val (.int .u8 0), .val (.int .u8 0), .val (.int .u8 0), .val (.int .u8 0), .val (.int .u8 0), .val (.int .u8 0), .val (.int .u8 0), .val (.int .u8 0), .val (.int .u8 0), .val (.int .u8 0), .val (.int .u8 0), .val (.int .u8 0), .val (.int .u8 0), .val (.int .u8 0), .val (.int .u8 0), .val (.int .u8 0), .val (.int .u8 0), .val (.int .u8 0), .val (.int .u8 0), .val (.int .u8 0)], [], 24⟩ ∧
  T 225 = some ⟨1, false, .func, [.val .nilFunc], [], 8⟩ ∧
  T 226 = some ⟨1, false, .func, [.val .nilFunc], [], 8⟩ ∧
  T 228 = some ⟨1, false, .func, [.val .nilFunc], [], 8⟩ ∧
  T 229 = some ⟨1, false, .int .i64, [.val (.int .i64 0)], [], 8⟩ ∧
  T 230 = some ⟨1, false, .func, [.val .nilFunc], [], 8⟩ ∧
  T 232 = some ⟨1, false, .func, [.val .nilFunc], [], 8⟩ ∧
  T 233 = some ⟨1, false, .func, [.val .nilFunc], [], 8⟩ ∧
  T 235 = some ⟨1, false, .func, [.val .nilFunc], [], 8⟩ ∧
  T 236 = some ⟨1, false, .func, [.val .nilFunc], [], 8⟩ ∧
  T 238 = some ⟨1, false, .func, [.val .nilFunc], [], 8⟩ ∧
  T 239 = some ⟨20, true, .array 20 144, [.val (.int .u64 0), .val (.int .u64 0), .val (.int .u64 0), .val (.int .u64 0), .val (.int .u64 0), .val (.int .u64 0), .val (.int .u64 0), .val (.int .u64 0), .val (.int .u64 0), .val (.int .u64 0), .val (.int .u64 0), .val (.int .u64 0), .val (.int .u64 0), .val (.int .u64 0), .val (.int .u64 0), .val (.int .u64 0), .val (.int .u64 0), .val (.int .u64 0), .val (.int .u64 0), .val (.int .u64 0)], [], 160⟩ ∧
  T 240 = some ⟨65, true, .array 65 5, List.replicate 65 (.val (.int .u8 0)), [], 65⟩ ∧
  T 241 = some ⟨1, false, .func, [.val .nilFunc], [], 8⟩ ∧
  T 242 = some ⟨1, false, .func, [.val .nilFunc], [], 8⟩ ∧
  T 243 = some ⟨3, true, .struct [(0, 9), (1, 9), (2, 191)], [.val (.string ⟨#[]⟩), .val (.string ⟨#[]⟩), .val .nilIface], [], 48⟩ ∧
  T 244 = some ⟨3, true, .struct [(0, 9), (1, 9), (2, 191)], [.val (.string ⟨#[]⟩), .val (.string ⟨#[]⟩), .val .nilIface], [], 48⟩ ∧
  T 245 = some ⟨1, false, .func, [.val .nilFunc], [], 8⟩ ∧
  T 246 = some ⟨1, false, .func, [.val .nilFunc], [], 8⟩ ∧
  T 247 = some ⟨1, false, .func, [.val .nilFunc], [], 8⟩ ∧
  T 249 = some ⟨1, true, .struct [(0, 9)], [.val (.string ⟨#[]⟩)], [], 16⟩ ∧
  T 250 = some ⟨1, true, .struct [(0, 9)], [.val (.string ⟨#[]⟩)], [], 16⟩ ∧
  T 251 = some ⟨32, true, .array 32 5, [.val (.int .u8 0), .val (.int .u8 0), .val (.int .u8 0), .val (.int .u8 0), .val (.int .u8 0), .val (.int .u8 0), .val (.int .u8 0), .val (.int .u8 0), .val (.int .u8 0), .val (.int .u8 0), .val (.int .u8 0), .val (.int .u8 0), .val (.int .u8 0), .val (.int .u8 0), .val (.int .u8 0), .val (.int .u8 0), .val (.int .u8 0), .val (.int .u8 0), .val (.int .u8 0), .val (.int .u8 0), .val (.int .u8 0), .val (.int .u8 0), .val (.int .u8 0), .val (.int .u8 0), .val (.int .u8 0), .val (.int .u8 0), .val (.int .u8 0), .val (.int .u8 0), .val (.int .u8 0), .val (.int .u8 0), .val (.int .u8 0), .val (.int .u8 0)], [], 32⟩ ∧
  T 252 = some ⟨64, true, .array 64 5, [.val (.int .u8 0), .val (.int .u8 0), .val (.int .u8 0), .val (.int .u8 0), .val (.int .u8 0), .val (.int .u8 0), .val (.int .u8 0), .val (.int .u8 0), .val (.int .u8 0), .val (.int .u8 0), .val (.int .u8 0), .val (.int .u8 0), .val (.int .u8 0), .val (.int .u8 0), .val (.int .u8 0), .val (.int .u8 0), .val (.int .u8 0), .val (.int .u8 0), .val (.int .u8 0), .val (.int .u8 0), .val (.int .u8 0), .val (.int .u8 0), .val (.int .u8 0), .val (.int .u8 0), .val (.int .u8 0), .val (.int .u8 0), .val (.int .u8 0), .val (.int .u8 0), .val (.int .u8 0), .val (.int .u8 0), .val (.int .u8 0), .val (.int .u8 0), .val (.int .u8 0), .val (.int .u8 0), .val (.int .u8 0), .val (.int .u8 0), .val (.int .u8 0), .val (.int .u8 0), .val (.int .u8 0), .val (.int .u8 0), .val (.int .u8 0), .val (.int .u8 0), .val (.int .u8 0), .val (.int .u8 0), .val (.int .u8 0), .val (.int .u8 0), .val (.int .u8 0), .val (.int .u8 0), .val (.int .u8 0), .val (.int .u8 0), .val (.int .u8 0), .val (.int .u8 0), .val (.int .u8 0), .val (.int .u8 0), .val (.int .u8 0), .val (.int .u8 0), .val (.int .u8 0), .val (.int .u8 0), .val (.int .u8 0), .val (.int .u8 0), .val (.int .u8 0), .val (.int .u8 0), .val (.int .u8 0), .val (.int .u8 0)], [], 64⟩ ∧
  T 253 = some ⟨4, true, .struct [(0, 17), (1, 17), (2, 17), (3, 9)], [.val (.pointer none), .val (.pointer none), .val (.pointer none), .val (.string ⟨#[]⟩)], [], 40⟩ ∧
  T 254 = some ⟨4, true, .struct [(0, 17), (1, 17), (2, 17), (3, 9)], [.val (.pointer none), .val (.pointer none), .val (.pointer none), .val (.string ⟨#[]⟩)], [], 40⟩ ∧
  T 255 = some ⟨0, true, .array 0 16, [], [], 0⟩ ∧
  T 256 = some ⟨0, true, .struct [(0, 255)], [], [], 0⟩ ∧
  T 257 = some ⟨0, true, .struct [(0, 255)], [], [], 0⟩ ∧
  T 258 = some ⟨1, false, .int .u8, [.val (.int .u8 0)], [], 1⟩ ∧
  T 259 = some ⟨1, false, .int .u8, [.val (.int .u8 0)], [], 1⟩ ∧
  T 260 = some ⟨1, false, .func, [.val .nilFunc], [], 8⟩ ∧
  T 261 = some ⟨1, false, .int .i32, [.val (.int .i32 0)], [], 4⟩ ∧
  T 262 = some ⟨1, false, .int .i32, [.val (.int .i32 0)], [], 4⟩ ∧
  T 263 = some ⟨11, true, .struct [(0, 12), (1, 12), (2, 109), (3, 258), (4, 5), (5, 5), (6, 259), (7, 260), (8, 220), (9, 261), (10, 262)], [.val (.int .u64 0), .val (.int .u64 0), .val (.int .u32 0), .val (.int .u8 0), .val (.int .u8 0), .val (.int .u8 0), .val (.int .u8 0), .val .nilFunc, .val (.pointer none), .val (.int .i32 0), .val (.int .i32 0)], [], 48⟩ ∧
  T 264 = some ⟨11, true, .struct [(0, 12), (1, 12), (2, 109), (3, 258), (4, 5), (5, 5), (6, 259), (7, 260), (8, 220), (9, 261), (10, 262)], [.val (.int .u64 0), .val (.int .u64 0), .val (.int .u32 0), .val (.int .u8 0), .val (.int .u8 0), .val (.int .u8 0), .val (.int .u8 0), .val .nilFunc, .val (.pointer none), .val (.int .i32 0), .val (.int .i32 0)], [], 48⟩ :=
  ⟨rfl, rfl, rfl, rfl, rfl, rfl, rfl, rfl, rfl, rfl, rfl, rfl, rfl, rfl, rfl, rfl, rfl, rfl, rfl, rfl, rfl, rfl, rfl, rfl, rfl, rfl, rfl, rfl, rfl, rfl, rfl, rfl, rfl, rfl, rfl, rfl, rfl, rfl, rfl, rfl, rfl, rfl, rfl, rfl, rfl, rfl, rfl, rfl, rfl, rfl, rfl, rfl, rfl, rfl, rfl, rfl, rfl, rfl, rfl, rfl, rfl, rfl, rfl, rfl, rfl, rfl, rfl, rfl, rfl, rfl, rfl, rfl, rfl, rfl, rfl, rfl, rfl, rfl, rfl, rfl, rfl, rfl, rfl, rfl, rfl, rfl, rfl, rfl, rfl, rfl, rfl, rfl, rfl, rfl, rfl, rfl, rfl, rfl, rfl, rfl, rfl, rfl, rfl, rfl, rfl, rfl, rfl, rfl, rfl, rfl, rfl, rfl, rfl, rfl, rfl, rfl, rfl, rfl, rfl, rfl, rfl, rfl, rfl, rfl, rfl, rfl, rfl, rfl, rfl, rfl, rfl, rfl, rfl, rfl, rfl, rfl, rfl, rfl, rfl, rfl, rfl, rfl, rfl, rfl, rfl, rfl, rfl, rfl, rfl, rfl, rfl, rfl, rfl, rfl, rfl, rfl, rfl, rfl, rfl, rfl, rfl, rfl, rfl, rfl, rfl, rfl, rfl, rfl, rfl, rfl, rfl, rfl, rfl, rfl, rfl, rfl, rfl, rfl, rfl, rfl, rfl, rfl, rfl, rfl, rfl, rfl, rfl, rfl, rfl, rfl, rfl, rfl, rfl, rfl, rfl, rfl, rfl, rfl, rfl, rfl, rfl, rfl, rfl, rfl, rfl, rfl, rfl, rfl, rfl, rfl, rfl, rfl, rfl, rfl, rfl, rfl, rfl, rfl, rfl, rfl, rfl, rfl⟩
theorem mix : Tryz.prog.follows .mixedOrders = true := by kernel_rfl
end Go.Proofs.YtolehnkoocnenaaGreatDoor.S
namespace Gb
open Go Go.RowKit
def val : List Int → Int
  | [] => 0
  | x :: xs => x + 1000000000 * val xs
def Dig (l : List Int) : Prop := ∀ x, x ∈ l → 0 ≤ x ∧ x < 1000000000
theorem Dig.nil : Dig [] := fun _ h => by cases h
theorem Dig.cons {x : Int} {l : List Int} (h0 : 0 ≤ x) (h1 : x < 1000000000) (h : Dig l) : Dig (x :: l) := by
  intro y hy
  rcases List.mem_cons.1 hy with rfl | hy
  · exact ⟨h0, h1⟩
  · exact h y hy
theorem Dig.head {x : Int} {l : List Int} (h : Dig (x :: l)) : 0 ≤ x ∧ x < 1000000000 := h x (List.mem_cons_self ..)
theorem Dig.tail {x : Int} {l : List Int} (h : Dig (x :: l)) : Dig l := fun y hy => h y (List.mem_cons_of_mem _ hy)
theorem Dig.append {a b : List Int} (ha : Dig a) (hb : Dig b) : Dig (a ++ b) := by
  intro y hy
  rcases List.mem_append.1 hy with h | h
  · exact ha y h
  · exact hb y h
theorem Dig.left {a b : List Int} (h : Dig (a ++ b)) : Dig a := fun y hy => h y (List.mem_append_left _ hy)
theorem Dig.right {a b : List Int} (h : Dig (a ++ b)) : Dig b := fun y hy => h y (List.mem_append_right _ hy)
theorem Dig.take {a : List Int} (h : Dig a) (n : Nat) : Dig (a.take n) := fun y hy => h y (List.mem_of_mem_take hy)
theorem Dig.drop {a : List Int} (h : Dig a) (n : Nat) : Dig (a.drop n) := fun y hy => h y (List.mem_of_mem_drop hy)
theorem Dig.replicate (n : Nat) : Dig (List.replicate n 0) := by
  intro y hy
  rw [List.mem_replicate] at hy
  omega
theorem Dig.set {l : List Int} (h : Dig l) (i : Nat) {v : Int} (h0 : 0 ≤ v) (h1 : v < 1000000000) : Dig (l.set i v) := by
  intro y hy
  rcases List.mem_or_eq_of_mem_set hy with hy | rfl
  · exact h y hy
  · exact ⟨h0, h1⟩
theorem Dig.getD {l : List Int} (h : Dig l) (i : Nat) : 0 ≤ l.getD i 0 ∧ l.getD i 0 < 1000000000 := by
  rw [List.getD_eq_getElem?_getD]
  by_cases hi : i < l.length
  · rw [List.getElem?_eq_getElem hi]; exact h _ (List.getElem_mem hi)
  · rw [List.getElem?_eq_none (by omega)]; simp
theorem val_nil : val [] = 0 := rfl
theorem val_cons (x : Int) (l : List Int) : val (x :: l) = x + 1000000000 * val l := rfl
theorem val_append (a b : List Int) : val (a ++ b) = val a + 1000000000 ^ a.length * val b := by
  induction a with
  | nil => simp [val]
  | cons x a ih => simp only [List.cons_append, val_cons, ih, List.length_cons, Int.pow_succ]; grind
theorem val_replicate (n : Nat) : val (List.replicate n 0) = 0 := by
  induction n with
  | zero => rfl
  | succ n ih => simp [List.replicate_succ, val_cons, ih]
theorem val_bounds {l : List Int} (h : Dig l) : 0 ≤ val l ∧ val l < 1000000000 ^ l.length := by
  induction l with
  | nil => simp [val]
  | cons x l ih =>
    have := h.head
    have := ih h.tail
    simp only [val_cons, List.length_cons, Int.pow_succ]
    omega
theorem val_nonneg {l : List Int} (h : Dig l) : 0 ≤ val l := (val_bounds h).1
theorem pow_pos (n : Nat) : (0 : Int) < 1000000000 ^ n := Int.pow_pos (by decide)
theorem val_set (l : List Int) (i : Nat) (v : Int) (hi : i < l.length) : val (l.set i v) = val l + (v - l.getD i 0) * 1000000000 ^ i := by
  induction l generalizing i with
  | nil => simp at hi
  | cons x l ih =>
    cases i with
    | zero => simp [val_cons]; omega
    | succ i =>
      simp only [List.length_cons] at hi
      simp only [List.set_cons_succ, val_cons, ih i (by omega), List.getD_cons_succ, Int.pow_succ]
      grind
theorem val_drop (l : List Int) (i : Nat) (hi : i < l.length) : val (l.drop i) = l.getD i 0 + 1000000000 * val (l.drop (i + 1)) := by
  rw [List.drop_eq_getElem_cons hi, val_cons, List.getD_eq_getElem?_getD, List.getElem?_eq_getElem hi]
  rfl
theorem val_take_drop (l : List Int) (i : Nat) (hi : i ≤ l.length) : val l = val (l.take i) + 1000000000 ^ i * val (l.drop i) := by
  conv => lhs; rw [← List.take_append_drop i l]
  rw [val_append, List.length_take, Nat.min_eq_left hi]
theorem val_take_succ (l : List Int) (i : Nat) (hi : i < l.length) : val (l.take (i + 1)) = val (l.take i) + l.getD i 0 * 1000000000 ^ i := by
  rw [List.take_succ_eq_append_getElem hi, val_append, List.length_take, Nat.min_eq_left (by omega), val_cons, val_nil, List.getD_eq_getElem?_getD, List.getElem?_eq_getElem hi]
  simp
  grind
def Zf (l : List Int) (i : Nat) : Prop := ∀ j, i ≤ j → l.getD j 0 = 0
theorem Zf.set {l : List Int} {i : Nat} (h : Zf l i) (j : Nat) (v : Int) (hj : j < i) : Zf (l.set j v) i := by
  intro q hq
  have := h q hq
  rw [List.getD_eq_getElem?_getD] at this ⊢
  rw [List.getElem?_set_ne (by omega)]
  exact this
theorem Zf.mono {l : List Int} {i j : Nat} (h : Zf l i) (hij : i ≤ j) : Zf l j := fun q hq => h q (by omega)
theorem Zf.replicate (n i : Nat) : Zf (List.replicate n 0) i := by
  intro j _
  rw [List.getD_eq_getElem?_getD, List.getElem?_replicate]
  split <;> rfl
theorem getD_set_same (l : List Int) (i : Nat) (v : Int) (hi : i < l.length) : (l.set i v).getD i 0 = v := by
  rw [List.getD_eq_getElem?_getD, List.getElem?_set_self hi]; rfl
theorem getD_set_ne (l : List Int) (i j : Nat) (v : Int) (h : i ≠ j) : (l.set i v).getD j 0 = l.getD j 0 := by
  rw [List.getD_eq_getElem?_getD, List.getElem?_set_ne h, ← List.getD_eq_getElem?_getD]
def Norm (l : List Int) : Prop := Dig l ∧ (l ≠ [] → l.getD (l.length - 1) 0 ≠ 0)
theorem Norm.nil : Norm [] := ⟨Dig.nil, fun h => absurd rfl h⟩
theorem Norm.lo {l : List Int} (h : Norm l) (hl : l ≠ []) : 1000000000 ^ (l.length - 1) ≤ val l := by
  have h1 : 0 < l.length := List.length_pos_iff.2 hl
  have h2 := h.2 hl
  have h3 := h.1.getD (l.length - 1)
  have h4 := val_take_drop l (l.length - 1) (by omega)
  rw [val_drop l (l.length - 1) (by omega), show l.length - 1 + 1 = l.length by omega, List.drop_length, val_nil] at h4
  have h5 := val_nonneg (h.1.take (l.length - 1))
  have h6 := pow_pos (l.length - 1)
  generalize l.getD (l.length - 1) 0 = d at *
  have h7 : 1000000000 ^ (l.length - 1) * 1 ≤ (1000000000 : Int) ^ (l.length - 1) * d := Int.mul_le_mul_of_nonneg_left (by omega) (by omega)
  have h8 : (1000000000 : Int) ^ (l.length - 1) * (d + 1000000000 * 0) = 1000000000 ^ (l.length - 1) * d := by grind
  omega
theorem Norm.pos {l : List Int} (h : Norm l) (hl : l ≠ []) : 0 < val l := by
  have := h.lo hl
  have := pow_pos (l.length - 1)
  omega
theorem pow_mono {a b : Nat} (h : a ≤ b) : (1000000000 : Int) ^ a ≤ 1000000000 ^ b := by
  obtain ⟨c, rfl⟩ := Nat.exists_eq_add_of_le h
  rw [Int.pow_add]
  have := pow_pos a
  have := pow_pos c
  have : (1000000000 : Int) ^ a * 1 ≤ 1000000000 ^ a * 1000000000 ^ c := Int.mul_le_mul_of_nonneg_left (by omega) (by omega)
  omega
theorem Norm.len_le {l m : List Int} (hl : Norm l) (hm : Dig m) (h : val l ≤ val m) : l.length ≤ m.length := by
  by_cases h0 : l = []
  · subst h0; simp
  · have h1 := hl.lo h0
    have h2 := (val_bounds hm).2
    by_cases h3 : l.length ≤ m.length
    · exact h3
    · have := pow_mono (show m.length ≤ l.length - 1 by omega)
      omega
theorem Norm.len_lt {l m : List Int} (hm : Norm m) (hl : Dig l) (h : l.length < m.length) : val l < val m := by
  by_cases h1 : val l < val m
  · exact h1
  · have := hm.len_le hl (by omega)
    omega
theorem Dig.inj : ∀ {l m : List Int}, Dig l → Dig m → l.length = m.length → val l = val m → l = m
  | [], [], _, _, _, _ => rfl
  | [], _ :: _, _, _, h, _ => by simp at h
  | _ :: _, [], _, _, h, _ => by simp at h
  | x :: l, y :: m, hl, hm, h, hv => by
    have := hl.head; have := hm.head
    simp only [val_cons] at hv
    obtain rfl : x = y := by omega
    rw [Dig.inj hl.tail hm.tail (by simpa using h) (by omega)]
theorem Norm.inj {l m : List Int} (hl : Norm l) (hm : Norm m) (h : val l = val m) : l = m :=
  Dig.inj hl.1 hm.1 (Nat.le_antisymm (hl.len_le hm.1 (by omega)) (hm.len_le hl.1 (by omega))) h
def trimL (l : List Int) : List Int := if h : l = [] then [] else if l.getD (l.length - 1) 0 = 0 then trimL l.dropLast else l
termination_by l.length
decreasing_by
  have := List.length_pos_iff.2 h
  simp; omega
theorem trimL_norm (l : List Int) (h : Dig l) : Norm (trimL l) ∧ val (trimL l) = val l ∧ (trimL l).length ≤ l.length := by
  induction hn : l.length using Nat.strongRecOn generalizing l with
  | _ n ih =>
    rw [trimL]
    split
    · rename_i h0; subst h0; exact ⟨Norm.nil, rfl, by simp⟩
    · rename_i h0
      have hp := List.length_pos_iff.2 h0
      split
      · rename_i hz
        have h1 := ih (l.length - 1) (by omega) l.dropLast (by rw [List.dropLast_eq_take]; exact h.take _) (by simp)
        refine ⟨h1.1, ?_, by omega⟩
        rw [h1.2.1, List.dropLast_eq_take]
        have h2 := val_take_succ l (l.length - 1) (by omega)
        rw [show l.length - 1 + 1 = l.length by omega, List.take_length, hz] at h2
        omega
      · rename_i hz
        exact ⟨⟨h, fun _ => hz⟩, rfl, by omega⟩
theorem tmod_pos {x y : Int} (h : 0 ≤ x) : Int.tmod x y = x % y := Int.tmod_eq_emod_of_nonneg h
theorem tdiv_pos {x y : Int} (h : 0 ≤ x) : Int.tdiv x y = x / y := Int.tdiv_eq_ediv_of_nonneg h
theorem mul_step {o x y c : Int} (ho : 0 ≤ o ∧ o < 1000000000) (hx : 0 ≤ x ∧ x < 1000000000) (hy : 0 ≤ y ∧ y < 1000000000) (hc : 0 ≤ c ∧ c < 1000000000) :
    0 ≤ x * y ∧ x * y ≤ 999999998000000001 := by
  constructor
  · exact Int.mul_nonneg hx.1 hy.1
  · exact Int.mul_le_mul (a := x) (b := y) (c := 999999999) (d := 999999999) (by omega) (by omega) (by omega) (by omega)
theorem getD_out {l : List Int} {i : Nat} (h : l.length ≤ i) : l.getD i 0 = 0 := by
  rw [List.getD_eq_getElem?_getD, List.getElem?_eq_none h]; rfl
theorem val_drop' (l : List Int) (i : Nat) : val (l.drop i) = l.getD i 0 + 1000000000 * val (l.drop (i + 1)) := by
  by_cases h : i < l.length
  · exact val_drop l i h
  · rw [getD_out (by omega), List.drop_eq_nil_of_le (by omega), List.drop_eq_nil_of_le (by omega), val_nil]; omega
theorem val_snoc (l : List Int) (x : Int) : val (l ++ [x]) = val l + 1000000000 ^ l.length * x := by
  rw [val_append, val_cons, val_nil]; grind
theorem Dig.snoc {l : List Int} (h : Dig l) {x : Int} (h0 : 0 ≤ x) (h1 : x < 1000000000) : Dig (l ++ [x]) := h.append (Dig.cons h0 h1 Dig.nil)
def cmpI (x y : Int) : Int := if x < y then -1 else if y < x then 1 else 0
theorem cmp_drop (a b : List Int) (ha : Dig a) (hb : Dig b) (i : Nat) (h : val (a.drop (i + 1)) = val (b.drop (i + 1))) (hlt : a.getD i 0 < b.getD i 0) (hia : i ≤ a.length) (hib : i ≤ b.length) : val a < val b := by
  have h1 := val_take_drop a i hia
  have h2 := val_take_drop b i hib
  rw [val_drop' a i] at h1
  rw [val_drop' b i] at h2
  have h3 := val_bounds (ha.take i)
  have h4 := val_nonneg (hb.take i)
  rw [List.length_take, Nat.min_eq_left hia] at h3
  have hp := pow_pos i
  rw [h] at h1
  generalize val (b.drop (i + 1)) = q at *
  have h5 : (1000000000 : Int) ^ i * (a.getD i 0 + 1000000000 * q + 1) ≤ 1000000000 ^ i * (b.getD i 0 + 1000000000 * q) := Int.mul_le_mul_of_nonneg_left (by omega) (by omega)
  have h6 : (1000000000 : Int) ^ i * (a.getD i 0 + 1000000000 * q + 1) = 1000000000 ^ i * (a.getD i 0 + 1000000000 * q) + 1000000000 ^ i := by grind
  omega
theorem by_step {r x w : Int} (hr : 0 ≤ r ∧ r < w) (hx : 0 ≤ x ∧ x < 1000000000) (hw : 0 < w ∧ w < 1000000000) :
    0 ≤ r * 1000000000 + x ∧ r * 1000000000 + x < 1000000000000000000 ∧ 0 ≤ (r * 1000000000 + x) / w ∧ (r * 1000000000 + x) / w < 1000000000 ∧ 0 ≤ (r * 1000000000 + x) % w ∧ (r * 1000000000 + x) % w < w ∧
      r * 1000000000 + x = w * ((r * 1000000000 + x) / w) + (r * 1000000000 + x) % w := by
  have h1 := Int.emod_nonneg (r * 1000000000 + x) (show w ≠ 0 by omega)
  have h2 := Int.emod_lt_of_pos (r * 1000000000 + x) hw.1
  have h3 := (Int.mul_ediv_add_emod (r * 1000000000 + x) w).symm
  refine ⟨by omega, by omega, Int.ediv_nonneg (by omega) (by omega), ?_, h1, h2, h3⟩
  apply Int.ediv_lt_of_lt_mul hw.1
  omega
def wl (n : Nat) : List Int := if n = 0 then [] else ((n % 1000000000 : Nat) : Int) :: wl (n / 1000000000)
theorem wl_zero : wl 0 = [] := by rw [wl]; rfl
theorem wl_pos {n : Nat} (h : n ≠ 0) : wl n = ((n % 1000000000 : Nat) : Int) :: wl (n / 1000000000) := by rw [wl, if_neg h]
theorem wl_spec (n : Nat) : Norm (wl n) ∧ val (wl n) = n := by
  induction n using Nat.strongRecOn with
  | _ n ih =>
    by_cases h : n = 0
    · subst h; rw [wl_zero]; exact ⟨Norm.nil, rfl⟩
    · obtain ⟨h1, h2⟩ := ih (n / 1000000000) (by omega)
      rw [wl_pos h]
      refine ⟨⟨Dig.cons (by omega) (by omega) h1.1, fun _ => ?_⟩, ?_⟩
      · by_cases h3 : wl (n / 1000000000) = []
        · rw [h3] at h2 ⊢
          simp [val] at h2
          simp
          omega
        · have h4 := h1.2 h3
          have h5 := List.length_pos_iff.2 h3
          rw [List.length_cons, show (wl (n / 1000000000)).length + 1 - 1 = (wl (n / 1000000000)).length - 1 + 1 by omega, List.getD_cons_succ]
          exact h4
      · rw [val_cons, h2]; omega
theorem wl_norm (n : Nat) : Norm (wl n) := (wl_spec n).1
theorem wl_dig (n : Nat) : Dig (wl n) := (wl_norm n).1
theorem wl_val (n : Nat) : val (wl n) = n := (wl_spec n).2
theorem eq_wl {l : List Int} (h : Norm l) {n : Nat} (hv : val l = n) : l = wl n := h.inj (wl_norm n) (by rw [hv, wl_val])
theorem trimL_wl {l : List Int} (h : Dig l) {n : Nat} (hv : val l = n) : trimL l = wl n := by
  obtain ⟨h1, h2, _⟩ := trimL_norm l h
  exact eq_wl h1 (by rw [h2, hv])
theorem cast_pow (k : Nat) : ((1000000000 ^ k : Nat) : Int) = (1000000000 : Int) ^ k := by
  induction k with
  | zero => rfl
  | succ k ih => rw [Nat.pow_succ, Int.pow_succ, ← ih, Int.natCast_mul]; rfl
def Lw (n : Nat) : Nat := (wl n).length
theorem Lw_le {n k : Nat} (h : n < 1000000000 ^ k) : Lw n ≤ k := by
  unfold Lw
  by_cases h0 : wl n = []
  · rw [h0]; simp
  · have h1 := (wl_norm n).lo h0
    rw [wl_val] at h1
    by_cases h2 : (wl n).length ≤ k
    · exact h2
    · have h3 := pow_mono (show k ≤ (wl n).length - 1 by omega)
      have h4 := Int.ofNat_lt.2 h
      rw [cast_pow] at h4
      omega
theorem lt_Lw (n : Nat) : n < 1000000000 ^ Lw n := by
  have := (val_bounds (wl_dig n)).2
  rw [wl_val, ← cast_pow] at this
  exact Int.ofNat_lt.1 this
theorem Lw_mono {a b : Nat} (h : a ≤ b) : Lw a ≤ Lw b := Lw_le (Nat.lt_of_le_of_lt h (lt_Lw b))
theorem Lw_mul (a b : Nat) : Lw (a * b) ≤ Lw a + Lw b := by
  refine Lw_le ?_
  rw [Nat.pow_add]
  exact Nat.mul_lt_mul'' (lt_Lw a) (lt_Lw b)
theorem Lw_add (a b : Nat) : Lw (a + b) ≤ max (Lw a) (Lw b) + 1 := by
  refine Lw_le ?_
  have h1 : 1000000000 ^ Lw a ≤ 1000000000 ^ max (Lw a) (Lw b) := Nat.pow_le_pow_right (by omega) (by omega)
  have h2 : 1000000000 ^ Lw b ≤ 1000000000 ^ max (Lw a) (Lw b) := Nat.pow_le_pow_right (by omega) (by omega)
  have := lt_Lw a
  have := lt_Lw b
  rw [Nat.pow_succ]
  omega
open Go.Sx
def wv (n : Int) : PV := .val (.int .u32 n)
theorem wv_c (n : Int) : wv n = .val (.int .u32 n) := rfl
def wsP (l : List Int) : PV := .sl l.length (l.map wv)
theorem wsP_c (l : List Int) : wsP l = .sl l.length (l.map wv) := rfl
def nP (n : Nat) : PV := wsP (wl n)
theorem nP_c (n : Nat) : nP n = .sl (wl n).length ((wl n).map wv) := rfl
def iP (n : Int) : PV := .val (.int .i64 n)
theorem iP_c (n : Int) : iP n = .val (.int .i64 n) := rfl
theorem rep_wv (n : Nat) : rep n [.val (.int .u32 0)] = (List.replicate n (0 : Int)).map wv := by
  induction n with
  | zero => rfl
  | succ n ih => rw [rep, List.replicate_succ, List.flatten_cons, List.replicate_succ, List.map_cons, ← ih]; rfl
theorem set_wv (l : List Int) (i : Nat) (x : Int) (hi : i < l.length) : (l.take i).map wv ++ [.val (.int .u32 x)] ++ (l.drop (i + 1)).map wv = (l.set i x).map wv := by
  rw [List.set_eq_take_append_cons_drop, if_pos hi, List.map_append, List.map_cons, wv_c, List.append_assoc]; rfl
end Gb
namespace Go.Proofs.YtolehnkoocnenaaGreatDoor.S
open Go Go.Sx Go.RowKit Gb
variable {G : World → Prop} (hG : ∀ w w', G w → Below w.heap.size w w' → G w')
include hG
end Go.Proofs.YtolehnkoocnenaaGreatDoor.S
namespace Go.Proofs.YtolehnkoocnenaaGreatDoor.S
open Go Go.Sx Go.RowKit Gb
variable {G : World → Prop} (hG : ∀ w w', G w → Below w.heap.size w w' → G w')
include hG
end Go.Proofs.YtolehnkoocnenaaGreatDoor.S
namespace Go.Proofs.YtolehnkoocnenaaGreatDoor.S
open Go Go.Sx Go.RowKit Gb
variable {G : World → Prop} (hG : ∀ w w', G w → Below w.heap.size w w' → G w')
include hG
def timesInv (A B : List Int) (s : List Int × Nat) : Prop :=
  Dig s.1 ∧ s.1.length = A.length + B.length ∧ Zf s.1 (s.2 + B.length) ∧ s.2 ≤ A.length ∧ val s.1 + 1000000000 ^ s.2 * val (A.drop s.2) * val B = val A * val B
def timesInv2 (A B : List Int) (i : Nat) (s : List Int × Int × Nat) : Prop :=
  Dig s.1 ∧ s.1.length = A.length + B.length ∧ Zf s.1 (i + B.length) ∧ 0 ≤ s.2.1 ∧ s.2.1 < 1000000000 ∧ s.2.2 ≤ B.length ∧
    val s.1 + s.2.1 * 1000000000 ^ (i + s.2.2) + A.getD i 0 * 1000000000 ^ (i + s.2.2) * val (B.drop s.2.2) + 1000000000 ^ (i + 1) * val (A.drop (i + 1)) * val B = val A * val B
end Go.Proofs.YtolehnkoocnenaaGreatDoor.S
namespace Go.Proofs.YtolehnkoocnenaaGreatDoor.S
open Go Go.Sx Go.RowKit Gb
variable {G : World → Prop} (hG : ∀ w w', G w → Below w.heap.size w w' → G w')
include hG
def smallInv (A : List Int) (w : Int) (s : List Int × Int × Nat) : Prop :=
  s.2.2 ≤ A.length ∧ Dig s.1 ∧ s.1.length = A.length ∧ (∀ j, j < s.2.2 → s.1.getD j 0 = 0) ∧ 0 ≤ s.2.1 ∧ s.2.1 < w ∧ s.2.1 * 1000000000 ^ s.2.2 + val (A.take s.2.2) + w * val s.1 = val A
end Go.Proofs.YtolehnkoocnenaaGreatDoor.S
namespace Gb
open Go Go.RowKit
def dg : Nat → Nat → List Int
  | 0, _ => []
  | k + 1, n => ((n % 1000000000 : Nat) : Int) :: dg k (n / 1000000000)
theorem dg_spec : ∀ (k n : Nat), Dig (dg k n) ∧ (dg k n).length = k ∧ (n < 1000000000 ^ k → val (dg k n) = n)
  | 0, n => ⟨Dig.nil, rfl, fun h => by simp at h; subst h; rfl⟩
  | k + 1, n => by
    obtain ⟨h1, h2, h3⟩ := dg_spec k (n / 1000000000)
    refine ⟨Dig.cons (by omega) (by omega) h1, by simp [dg, h2], fun h => ?_⟩
    rw [Nat.pow_succ] at h
    rw [dg, val_cons, h3 (Nat.div_lt_of_lt_mul (by omega))]
    omega
theorem take_set_of_le (l : List Int) (i j : Nat) (v : Int) (h : i ≤ j) : (l.set j v).take i = l.take i := by
  rw [List.take_set_of_le (h := h)]
theorem zf_val {l : List Int} (h : Zf l 0) : val l = 0 := by
  induction l with
  | nil => rfl
  | cons x l ih =>
    have h0 := h 0 (Nat.le_refl _)
    simp at h0
    rw [val_cons, h0, ih (fun j _ => by have := h (j + 1) (by omega); simpa using this)]; omega
theorem zf_drop {l : List Int} {n : Nat} (h : Zf l n) : val (l.drop n) = 0 := by
  apply zf_val
  intro j _
  rw [List.getD_eq_getElem?_getD, List.getElem?_drop, ← List.getD_eq_getElem?_getD]
  exact h _ (by omega)
def redU (u v : List Int) (at_ : Nat) : List Int := u.take at_ ++ dg (u.length - at_) (val (u.drop at_) % val v).toNat
theorem redU_of {u v x : List Int} {at_ : Nat} (hv : Dig v) (hV : 0 < val v) (hat : at_ + v.length < u.length) (hx : Dig x) (hl : x.length = u.length) (ht : x.take at_ = u.take at_) (hm : val (x.drop at_) = val (u.drop at_) % val v) : x = redU u v at_ := by
  have h0 := Int.emod_nonneg (val (u.drop at_)) (show val v ≠ 0 by omega)
  have h1 := Int.emod_lt_of_pos (val (u.drop at_)) hV
  have h2 := (val_bounds hv).2
  have h3 := pow_mono (show v.length ≤ u.length - at_ by omega)
  obtain ⟨d1, d2, d3⟩ := dg_spec (u.length - at_) (val (u.drop at_) % val v).toNat
  have h4 : (val (u.drop at_) % val v).toNat < 1000000000 ^ (u.length - at_) := by
    have : ((val (u.drop at_) % val v).toNat : Int) < ((1000000000 ^ (u.length - at_) : Nat) : Int) := by rw [cast_pow]; omega
    exact Int.ofNat_lt.1 this
  have h5 := d3 h4
  unfold redU
  rw [← ht]
  conv => lhs; rw [← List.take_append_drop at_ x]
  congr 1
  refine Dig.inj (hx.drop _) d1 (by rw [List.length_drop, d2, hl]) ?_
  rw [h5, hm]; omega
theorem redU_len {u v : List Int} {at_ : Nat} (h : at_ ≤ u.length) : (redU u v at_).length = u.length := by
  unfold redU
  rw [List.length_append, (dg_spec _ _).2.1, List.length_take]; omega
theorem redU_take {u v : List Int} {at_ : Nat} (h : at_ ≤ u.length) : (redU u v at_).take at_ = u.take at_ := by
  unfold redU
  rw [List.take_append_of_le_length (by rw [List.length_take]; omega), List.take_take, Nat.min_self]
theorem redU_dig {u v : List Int} {at_ : Nat} (hu : Dig u) : Dig (redU u v at_) := (hu.take _).append (dg_spec _ _).1
theorem redU_val {u v : List Int} {at_ : Nat} (hv : Dig v) (hV : 0 < val v) (hat : at_ + v.length < u.length) : val ((redU u v at_).drop at_) = val (u.drop at_) % val v := by
  have h0 := Int.emod_nonneg (val (u.drop at_)) (show val v ≠ 0 by omega)
  have h1 := Int.emod_lt_of_pos (val (u.drop at_)) hV
  have h2 := (val_bounds hv).2
  have h3 := pow_mono (show v.length ≤ u.length - at_ by omega)
  obtain ⟨d1, d2, d3⟩ := dg_spec (u.length - at_) (val (u.drop at_) % val v).toNat
  have h4 : (val (u.drop at_) % val v).toNat < 1000000000 ^ (u.length - at_) := by
    have : ((val (u.drop at_) % val v).toNat : Int) < ((1000000000 ^ (u.length - at_) : Nat) : Int) := by rw [cast_pow]; omega
    exact Int.ofNat_lt.1 this
  have h5 := d3 h4
  unfold redU
  rw [List.drop_append, List.length_take, List.drop_eq_nil_of_le (by rw [List.length_take]; omega), show at_ - min at_ u.length = 0 by omega, List.drop_zero, List.nil_append, h5]
  omega
structure Red (u v u1 : List Int) (at_ : Nat) (t b1 c1 : Int) : Prop where
  du : Dig u
  dv : Dig v
  hat : at_ + v.length < u.length
  ht : 0 ≤ t ∧ t < 1000000000
  lo : (t - 1) * val v ≤ val (u.drop at_)
  hi : val (u.drop at_) < (t + 1) * val v
  hV : 0 < val v
  hz : Zf u (at_ + v.length + 1)
  g1 : Dig u1
  g2 : u1.length = u.length
  g3 : u1.take at_ = u.take at_
  g4 : ∀ j, at_ + v.length ≤ j → u1.getD j 0 = u.getD j 0
  g5 : 0 ≤ b1 ∧ b1 ≤ 1
  g6 : 0 ≤ c1 ∧ c1 < 1000000000
  g7 : val u1 + 1000000000 ^ at_ * (t * val v) = val u + 1000000000 ^ (at_ + v.length) * (c1 + b1)
section
variable {u v u1 : List Int} {at_ : Nat} {t b1 c1 : Int}
theorem Red.facts (r : Red u v u1 at_ t b1 c1) : val (u1.drop at_) + t * val v = val (u.drop at_) + 1000000000 ^ v.length * (c1 + b1) ∧
    (0 ≤ val ((u1.drop at_).take v.length) ∧ val ((u1.drop at_).take v.length) < 1000000000 ^ v.length) ∧
    val (u1.drop at_) = val ((u1.drop at_).take v.length) + 1000000000 ^ v.length * u.getD (at_ + v.length) 0 ∧
    val ((u1.drop at_).take v.length) + 1000000000 ^ v.length * (u.getD (at_ + v.length) 0 - c1 - b1) = val (u.drop at_) - t * val v := by
  have hat := r.hat
  have g2 := r.g2
  have hPa := pow_pos at_
  have e0 := val_take_drop u at_ (by omega)
  have e1 := val_take_drop u1 at_ (by omega)
  rw [r.g3] at e1
  have g7 := r.g7
  have hU1 : val (u1.drop at_) + t * val v = val (u.drop at_) + 1000000000 ^ v.length * (c1 + b1) := by
    rw [Int.pow_add] at g7
    have : (1000000000 : Int) ^ at_ * (val (u1.drop at_) + t * val v) = 1000000000 ^ at_ * (val (u.drop at_) + 1000000000 ^ v.length * (c1 + b1)) := by grind
    exact Int.eq_of_mul_eq_mul_left (by omega) this
  have hlow1 := val_bounds ((r.g1.drop at_).take v.length)
  rw [List.length_take, List.length_drop, Nat.min_eq_left (by omega)] at hlow1
  have hz1 : Zf u1 (at_ + v.length + 1) := fun j hj => by rw [r.g4 j (by omega)]; exact r.hz j hj
  have hU1s : val (u1.drop at_) = val ((u1.drop at_).take v.length) + 1000000000 ^ v.length * u.getD (at_ + v.length) 0 := by
    have := val_take_drop (u1.drop at_) v.length (by simp; omega)
    rw [List.drop_drop, val_drop' u1 (at_ + v.length), zf_drop hz1, r.g4 _ (Nat.le_refl _)] at this
    rw [this]; simp
  refine ⟨hU1, hlow1, hU1s, ?_⟩
  generalize (1000000000 : Int) ^ v.length = P at *
  generalize val ((u1.drop at_).take v.length) = low at *
  generalize val (u.drop at_) = U at *
  generalize val (u1.drop at_) = U1 at *
  generalize u.getD (at_ + v.length) 0 = dw at *
  grind
theorem Red.pos (r : Red u v u1 at_ t b1 c1) (hn : 0 ≤ u.getD (at_ + v.length) 0 - c1 - b1) : u.getD (at_ + v.length) 0 - c1 - b1 < 1000000000 ∧ t = val (u.drop at_) / val v ∧ u1.set (at_ + v.length) (u.getD (at_ + v.length) 0 - c1 - b1) = redU u v at_ := by
  obtain ⟨f1, f2, f3, f4⟩ := r.facts
  have hat := r.hat
  have g2 := r.g2
  have hdig := r.du.getD (at_ + v.length)
  have g5 := r.g5; have g6 := r.g6; have hV := r.hV; have hhi := r.hi
  have hw := r.g4 (at_ + v.length) (Nat.le_refl _)
  have hP := pow_pos v.length
  have hle : t * val v ≤ val (u.drop at_) := by
    have : 0 ≤ 1000000000 ^ v.length * (u.getD (at_ + v.length) 0 - c1 - b1) := Int.mul_nonneg (by omega) hn
    omega
  have hfin := val_set u1 (at_ + v.length) (u.getD (at_ + v.length) 0 - c1 - b1) (by omega)
  have e1 := val_take_drop u1 at_ (by omega)
  have e3 := val_take_drop (u1.set (at_ + v.length) (u.getD (at_ + v.length) 0 - c1 - b1)) at_ (by simp; omega)
  rw [take_set_of_le _ _ _ _ (by omega), hfin, hw, Int.pow_add, e1] at e3
  have hPa := pow_pos at_
  have hU3 : val ((u1.set (at_ + v.length) (u.getD (at_ + v.length) 0 - c1 - b1)).drop at_) = val (u.drop at_) - t * val v := by
    have : (1000000000 : Int) ^ at_ * (val ((u1.set (at_ + v.length) (u.getD (at_ + v.length) 0 - c1 - b1)).drop at_)) = 1000000000 ^ at_ * (val (u.drop at_) - t * val v) := by
      generalize val ((u1.set (at_ + v.length) (u.getD (at_ + v.length) 0 - c1 - b1)).drop at_) = X at *
      generalize val (u1.drop at_) = U1 at *
      generalize val ((u1.drop at_).take v.length) = low at *
      generalize val (u.drop at_) = U at *
      generalize u.getD (at_ + v.length) 0 = dw at *
      generalize val v = V at *
      grind
    exact Int.eq_of_mul_eq_mul_left (by omega) this
  have h2 : (t + 1) * val v = t * val v + val v := by grind
  have hq : t = val (u.drop at_) / val v := by
    have : val (u.drop at_) = val v * t + (val (u.drop at_) - t * val v) := by rw [Int.mul_comm (val v) t]; omega
    rw [this, Int.add_comm, Int.add_mul_ediv_left _ _ (by omega), Int.ediv_eq_zero_of_lt (by omega) (by omega)]; omega
  have hr : val (u.drop at_) - t * val v = val (u.drop at_) % val v := by
    have : val (u.drop at_) = val v * t + (val (u.drop at_) - t * val v) := by rw [Int.mul_comm (val v) t]; omega
    conv => rhs; rw [this, Int.add_comm, Int.add_mul_emod_self_left]
    rw [Int.emod_eq_of_lt (by omega) (by omega)]
  exact ⟨by omega, hq, redU_of r.dv hV hat (r.g1.set _ (by omega) (by omega)) (by simp [g2]) (by rw [take_set_of_le _ _ _ _ (by omega), r.g3]) (by rw [hU3, hr])⟩
theorem Red.neg (r : Red u v u1 at_ t b1 c1) (hn : u.getD (at_ + v.length) 0 - c1 - b1 < 0) : 1 ≤ t ∧ u.getD (at_ + v.length) 0 - c1 - b1 = -1 ∧
    ∀ (u2 : List Int) (c2 : Int), Dig u2 → u2.length = u.length → u2.take at_ = (u1.set (at_ + v.length) 999999999).take at_ → (∀ j, at_ + v.length ≤ j → u2.getD j 0 = (u1.set (at_ + v.length) 999999999).getD j 0) → 0 ≤ c2 → c2 ≤ 1 →
      val u2 + 1000000000 ^ (at_ + v.length) * c2 = val (u1.set (at_ + v.length) 999999999) + 1000000000 ^ at_ * val v → c2 = 1 ∧ t - 1 = val (u.drop at_) / val v ∧ u2.getD (at_ + v.length) 0 = 999999999 ∧ u2.set (at_ + v.length) 0 = redU u v at_ := by
  obtain ⟨f1, f2, f3, f4⟩ := r.facts
  have hat := r.hat
  have g2 := r.g2
  have hdig := r.du.getD (at_ + v.length)
  have g5 := r.g5; have g6 := r.g6; have hV := r.hV; have hhi := r.hi; have hlo := r.lo; have ht := r.ht
  have hw := r.g4 (at_ + v.length) (Nat.le_refl _)
  have hP := pow_pos v.length
  have hPa := pow_pos at_
  have hVn := (val_bounds r.dv).2
  have hU0 := val_nonneg (r.du.drop at_)
  have hlt : val (u.drop at_) < t * val v := by
    have : (1000000000 : Int) ^ v.length * (u.getD (at_ + v.length) 0 - c1 - b1) ≤ 1000000000 ^ v.length * (-1) := Int.mul_le_mul_of_nonneg_left (by omega) (by omega)
    omega
  have htp : 1 ≤ t := by
    by_cases h : t = 0
    · subst h; omega
    · omega
  have h2 : (t - 1) * val v = t * val v - val v := by grind
  have hm1 : u.getD (at_ + v.length) 0 - c1 - b1 = -1 := by
    by_cases h : u.getD (at_ + v.length) 0 - c1 - b1 = -1
    · exact h
    · have h1 : (1000000000 : Int) ^ v.length * (u.getD (at_ + v.length) 0 - c1 - b1) ≤ 1000000000 ^ v.length * (-2) := Int.mul_le_mul_of_nonneg_left (by omega) (by omega)
      omega
  refine ⟨htp, hm1, ?_⟩
  intro u2 c2 k1 k2 k3 k4 k5 k5b k7
  rw [Int.pow_add, val_set _ _ _ (by omega), hw, Int.pow_add] at k7
  rw [take_set_of_le _ _ _ _ (by omega), r.g3] at k3
  have k4w := k4 (at_ + v.length) (Nat.le_refl _)
  rw [getD_set_same _ _ _ (by omega)] at k4w
  have hz1 : Zf u1 (at_ + v.length + 1) := fun j hj => by rw [r.g4 j (by omega)]; exact r.hz j hj
  have hz2 : Zf u2 (at_ + v.length + 1) := fun j hj => by rw [k4 j (by omega), getD_set_ne _ _ _ _ (by omega)]; exact hz1 j hj
  have e1 := val_take_drop u1 at_ (by omega)
  rw [r.g3] at e1
  have e2 := val_take_drop u2 at_ (by omega)
  rw [k3] at e2
  have hlow2 := val_bounds ((k1.drop at_).take v.length)
  rw [List.length_take, List.length_drop, Nat.min_eq_left (by omega)] at hlow2
  have hU2s : val (u2.drop at_) = val ((u2.drop at_).take v.length) + 1000000000 ^ v.length * 999999999 := by
    have := val_take_drop (u2.drop at_) v.length (by simp; omega)
    rw [List.drop_drop, val_drop' u2 (at_ + v.length), zf_drop hz2, k4w] at this
    rw [this]; simp
  generalize hP' : (1000000000 : Int) ^ v.length = P at *
  generalize hlw : val ((u1.drop at_).take v.length) = low at *
  generalize hUU : val (u.drop at_) = U at *
  generalize hdw : u.getD (at_ + v.length) 0 = dw at *
  have hU2 : val (u2.drop at_) + P * c2 = val (u1.drop at_) + P * (999999999 - dw) + val v := by
    have : (1000000000 : Int) ^ at_ * (val (u2.drop at_) + P * c2) = 1000000000 ^ at_ * (val (u1.drop at_) + P * (999999999 - dw) + val v) := by grind
    exact Int.eq_of_mul_eq_mul_left (by omega) this
  generalize hl2 : val ((u2.drop at_).take v.length) = low2 at *
  have hsum : low2 + P * c2 = low + val v := by grind
  have hUq : low + val v = U - (t - 1) * val v + P := by
    rw [hm1] at f4
    omega
  have hc2 : c2 = 1 := by
    by_cases h : c2 = 1
    · exact h
    · obtain rfl : c2 = 0 := by omega
      simp at hsum
      omega
  subst hc2
  have hfin := val_set u2 (at_ + v.length) 0 (by omega)
  have e3 := val_take_drop (u2.set (at_ + v.length) 0) at_ (by simp; omega)
  rw [take_set_of_le _ _ _ _ (by omega), k3, hfin, k4w, Int.pow_add, hP', e2] at e3
  have hU3 : val ((u2.set (at_ + v.length) 0).drop at_) = low2 := by
    have : (1000000000 : Int) ^ at_ * (val ((u2.set (at_ + v.length) 0).drop at_)) = 1000000000 ^ at_ * low2 := by grind
    exact Int.eq_of_mul_eq_mul_left (by omega) this
  have hres : low2 = U - (t - 1) * val v := by omega
  have hq : t - 1 = U / val v := by
    have : U = val v * (t - 1) + (U - (t - 1) * val v) := by rw [Int.mul_comm (val v) (t - 1)]; omega
    rw [this, Int.add_comm, Int.add_mul_ediv_left _ _ (by omega), Int.ediv_eq_zero_of_lt (by omega) (by omega)]; omega
  have hr : U - (t - 1) * val v = U % val v := by
    have : U = val v * (t - 1) + (U - (t - 1) * val v) := by rw [Int.mul_comm (val v) (t - 1)]; omega
    conv => rhs; rw [this, Int.add_comm, Int.add_mul_emod_self_left]
    rw [Int.emod_eq_of_lt (by omega) (by omega)]
  exact ⟨rfl, hq, k4w, redU_of r.dv hV hat (k1.set _ (by omega) (by omega)) (by simp [k2]) (by rw [take_set_of_le _ _ _ _ (by omega), k3]) (by rw [hU3, hres, hUU, hr])⟩
end
end Gb
namespace Go.Proofs.YtolehnkoocnenaaGreatDoor.S
open Go Go.Sx Go.RowKit Gb
variable {G : World → Prop} (hG : ∀ w w', G w → Below w.heap.size w w' → G w')
def redInv (u v : List Int) (at_ : Nat) (t : Int) (s : List Int × Int × Int × Nat) : Prop :=
  Dig s.1 ∧ s.1.length = u.length ∧ s.1.take at_ = u.take at_ ∧ (∀ j, at_ + v.length ≤ j → s.1.getD j 0 = u.getD j 0) ∧ (0 ≤ s.2.1 ∧ s.2.1 ≤ 1) ∧ (0 ≤ s.2.2.1 ∧ s.2.2.1 < 1000000000) ∧ s.2.2.2 ≤ v.length ∧
    val s.1 + 1000000000 ^ at_ * (t * val (v.take s.2.2.2)) = val u + 1000000000 ^ (at_ + s.2.2.2) * (s.2.2.1 + s.2.1)
def redInv2 (u v : List Int) (at_ : Nat) (s : List Int × Int × Nat) : Prop :=
  Dig s.1 ∧ s.1.length = u.length ∧ s.1.take at_ = u.take at_ ∧ (∀ j, at_ + v.length ≤ j → s.1.getD j 0 = u.getD j 0) ∧ 0 ≤ s.2.1 ∧ s.2.1 ≤ 1 ∧ s.2.2 ≤ v.length ∧
    val s.1 + 1000000000 ^ (at_ + s.2.2) * s.2.1 = val u + 1000000000 ^ at_ * val (v.take s.2.2)
end Go.Proofs.YtolehnkoocnenaaGreatDoor.S
namespace Gb
open Go Go.RowKit
theorem k_start {U V P top u2 U0 v1 v2 V0 t ρ : Int} (hP : 0 < P) (hU : U = (top * 1000000000 + u2) * P + U0) (hV : V = (v1 * 1000000000 + v2) * P + V0)
    (hu2 : u2 < 1000000000) (hU0 : U0 < P) (hv2 : 0 ≤ v2) (hV0 : 0 ≤ V0) (hv1 : 0 < v1) (ht : 0 ≤ t) (e : t * v1 + ρ = top) (hρ : ρ < v1) : U < (t + 1) * V := by
  have h1 : (top * 1000000000 + u2 + 1) * P ≤ ((t + 1) * (v1 * 1000000000)) * P := by
    apply Int.mul_le_mul_of_nonneg_right _ (by omega)
    have : (t + 1) * (v1 * 1000000000) = (t * v1 + v1) * 1000000000 := by grind
    rw [this]; omega
  have h2 : (t + 1) * ((v1 * 1000000000) * P) ≤ (t + 1) * V := by
    apply Int.mul_le_mul_of_nonneg_left _ (by omega)
    rw [hV]
    have : 0 ≤ v2 * P := Int.mul_nonneg hv2 (by omega)
    grind
  have h3 : (top * 1000000000 + u2 + 1) * P = (top * 1000000000 + u2) * P + P := by grind
  have h4 : ((t + 1) * (v1 * 1000000000)) * P = (t + 1) * ((v1 * 1000000000) * P) := by grind
  omega
theorem k_less {U V P top u2 U0 v1 v2 V0 t ρ : Int} (hP : 0 < P) (hU : U = (top * 1000000000 + u2) * P + U0) (hV : V = (v1 * 1000000000 + v2) * P + V0)
    (hU0 : U0 < P) (hV0 : 0 ≤ V0) (ht : 0 ≤ t) (e : t * v1 + ρ = top) (h : ρ * 1000000000 + u2 < t * v2) : U < t * V := by
  have h1 : (top * 1000000000 + u2 + 1) * P ≤ (t * (v1 * 1000000000 + v2)) * P := by
    apply Int.mul_le_mul_of_nonneg_right _ (by omega)
    have : t * (v1 * 1000000000 + v2) = (t * v1) * 1000000000 + t * v2 := by grind
    rw [this]; omega
  have h2 : 0 ≤ t * V0 := Int.mul_nonneg ht hV0
  have h3 : t * V = (t * (v1 * 1000000000 + v2)) * P + t * V0 := by rw [hV]; grind
  have h4 : (top * 1000000000 + u2 + 1) * P = (top * 1000000000 + u2) * P + P := by grind
  omega
theorem k_most {U V P top u2 U0 v1 v2 V0 t ρ : Int} (hP : 0 < P) (hU : U = (top * 1000000000 + u2) * P + U0) (hV : V = (v1 * 1000000000 + v2) * P + V0)
    (hU0 : 0 ≤ U0) (hV0 : V0 < P) (hv2 : 0 ≤ v2) (hV00 : 0 ≤ V0) (hv1 : 0 < v1) (ht : 0 ≤ t) (ht2 : t ≤ 1000000000) (e : t * v1 + ρ = top) (h : t * v2 ≤ ρ * 1000000000 + u2) : (t - 1) * V ≤ U := by
  have h1 : (t * (v1 * 1000000000 + v2)) * P ≤ (top * 1000000000 + u2) * P := by
    apply Int.mul_le_mul_of_nonneg_right _ (by omega)
    have : t * (v1 * 1000000000 + v2) = (t * v1) * 1000000000 + t * v2 := by grind
    rw [this]; omega
  have h2 : t * V0 ≤ 1000000000 * P := Int.mul_le_mul (by omega) (by omega) (by omega) (by omega)
  have h3 : t * V = (t * (v1 * 1000000000 + v2)) * P + t * V0 := by rw [hV]; grind
  have h4 : 1000000000 * P ≤ V := by
    have a1 : 1000000000 * P ≤ (v1 * 1000000000) * P := Int.mul_le_mul_of_nonneg_right (by omega) (by omega)
    have a2 : 0 ≤ v2 * P := Int.mul_nonneg hv2 (by omega)
    have a3 : (v1 * 1000000000 + v2) * P = (v1 * 1000000000) * P + v2 * P := by grind
    omega
  have h5 : (t - 1) * V = t * V - V := by grind
  omega
theorem seg_top (u : List Int) (at_ n : Nat) (hu : Dig u) (hn : 2 ≤ n) (hl : at_ + n < u.length) (hz : Zf u (at_ + n + 1)) :
    ∃ U0, 0 ≤ U0 ∧ U0 < 1000000000 ^ (n - 2) ∧ val (u.drop at_) = ((u.getD (at_ + n) 0 * 1000000000 + u.getD (at_ + n - 1) 0) * 1000000000 + u.getD (at_ + n - 2) 0) * 1000000000 ^ (n - 2) + U0 := by
  refine ⟨val ((u.drop at_).take (n - 2)), (val_bounds ((hu.drop _).take _)).1, ?_, ?_⟩
  · have := (val_bounds ((hu.drop at_).take (n - 2))).2
    rw [List.length_take, List.length_drop, Nat.min_eq_left (by omega)] at this
    exact this
  · have h1 := val_take_drop (u.drop at_) (n - 2) (by simp; omega)
    rw [List.drop_drop, val_drop' u (at_ + (n - 2)), val_drop' u (at_ + (n - 2) + 1), val_drop' u (at_ + (n - 2) + 1 + 1)] at h1
    have h2 : val (u.drop (at_ + (n - 2) + 1 + 1 + 1)) = 0 := by
      have : ∀ (l : List Int), Zf l 0 → val l = 0 := by
        intro l
        induction l with
        | nil => intro _; rfl
        | cons x l ih =>
          intro h
          have h0 := h 0 (Nat.le_refl _)
          simp at h0
          rw [val_cons, h0, ih (fun j _ => by have := h (j + 1) (by omega); simpa using this)]; omega
      apply this
      intro j _
      rw [List.getD_eq_getElem?_getD, List.getElem?_drop, ← List.getD_eq_getElem?_getD]
      exact hz _ (by omega)
    rw [h2] at h1
    rw [h1, show at_ + (n - 2) + 1 + 1 = at_ + n by omega, show at_ + (n - 2) + 1 = at_ + n - 1 by omega, show at_ + (n - 2) = at_ + n - 2 by omega]
    generalize (1000000000 : Int) ^ (n - 2) = P
    grind
theorem div_top (v : List Int) (hv : Dig v) (hn : 2 ≤ v.length) :
    ∃ V0, 0 ≤ V0 ∧ V0 < 1000000000 ^ (v.length - 2) ∧ val v = (v.getD (v.length - 1) 0 * 1000000000 + v.getD (v.length - 2) 0) * 1000000000 ^ (v.length - 2) + V0 := by
  refine ⟨val (v.take (v.length - 2)), (val_bounds (hv.take _)).1, ?_, ?_⟩
  · have := (val_bounds (hv.take (v.length - 2))).2
    rw [List.length_take, Nat.min_eq_left (by omega)] at this
    exact this
  · have h1 := val_take_drop v (v.length - 2) (by omega)
    rw [val_drop' v (v.length - 2), val_drop' v (v.length - 2 + 1), show v.length - 2 + 1 + 1 = v.length by omega, List.drop_length, val_nil, show v.length - 2 + 1 = v.length - 1 by omega] at h1
    rw [h1]
    generalize (1000000000 : Int) ^ (v.length - 2) = P
    grind
theorem zf_of_lt (u : List Int) (hu : Dig u) (i n : Nat) (h : val (u.drop i) < 1000000000 ^ n) : Zf u (i + n) := by
  induction n generalizing i with
  | zero =>
    have h0 := val_nonneg (hu.drop i)
    have hz : val (u.drop i) = 0 := by simp at h; omega
    have : ∀ (l : List Int), Dig l → val l = 0 → Zf l 0 := by
      intro l
      induction l with
      | nil => intro _ _ j _; rfl
      | cons x l ih =>
        intro hd hv j _
        have := hd.head
        have := val_nonneg hd.tail
        rw [val_cons] at hv
        cases j with
        | zero => simp; omega
        | succ j => rw [List.getD_cons_succ]; exact ih hd.tail (by omega) j (Nat.zero_le _)
    have h1 := this _ (hu.drop i) hz
    intro j hj
    have h2 := h1 (j - i) (Nat.zero_le _)
    rw [List.getD_eq_getElem?_getD, List.getElem?_drop, ← List.getD_eq_getElem?_getD, show i + (j - i) = j by omega] at h2
    exact h2
  | succ n ih =>
    have h1 := val_drop' u i
    have h2 := hu.getD i
    have h3 : val (u.drop (i + 1)) < 1000000000 ^ n := by
      rw [h1, Int.pow_succ] at h
      generalize val (u.drop (i + 1)) = x at *
      generalize (1000000000 : Int) ^ n = P at *
      omega
    have := ih (i + 1) h3
    rwa [show i + 1 + n = i + (n + 1) by omega] at this
theorem guess_top {U V P top uh ul u2 U0 v1 v2 V0 : Int} (hP : 0 < P) (hU : U = (top * 1000000000 + u2) * P + U0) (hV : V = (v1 * 1000000000 + v2) * P + V0) (ht : top = uh * 1000000000 + ul)
    (hu2 : 0 ≤ u2) (hU0 : 0 ≤ U0) (hul : 0 ≤ ul) (hv2 : v2 < 1000000000) (hV0 : V0 < P) (h : U < 1000000000 * V) : uh ≤ v1 := by
  have h1 : (uh * 1000000000 * 1000000000) * P ≤ (top * 1000000000 + u2) * P := Int.mul_le_mul_of_nonneg_right (by omega) (by omega)
  have h2 : (v1 * 1000000000 + v2) * P + V0 < (v1 * 1000000000 + v2 + 1) * P := by
    have : (v1 * 1000000000 + v2 + 1) * P = (v1 * 1000000000 + v2) * P + P := by grind
    omega
  have h3 : (v1 * 1000000000 + v2 + 1) * P ≤ ((v1 + 1) * 1000000000) * P := Int.mul_le_mul_of_nonneg_right (by omega) (by omega)
  have h4 : (uh * 1000000000 * 1000000000) * P < ((v1 + 1) * 1000000000 * 1000000000) * P := by
    have : ((v1 + 1) * 1000000000 * 1000000000) * P = 1000000000 * (((v1 + 1) * 1000000000) * P) := by grind
    omega
  have := Int.lt_of_mul_lt_mul_right h4 (by omega)
  omega
structure Guess (u v : List Int) (at_ : Nat) : Prop where
  du : Dig u
  dv : Dig v
  n2 : 2 ≤ v.length
  lu : u.length ≤ 35184372088800
  la : at_ + v.length < u.length
  top : v.getD (v.length - 1) 0 ≠ 0
  lt : val (u.drop (at_ + 1)) < val v
theorem Guess.v1 {u v : List Int} {at_ : Nat} (g : Guess u v at_) : 1 ≤ v.getD (v.length - 1) 0 ∧ v.getD (v.length - 1) 0 < 1000000000 := by
  have := g.dv.getD (v.length - 1)
  have := g.top
  omega
theorem Guess.vpos {u v : List Int} {at_ : Nat} (g : Guess u v at_) : 0 < val v := Norm.pos ⟨g.dv, fun _ => g.top⟩ (by intro h; have := g.n2; rw [h] at this; simp at this)
theorem Guess.zf {u v : List Int} {at_ : Nat} (g : Guess u v at_) : Zf u (at_ + v.length + 1) := by
  have := zf_of_lt u g.du (at_ + 1) v.length (by have := g.lt; have := (val_bounds g.dv).2; omega)
  rwa [show at_ + 1 + v.length = at_ + v.length + 1 by omega] at this
theorem Guess.ltB {u v : List Int} {at_ : Nat} (g : Guess u v at_) : val (u.drop at_) < 1000000000 * val v := by
  have h1 := val_drop' u at_
  have h2 := g.du.getD at_
  have := g.lt
  omega
theorem val_zero_of_zf : ∀ (l : List Int), Zf l 0 → val l = 0 := by
  intro l
  induction l with
  | nil => intro _; rfl
  | cons x l ih =>
    intro h
    have h0 := h 0 (Nat.le_refl _)
    simp at h0
    rw [val_cons, h0, ih (fun j _ => by have := h (j + 1) (by omega); simpa using this)]; omega
theorem val_take_zf (l : List Int) (n : Nat) (hn : n ≤ l.length) (h : Zf l n) : val (l.take n) = val l := by
  have h1 := val_take_drop l n hn
  have h2 : val (l.drop n) = 0 := by
    apply val_zero_of_zf
    intro j _
    rw [List.getD_eq_getElem?_getD, List.getElem?_drop, ← List.getD_eq_getElem?_getD]
    exact h _ (by omega)
  rw [h2] at h1
  omega
theorem guess_begin {u v : List Int} {at_ : Nat} (g : Guess u v at_) (T : Int) (hT : T = u.getD (at_ + v.length) 0 * 1000000000 + u.getD (at_ + v.length - 1) 0) :
    0 ≤ T ∧ T < 1000000000000000000 ∧ 0 ≤ T / v.getD (v.length - 1) 0 ∧ T / v.getD (v.length - 1) 0 < 2000000000 ∧ 0 ≤ T % v.getD (v.length - 1) 0 ∧ T % v.getD (v.length - 1) 0 < 1000000000 ∧
      T / v.getD (v.length - 1) 0 * v.getD (v.length - 1) 0 + T % v.getD (v.length - 1) 0 = T ∧ val (u.drop at_) < (T / v.getD (v.length - 1) 0 + 1) * val v := by
  have hv1 := g.v1
  have hv2 := g.dv.getD (v.length - 2)
  have hu2 := g.du.getD (at_ + v.length - 2)
  have hul := g.du.getD (at_ + v.length - 1)
  have huh := g.du.getD (at_ + v.length)
  obtain ⟨U0, a1, a2, a3⟩ := seg_top u at_ v.length g.du g.n2 g.la g.zf
  obtain ⟨V0, c1, c2, c3⟩ := div_top v g.dv g.n2
  have hP := pow_pos (v.length - 2)
  have huv := guess_top hP a3 c3 rfl hu2.1 a1 hul.1 hv2.2 c2 g.ltB
  have hT0 : 0 ≤ T := by omega
  have e1 := Int.ediv_nonneg hT0 (show 0 ≤ v.getD (v.length - 1) 0 by omega)
  have e2 := Int.emod_nonneg T (show v.getD (v.length - 1) 0 ≠ 0 by omega)
  have e3 := Int.emod_lt_of_pos T (show 0 < v.getD (v.length - 1) 0 by omega)
  have e4 := Int.mul_ediv_add_emod T (v.getD (v.length - 1) 0)
  have e5 : T / v.getD (v.length - 1) 0 * v.getD (v.length - 1) 0 + T % v.getD (v.length - 1) 0 = T := by rw [Int.mul_comm]; exact e4
  refine ⟨hT0, by omega, e1, ?_, e2, by omega, e5, ?_⟩
  · apply Int.ediv_lt_of_lt_mul (by omega)
    omega
  · rw [← hT] at a3
    exact k_start hP a3 c3 hu2.2 a2 hv2.1 c1 (by omega) e1 e5 e3
theorem pow_le_mul {a b : Int} {n : Nat} (h : a ≤ b) : a * 1000000000 ^ n ≤ b * 1000000000 ^ n := Int.mul_le_mul_of_nonneg_right h (by have := pow_pos n; omega)
theorem scaled_len {b v : List Int} (hb : Norm b) (hne : b ≠ []) (hv : Norm v) (s : Int) (hs : 1 ≤ s) (hsb : s * (b.getD (b.length - 1) 0 + 1) ≤ 1000000000) (he : val v = val b * s) : v.length = b.length := by
  have hp := List.length_pos_iff.2 hne
  have h1 := hb.lo hne
  have hpos := hb.pos hne
  have h2 : val b < (b.getD (b.length - 1) 0 + 1) * 1000000000 ^ (b.length - 1) := by
    have e := val_take_drop b (b.length - 1) (by omega)
    rw [val_drop' b (b.length - 1), show b.length - 1 + 1 = b.length by omega, List.drop_length, val_nil] at e
    have := (val_bounds (hb.1.take (b.length - 1))).2
    rw [List.length_take, Nat.min_eq_left (by omega)] at this
    have e2 : (b.getD (b.length - 1) 0 + 1) * 1000000000 ^ (b.length - 1) = 1000000000 ^ (b.length - 1) * (b.getD (b.length - 1) 0 + 1000000000 * 0) + 1000000000 ^ (b.length - 1) := by grind
    omega
  have h3 : val b ≤ val v := by
    rw [he]
    have : val b * 1 ≤ val b * s := Int.mul_le_mul_of_nonneg_left hs (by omega)
    omega
  have hle := hb.len_le hv.1 h3
  have h4 : val v < 1000000000 ^ b.length := by
    rw [he]
    have e1 : val b * s < ((b.getD (b.length - 1) 0 + 1) * 1000000000 ^ (b.length - 1)) * s := Int.mul_lt_mul_of_pos_right h2 (by omega)
    have e2 : ((b.getD (b.length - 1) 0 + 1) * 1000000000 ^ (b.length - 1)) * s = (s * (b.getD (b.length - 1) 0 + 1)) * 1000000000 ^ (b.length - 1) := by grind
    have e3 : (s * (b.getD (b.length - 1) 0 + 1)) * 1000000000 ^ (b.length - 1) ≤ 1000000000 * 1000000000 ^ (b.length - 1) := pow_le_mul hsb
    have e4 : (1000000000 : Int) ^ b.length = 1000000000 * 1000000000 ^ (b.length - 1) := by
      conv => lhs; rw [show b.length = (b.length - 1) + 1 by omega, Int.pow_succ]
      grind
    omega
  by_cases h : v.length ≤ b.length
  · omega
  · have hvne : v ≠ [] := by intro h0; subst h0; simp at h
    have := hv.lo hvne
    have := pow_mono (show b.length ≤ v.length - 1 by omega)
    omega
theorem scale_ok {x : Int} (h : 1 ≤ x ∧ x < 1000000000) : 1 ≤ 1000000000 / (x + 1) ∧ 1000000000 / (x + 1) < 1000000000 ∧ 1000000000 / (x + 1) * (x + 1) ≤ 1000000000 := by
  have h1 := Int.mul_ediv_add_emod 1000000000 (x + 1)
  have h2 := Int.emod_nonneg 1000000000 (show x + 1 ≠ 0 by omega)
  have h3 := Int.emod_lt_of_pos 1000000000 (show 0 < x + 1 by omega)
  have h4 : 1000000000 / (x + 1) * (x + 1) = (x + 1) * (1000000000 / (x + 1)) := Int.mul_comm _ _
  refine ⟨?_, ?_, by omega⟩
  · exact Int.le_ediv_of_mul_le (by omega) (by omega)
  · apply Int.ediv_lt_of_lt_mul (by omega)
    omega
theorem scaled_head {a b u : List Int} (ha : Dig a) (hb : Norm b) (hne : b ≠ []) (hu : Dig u) (s : Int) (hs : 1 ≤ s) (he : val u = val a * s) (hl : a.length + 1 ≤ u.length) (hbu : b.length ≤ u.length) (V : Int) (hV : V = val b * s) :
    val (u.drop (u.length - b.length)) < V := by
  have hp := List.length_pos_iff.2 hne
  have h1 := hb.lo hne
  have h2 := (val_bounds ha).2
  have e := val_take_drop u (u.length - b.length) (by omega)
  have h3 := val_nonneg (hu.take (u.length - b.length))
  have hP := pow_pos (u.length - b.length)
  have h4 : val a * s < 1000000000 ^ a.length * s := Int.mul_lt_mul_of_pos_right h2 (by omega)
  have h5 : (1000000000 : Int) ^ a.length * s ≤ 1000000000 ^ (u.length - 1) * s := Int.mul_le_mul_of_nonneg_right (pow_mono (by omega)) (by omega)
  have h6 : (1000000000 : Int) ^ (u.length - 1) * s = 1000000000 ^ (u.length - b.length) * (1000000000 ^ (b.length - 1) * s) := by
    rw [show u.length - 1 = (u.length - b.length) + (b.length - 1) by omega, Int.pow_add]; grind
  have h7 : (1000000000 : Int) ^ (b.length - 1) * s ≤ V := by rw [hV]; exact Int.mul_le_mul_of_nonneg_right h1 (by omega)
  have h8 : 1000000000 ^ (u.length - b.length) * val (u.drop (u.length - b.length)) < 1000000000 ^ (u.length - b.length) * (1000000000 ^ (b.length - 1) * s) := by omega
  have := Int.lt_of_mul_lt_mul_left h8 (by omega)
  omega
theorem quot_of {a b s Q rem : Int} (hs : 0 < s) (hb : 0 < b) (h : a * s = b * s * Q + rem) (h0 : 0 ≤ rem) (h1 : rem < b * s) : Q = a / b ∧ rem / s = a % b := by
  have e : rem = (a - b * Q) * s := by grind
  have h2 : 0 ≤ a - b * Q := by
    by_cases h : 0 ≤ a - b * Q
    · exact h
    · have : (a - b * Q) * s ≤ (-1) * s := Int.mul_le_mul_of_nonneg_right (by omega) (by omega)
      omega
  have h3 : a - b * Q < b := by
    rw [e] at h1
    exact Int.lt_of_mul_lt_mul_right h1 (by omega)
  have h4 : a = (a - b * Q) + b * Q := by omega
  constructor
  · rw [h4, Int.add_mul_ediv_left _ _ (by omega), Int.ediv_eq_zero_of_lt h2 h3]; omega
  · rw [e, Int.mul_ediv_cancel _ (by omega)]
    conv => rhs; rw [h4]
    rw [Int.add_mul_emod_self_left, Int.emod_eq_of_lt h2 h3]
section
variable {u v : List Int} {at_ : Nat} {t ρ : Int}
theorem Guess.down (g : Guess u v at_) (h0 : 0 ≤ t) (he : t * v.getD (v.length - 1) 0 + ρ = u.getD (at_ + v.length) 0 * 1000000000 + u.getD (at_ + v.length - 1) 0) (h2 : 0 ≤ ρ)
    (h : 1000000000 ≤ t ∨ ρ * 1000000000 + u.getD (at_ + v.length - 2) 0 < t * v.getD (v.length - 2) 0) : 1 ≤ t ∧ val (u.drop at_) < t * val v := by
  have hVp := g.vpos
  have hB := g.ltB
  have hu2 := g.du.getD (at_ + v.length - 2)
  obtain ⟨U0, a1, a2, a3⟩ := seg_top u at_ v.length g.du g.n2 g.la g.zf
  obtain ⟨V0, c1, c2, c3⟩ := div_top v g.dv g.n2
  have hP := pow_pos (v.length - 2)
  rcases h with h | h
  · have : 1000000000 * val v ≤ t * val v := Int.mul_le_mul_of_nonneg_right h (by omega)
    exact ⟨by omega, by omega⟩
  · refine ⟨?_, k_less hP a3 c3 a2 c1 h0 he h⟩
    by_cases h4 : t = 0
    · subst h4; omega
    · omega
theorem Guess.stay (g : Guess u v at_) (h0 : 0 ≤ t) (he : t * v.getD (v.length - 1) 0 + ρ = u.getD (at_ + v.length) 0 * 1000000000 + u.getD (at_ + v.length - 1) 0) (h2 : 0 ≤ ρ)
    (h : 1000000000 ≤ ρ ∨ t < 1000000000 ∧ t * v.getD (v.length - 2) 0 ≤ ρ * 1000000000 + u.getD (at_ + v.length - 2) 0) : t < 1000000000 ∧ (t - 1) * val v ≤ val (u.drop at_) := by
  have hv1 := g.v1
  have hv2 := g.dv.getD (v.length - 2)
  have hu2 := g.du.getD (at_ + v.length - 2)
  have hul := g.du.getD (at_ + v.length - 1)
  have huh := g.du.getD (at_ + v.length)
  obtain ⟨U0, a1, a2, a3⟩ := seg_top u at_ v.length g.du g.n2 g.la g.zf
  obtain ⟨V0, c1, c2, c3⟩ := div_top v g.dv g.n2
  have hP := pow_pos (v.length - 2)
  have huv := guess_top hP a3 c3 rfl hu2.1 a1 hul.1 hv2.2 c2 g.ltB
  rcases h with h | ⟨h, h3⟩
  · have htB : t < 1000000000 := by
      by_cases h : t < 1000000000
      · exact h
      · have : 1000000000 * v.getD (v.length - 1) 0 ≤ t * v.getD (v.length - 1) 0 := Int.mul_le_mul_of_nonneg_right (by omega) (by omega)
        omega
    have htv : 0 ≤ t * v.getD (v.length - 2) 0 ∧ t * v.getD (v.length - 2) 0 ≤ 999999998000000001 := mul_step (o := 0) (c := 0) (by omega) (by omega) hv2 (by omega)
    exact ⟨htB, k_most hP a3 c3 a1 c2 hv2.1 c1 (by omega) h0 (by omega) he (by omega)⟩
  · exact ⟨h, k_most hP a3 c3 a1 c2 hv2.1 c1 (by omega) h0 (by omega) he h3⟩
end
end Gb
namespace Go.Proofs.YtolehnkoocnenaaGreatDoor.S
open Go Go.Sx Go.RowKit Gb
variable {G : World → Prop} (hG : ∀ w w', G w → Below w.heap.size w w' → G w')
def overInv (v : List Int) (L : Nat) (A : Int) (s : List Int × List Int × Nat) : Prop :=
  s.2.2 + v.length ≤ L ∧ Dig s.1 ∧ s.1.length = L ∧ Dig s.2.1 ∧ s.2.1.length = L - v.length ∧ (∀ j, j < s.2.2 → s.2.1.getD j 0 = 0) ∧ val (s.1.drop s.2.2) < val v ∧ val s.1 + val v * val s.2.1 = A
def overInv2 (u v : List Int) (m : Nat) (s : Int × Int) : Prop :=
  0 ≤ s.1 ∧ s.1 < 2000000000 ∧ 0 ≤ s.2 ∧ s.2 < 4000000000 ∧ s.1 * v.getD (v.length - 1) 0 + s.2 = u.getD (m + v.length) 0 * 1000000000 + u.getD (m + v.length - 1) 0 ∧ val (u.drop m) < (s.1 + 1) * val v
omit hG in
theorem overInv_next {u v q : List Int} {L k : Nat} {A : Int} (g : Guess u v k) (h : overInv v L A (u, q, k + 1)) : overInv v L A (redU u v k, q.set k (val (u.drop k) / val v), k) := by
  obtain ⟨i1, i2, i3, i4, i5, i6, i7, i8⟩ := h
  dsimp only at i1 i2 i3 i4 i5 i6 i7 i8
  have hV := g.vpos
  have hB := g.ltB
  have hU := val_nonneg (i2.drop k)
  have q0 : 0 ≤ val (u.drop k) / val v := Int.ediv_nonneg hU (by omega)
  have q1 : val (u.drop k) / val v < 1000000000 := Int.ediv_lt_of_lt_mul hV (by omega)
  have r1 := Int.emod_lt_of_pos (val (u.drop k)) hV
  refine ⟨by dsimp only; omega, redU_dig i2, by dsimp only; rw [redU_len (by have := g.la; omega)]; exact i3, i4.set _ q0 q1, by simp [i5], (fun j hj => by dsimp only at hj ⊢; rw [Gb.getD_set_ne _ _ _ _ (by omega)]; exact i6 j (by omega)), by dsimp only; rw [redU_val g.dv hV g.la]; exact r1, ?_⟩
  dsimp only
  have hla := g.la
  have e0 := val_take_drop u k (by omega)
  have e1 := val_take_drop (redU u v k) k (by rw [redU_len (by omega)]; omega)
  rw [redU_take (by omega), redU_val g.dv hV g.la] at e1
  rw [e1, val_set _ _ _ (by omega), i6 k (by omega), ← i8, e0]
  have e2 := Int.mul_ediv_add_emod (val (u.drop k)) (val v)
  generalize val (u.drop k) / val v = Q at *
  generalize val (u.drop k) % val v = R at *
  generalize (1000000000 : Int) ^ k = P at *
  rw [← e2]
  grind
include hG
end Go.Proofs.YtolehnkoocnenaaGreatDoor.S
namespace Go.Proofs.YtolehnkoocnenaaGreatDoor.S
open Go Go.Sx Go.RowKit Gb
variable {G : World → Prop} (hG : ∀ w w', G w → Below w.heap.size w w' → G w')
omit hG in
theorem len_Lw (a : Nat) : (wl a).length = Lw a := rfl
theorem Lw_two {a : Nat} (h : Lw a ≤ 2) : a < 1000000000000000000 := by
  have h1 := lt_Lw a
  have h2 : 1000000000 ^ Lw a ≤ 1000000000 ^ 2 := Nat.pow_le_pow_right (by omega) h
  omega
theorem Lw_zero_iff (a : Nat) : Lw a = 0 ↔ a = 0 := by
  constructor
  · intro h
    have := lt_Lw a
    rw [h] at this
    simpa using this
  · intro h; subst h; unfold Lw; rw [wl_zero]; rfl
include hG
end Go.Proofs.YtolehnkoocnenaaGreatDoor.S
namespace Gb
open Go Go.RowKit
def isD (c : UInt8) : Bool := decide (48 ≤ c.toNat) && decide (c.toNat ≤ 57)
def natOf (l : List UInt8) : Nat := l.foldl (fun n c => 10 * n + (c.toNat - 48)) 0
def isNat (l : List UInt8) : Bool := !l.isEmpty && l.all isD && (l.length == 1 || l.head? != some 48)
theorem isD_iff {c : UInt8} : isD c = true ↔ 48 ≤ c.toNat ∧ c.toNat ≤ 57 := by simp [isD]
theorem foldl_from (l : List UInt8) (n : Nat) : l.foldl (fun n (c : UInt8) => 10 * n + (c.toNat - 48)) n = n * 10 ^ l.length + natOf l := by
  unfold natOf
  induction l generalizing n with
  | nil => simp
  | cons c l ih =>
    simp only [List.foldl_cons, List.length_cons]
    rw [ih, ih (10 * 0 + (c.toNat - 48)), Nat.pow_succ]
    simp only [Nat.mul_zero, Nat.zero_add]
    rw [Nat.add_mul, Nat.add_assoc]
    congr 1
    rw [Nat.mul_comm 10 n, Nat.mul_assoc, Nat.mul_comm 10]
theorem natOf_nil : natOf [] = 0 := rfl
theorem natOf_append (a b : List UInt8) : natOf (a ++ b) = natOf a * 10 ^ b.length + natOf b := by
  conv => lhs; unfold natOf
  rw [List.foldl_append, foldl_from]
  rfl
theorem natOf_snoc (a : List UInt8) (c : UInt8) : natOf (a ++ [c]) = 10 * natOf a + (c.toNat - 48) := by
  rw [natOf_append]; simp [natOf]; omega
theorem natOf_lt (l : List UInt8) (h : ∀ c ∈ l, isD c = true) : natOf l < 10 ^ l.length := by
  induction l with
  | nil => simp [natOf]
  | cons c l ih =>
    have h1 := isD_iff.1 (h c (List.mem_cons_self ..))
    have h2 := ih fun x hx => h x (List.mem_cons_of_mem _ hx)
    rw [show c :: l = [c] ++ l from rfl, natOf_append]
    simp only [List.length_append, List.length_cons, List.length_nil, Nat.pow_add, Nat.zero_add, Nat.pow_one]
    have : natOf [c] = c.toNat - 48 := by simp [natOf]
    rw [this]
    have h4 : (c.toNat - 48) * 10 ^ l.length ≤ 9 * 10 ^ l.length := Nat.mul_le_mul_right _ (by omega)
    omega
theorem dec_isD (n : Nat) : ∀ c ∈ Lib.decDigits n, isD c = true := by
  induction n using Nat.strongRecOn with
  | _ n ih =>
    rw [Lib.decDigits]
    split
    · rename_i h
      intro c hc
      obtain rfl := List.mem_singleton.1 hc
      rw [isD_iff]
      have : (UInt8.ofNat (48 + n)).toNat = 48 + n := by rw [UInt8.toNat_ofNat']; omega
      omega
    · intro c hc
      rcases List.mem_append.1 hc with hc | hc
      · exact ih (n / 10) (by omega) c hc
      · obtain rfl := List.mem_singleton.1 hc
        rw [isD_iff]
        have : (UInt8.ofNat (48 + n % 10)).toNat = 48 + n % 10 := by rw [UInt8.toNat_ofNat']; omega
        omega
theorem natOf_dec (n : Nat) : natOf (Lib.decDigits n) = n := by
  induction n using Nat.strongRecOn with
  | _ n ih =>
    rw [Lib.decDigits]
    split
    · rename_i h
      simp only [natOf, List.foldl_cons, List.foldl_nil, UInt8.toNat_ofNat']
      omega
    · rw [natOf_snoc, ih (n / 10) (by omega), UInt8.toNat_ofNat']
      omega
theorem dec_ne (n : Nat) : Lib.decDigits n ≠ [] := by
  have := Lib.decDigits_length n
  have h := Lib.nDigits_pos n
  intro h0
  rw [h0] at this
  simp at this
  omega
theorem dec_head (n : Nat) : (Lib.decDigits n).length = 1 ∨ (Lib.decDigits n).head? ≠ some 48 := by
  induction n using Nat.strongRecOn with
  | _ n ih =>
    rw [Lib.decDigits]
    split
    · left; rfl
    · rename_i h
      right
      rcases ih (n / 10) (by omega) with h1 | h1
      · obtain ⟨c, hc⟩ := List.length_eq_one_iff.1 h1
        rw [hc]
        simp
        rintro rfl
        have := natOf_dec (n / 10)
        rw [hc] at this
        simp [natOf] at this
        omega
      · cases he : Lib.decDigits (n / 10) with
        | nil => exact absurd he (dec_ne _)
        | cons x l => rw [he] at h1; simpa using h1
theorem isNat_dec (n : Nat) : isNat (Lib.decDigits n) = true := by
  unfold isNat
  have h1 := dec_ne n
  have h2 := dec_isD n
  have h3 := dec_head n
  simp only [Bool.and_eq_true, Bool.not_eq_true', List.isEmpty_eq_false_iff, List.all_eq_true, Bool.or_eq_true, beq_iff_eq, bne_iff_ne]
  exact ⟨⟨h1, h2⟩, h3⟩
theorem isNat_iff {l : List UInt8} : isNat l = true ↔ l ≠ [] ∧ (∀ c ∈ l, isD c = true) ∧ (l.length = 1 ∨ l.head? ≠ some 48) := by
  unfold isNat
  simp only [Bool.and_eq_true, Bool.not_eq_true', List.isEmpty_eq_false_iff, List.all_eq_true, Bool.or_eq_true, beq_iff_eq, bne_iff_ne]
  constructor
  · rintro ⟨⟨a, b⟩, c⟩; exact ⟨a, b, c⟩
  · rintro ⟨a, b, c⟩; exact ⟨⟨a, b⟩, c⟩
theorem natOf_ge {l : List UInt8} (h : isNat l = true) (h2 : 2 ≤ l.length) : 10 ^ (l.length - 1) ≤ natOf l := by
  obtain ⟨_, hd, hh⟩ := isNat_iff.1 h
  cases l with
  | nil => simp at h2
  | cons c l =>
    have h1 := isD_iff.1 (hd c (List.mem_cons_self ..))
    have h3 : c ≠ 48 := by
      rcases hh with hh | hh
      · rw [hh] at h2; omega
      · intro he; subst he; simp at hh
    have h4 : c.toNat ≠ 48 := by
      intro he
      apply h3
      apply UInt8.toNat_inj.1
      rw [he]; rfl
    rw [show c :: l = [c] ++ l from rfl, natOf_append]
    have : natOf [c] = c.toNat - 48 := by simp [natOf]
    rw [this]
    have h5 : 1 * 10 ^ l.length ≤ (c.toNat - 48) * 10 ^ l.length := Nat.mul_le_mul_right _ (by omega)
    simp only [List.length_append, List.length_cons, List.length_nil]
    rw [show 0 + 1 + l.length - 1 = l.length by omega]
    omega
theorem digits_inj : ∀ (l m : List UInt8), (∀ c ∈ l, isD c = true) → (∀ c ∈ m, isD c = true) → l.length = m.length → natOf l = natOf m → l = m
  | [], [], _, _, _, _ => rfl
  | [], _ :: _, _, _, h, _ => by simp at h
  | _ :: _, [], _, _, h, _ => by simp at h
  | c :: l, d :: m, hl, hm, h, hv => by
    have h1 := isD_iff.1 (hl c (List.mem_cons_self ..))
    have h2 := isD_iff.1 (hm d (List.mem_cons_self ..))
    have h3 := natOf_lt l fun x hx => hl x (List.mem_cons_of_mem _ hx)
    have h4 := natOf_lt m fun x hx => hm x (List.mem_cons_of_mem _ hx)
    have hlen : l.length = m.length := by simpa using h
    rw [show c :: l = [c] ++ l from rfl, show d :: m = [d] ++ m from rfl, natOf_append, natOf_append] at hv
    have e1 : natOf [c] = c.toNat - 48 := by simp [natOf]
    have e2 : natOf [d] = d.toNat - 48 := by simp [natOf]
    rw [e1, e2, hlen] at hv
    rw [hlen] at h3
    generalize 10 ^ m.length = P at *
    have hcd : c.toNat - 48 = d.toNat - 48 := by
      rcases Nat.lt_trichotomy (c.toNat - 48) (d.toNat - 48) with h | h | h
      · have : (c.toNat - 48 + 1) * P ≤ (d.toNat - 48) * P := Nat.mul_le_mul_right _ h
        rw [Nat.add_mul] at this; omega
      · exact h
      · have : (d.toNat - 48 + 1) * P ≤ (c.toNat - 48) * P := Nat.mul_le_mul_right _ h
        rw [Nat.add_mul] at this; omega
    rw [hcd] at hv
    obtain rfl : c = d := UInt8.toNat_inj.1 (by omega)
    rw [digits_inj l m (fun x hx => hl x (List.mem_cons_of_mem _ hx)) (fun x hx => hm x (List.mem_cons_of_mem _ hx)) hlen (by omega)]
theorem dec_natOf {l : List UInt8} (h : isNat l = true) : Lib.decDigits (natOf l) = l := by
  have hN := isNat_dec (natOf l)
  obtain ⟨hne, hd, hh⟩ := isNat_iff.1 h
  obtain ⟨hne2, hd2, hh2⟩ := isNat_iff.1 hN
  apply digits_inj _ _ hd2 hd _ (natOf_dec _)
  have h1 := natOf_lt l hd
  have h2 := natOf_lt _ hd2
  rw [natOf_dec] at h2
  have hp1 := List.length_pos_iff.2 hne
  have hp2 := List.length_pos_iff.2 hne2
  rcases Nat.lt_trichotomy (Lib.decDigits (natOf l)).length l.length with hlt | he | hlt
  · have := natOf_ge h (by omega)
    have := Nat.pow_le_pow_right (show 0 < 10 by omega) (show (Lib.decDigits (natOf l)).length ≤ l.length - 1 by omega)
    omega
  · exact he
  · have := natOf_ge hN (by omega)
    rw [natOf_dec] at this
    have := Nat.pow_le_pow_right (show 0 < 10 by omega) (show l.length ≤ (Lib.decDigits (natOf l)).length - 1 by omega)
    omega
theorem take_succ_getD (l : List UInt8) (i : Nat) (h : i < l.length) : l.take (i + 1) = l.take i ++ [l.getD i 0] := by
  rw [List.take_succ_eq_append_getElem h, List.getD_eq_getElem?_getD, List.getElem?_eq_getElem h]; rfl
def strP (l : List UInt8) : Go.Sx.PV := .val (.string ⟨l.toArray⟩)
theorem strP_c (l : List UInt8) : strP l = .val (.string ⟨l.toArray⟩) := rfl
theorem getD_get (l : List UInt8) (i : Nat) : l[i]?.getD 0 = l.getD i 0 := by rw [List.getD_eq_getElem?_getD]
end Gb
namespace Go.Proofs.YtolehnkoocnenaaGreatDoor.S
open Go Go.Sx Go.RowKit Gb
variable {G : World → Prop} (hG : ∀ w w', G w → Below w.heap.size w w' → G w')
include hG
end Go.Proofs.YtolehnkoocnenaaGreatDoor.S
namespace Gb
open Go Go.RowKit Go.Sx
theorem ten_pow (i : Nat) : 1000000000 ^ i = 10 ^ (9 * i) := by rw [Nat.pow_mul]
theorem Lw_high (n : Nat) : n < 10 ^ (9 * Lw n) := by rw [← ten_pow]; exact lt_Lw n
end Gb
namespace Go.Proofs.YtolehnkoocnenaaGreatDoor.S
open Go Go.Sx Go.RowKit Gb
variable {G : World → Prop} (hG : ∀ w w', G w → Below w.heap.size w w' → G w')
include hG
end Go.Proofs.YtolehnkoocnenaaGreatDoor.S
namespace Gb
open Go Go.RowKit Go.Sx
def zmk (b : Bool) (n : Nat) : Int := if b then -(n : Int) else n
theorem zmk_abs (b : Bool) (n : Nat) : (zmk b n).natAbs = n := by unfold zmk; split <;> simp
def zP (z : Int) : PV := .agg [.val (.bool (decide (z < 0))), nP z.natAbs]
theorem zmk_self (z : Int) : zmk (decide (z < 0)) z.natAbs = z := by unfold zmk; split <;> rename_i h <;> simp at h <;> omega
def iD (z : Int) : List UInt8 := if z < 0 then 45 :: Lib.decDigits z.natAbs else Lib.decDigits z.natAbs
def siP (z : Int) : PV := strP (iD z)
theorem siP_c (z : Int) : siP z = .val (.string ⟨(iD z).toArray⟩) := rfl
def isInt : List UInt8 → Bool
  | [] => false
  | c :: r => if c = 45 then isNat r && r != [48] else isNat (c :: r)
def intOf : List UInt8 → Int
  | [] => 0
  | c :: r => if c = 45 then -(natOf r : Int) else natOf (c :: r)
theorem isNat_head {c : UInt8} {r : List UInt8} (h : isNat (c :: r) = true) : c ≠ 45 := by
  have := isD_iff.1 ((isNat_iff.1 h).2.1 c (List.mem_cons_self ..))
  rintro rfl
  simp at this
theorem isInt_nat {l : List UInt8} (h : isNat l = true) : isInt l = true ∧ intOf l = natOf l := by
  cases l with
  | nil => simp [isNat] at h
  | cons c r =>
    have := isNat_head h
    simp [isInt, intOf, this, h]
theorem dec_pos_ne {n : Nat} (h : n ≠ 0) : Lib.decDigits n ≠ [48] := by
  intro h0
  have := natOf_dec n
  rw [h0] at this
  simp [natOf] at this
  omega
theorem isInt_iD (z : Int) : isInt (iD z) = true := by
  unfold iD
  split
  · rename_i h
    simp [isInt, isNat_dec, dec_pos_ne (show z.natAbs ≠ 0 by omega)]
  · exact (isInt_nat (isNat_dec _)).1
theorem intOf_iD (z : Int) : intOf (iD z) = z := by
  unfold iD
  split
  · simp [intOf, natOf_dec]; omega
  · rw [(isInt_nat (isNat_dec _)).2, natOf_dec]; omega
theorem natOf_zero {r : List UInt8} (h : isNat r = true) (h0 : natOf r = 0) : r = [48] := by
  have := dec_natOf h
  rw [h0] at this
  rw [← this, Lib.decDigits]; rfl
theorem isInt_cons (c : UInt8) (r : List UInt8) : isInt (c :: r) = if c = 45 then isNat r && r != [48] else isNat (c :: r) := rfl
theorem intOf_cons (c : UInt8) (r : List UInt8) : intOf (c :: r) = if c = 45 then -(natOf r : Int) else natOf (c :: r) := rfl
theorem iD_intOf {l : List UInt8} (h : isInt l = true) : iD (intOf l) = l := by
  cases l with
  | nil => simp [isInt] at h
  | cons c r =>
    rw [isInt_cons] at h
    by_cases hc : c = 45
    · subst hc
      rw [if_pos rfl] at h
      simp only [Bool.and_eq_true, bne_iff_ne] at h
      have h0 : natOf r ≠ 0 := fun h0 => h.2 (natOf_zero h.1 h0)
      rw [intOf_cons, if_pos rfl]
      unfold iD
      rw [if_pos (by omega)]
      congr 1
      rw [Int.natAbs_neg, Int.natAbs_natCast]
      exact dec_natOf h.1
    · rw [if_neg hc] at h
      rw [intOf_cons, if_neg hc]
      unfold iD
      rw [if_neg (by omega), Int.natAbs_natCast]
      exact dec_natOf h
theorem dec_len (n : Nat) : (Lib.decDigits n).length ≤ 9 * Lw n + 1 := by
  by_cases h : 2 ≤ (Lib.decDigits n).length
  · have h1 := natOf_ge (isNat_dec n) h
    rw [natOf_dec] at h1
    have h2 := Lw_high n
    have h3 : (Lib.decDigits n).length - 1 < 9 * Lw n := by
      apply Classical.byContradiction
      intro hc
      have := Nat.pow_le_pow_right (show 0 < 10 by omega) (show 9 * Lw n ≤ (Lib.decDigits n).length - 1 by omega)
      omega
    omega
  · omega
def dP (n : Nat) : Go.Sx.PV := strP (Lib.decDigits n)
theorem dP_c (n : Nat) : dP n = .val (.string ⟨(Lib.decDigits n).toArray⟩) := rfl
theorem Lw_natOf {l : List UInt8} (h : ∀ c ∈ l, isD c = true) : Lw (natOf l) ≤ l.length / 9 + 1 := by
  refine Lw_le ?_
  rw [ten_pow]
  exact Nat.lt_of_lt_of_le (natOf_lt l h) (Nat.pow_le_pow_right (by omega) (by omega))
theorem Lw_zero : Lw 0 = 0 := by unfold Lw; rw [wl_zero]; rfl
theorem Lw_one : Lw 1 = 1 := by unfold Lw; rw [wl_pos (by omega), show 1 / 1000000000 = 0 by decide, wl_zero]; rfl
theorem euclid_unique {x y q r : Int} (h0 : y ≠ 0) (h : q * y + r = x) (h1 : 0 ≤ r) (h2 : r < y.natAbs) : x / y = q ∧ x % y = r := by
  by_cases hy : 0 < y
  · exact (Int.ediv_emod_unique hy).2 ⟨by rw [← h, Int.mul_comm]; omega, h1, by omega⟩
  · have hy' : 0 < -y := by omega
    have := (Int.ediv_emod_unique (a := x) (q := -q) (r := r) hy').2 ⟨by rw [← h, Int.neg_mul_neg, Int.mul_comm]; omega, h1, by omega⟩
    rw [Int.ediv_neg, Int.emod_neg] at this
    exact ⟨by omega, this.2⟩
theorem emod_abs (x y : Int) (h0 : y ≠ 0) : 0 ≤ x % y ∧ x % y < y.natAbs := by
  refine ⟨Int.emod_nonneg x h0, ?_⟩
  by_cases hy : 0 < y
  · have := Int.emod_lt_of_pos x hy; omega
  · have := Int.emod_lt_of_pos x (show 0 < -y by omega)
    rw [Int.emod_neg] at this
    omega
theorem ediv_abs (x y : Int) (h0 : y ≠ 0) : (x / y).natAbs ≤ x.natAbs + 1 := by
  have h1 := Int.mul_ediv_add_emod x y
  have h2 := emod_abs x y h0
  generalize x / y = q at *
  generalize x % y = r at *
  have h3 : (y * q).natAbs ≤ x.natAbs + y.natAbs := by omega
  rw [Int.natAbs_mul] at h3
  apply Classical.byContradiction
  intro hc
  have h4 : y.natAbs * (x.natAbs + 2) ≤ y.natAbs * q.natAbs := Nat.mul_le_mul_left _ (by omega)
  have h5 : 1 * x.natAbs ≤ y.natAbs * x.natAbs := Nat.mul_le_mul_right _ (by omega)
  rw [Nat.mul_add] at h4
  omega
theorem Lw_emod (x y : Int) (h0 : y ≠ 0) : Lw (x % y).natAbs ≤ Lw y.natAbs := by
  have := emod_abs x y h0
  exact Lw_mono (by omega)
theorem Lw_ediv (x y : Int) (h0 : y ≠ 0) : Lw (x / y).natAbs ≤ Lw x.natAbs + 2 := by
  have h1 := Lw_mono (ediv_abs x y h0)
  have h2 := Lw_add x.natAbs 1
  rw [Lw_one] at h2
  omega
theorem ba_beq0 (a b : ByteArray) : (a == b) = (a.data == b.data) := by cases a; cases b; rfl
theorem ba_beq (l m : List UInt8) : ((⟨l.toArray⟩ : ByteArray) == ⟨m.toArray⟩) = (l == m) := by
  rw [ba_beq0]
  simp
theorem ag : (∀ k ks v vs, hasAll (k :: ks) (v :: vs) = (k.has v && hasAll ks vs)) ∧ hasAll [] [] = true ∧ (∀ b, EK.bool.has (.bool b) = true) ∧ (∀ s, EK.string.has (.string s) = true) ∧ (∀ k n, (EK.int k).has (.int k n) = true) ∧
    (∀ a l b m, eqAll (a :: l) (b :: m) = (valEq a b && eqAll l m)) ∧ eqAll [] [] = true ∧ (∀ a b, valEq (.bool a) (.bool b) = (a == b)) ∧ (∀ l m : List UInt8, valEq (.string ⟨l.toArray⟩) (.string ⟨m.toArray⟩) = (l == m)) ∧ (∀ k k' a b, valEq (.int k a) (.int k' b) = (a == b)) ∧
    (∀ b, binAg2 .neq true b = some (.bool !b)) ∧ (∀ b, binAg2 .eql true b = some (.bool b)) :=
  ⟨fun _ _ _ _ => rfl, rfl, fun _ => rfl, fun _ => rfl, fun k n => by cases k <;> rfl, fun _ _ _ _ => rfl, rfl, fun _ _ => rfl, fun l m => ba_beq l m, fun _ _ _ _ => rfl, fun _ => rfl, fun _ => rfl⟩
end Gb
namespace Go.Proofs.YtolehnkoocnenaaGreatDoor.S
open Go Go.Sx Go.RowKit Gb
variable {G : World → Prop} (hG : ∀ w w', G w → Below w.heap.size w w' → G w')
include hG
end Go.Proofs.YtolehnkoocnenaaGreatDoor.S
namespace Gb
open Go Go.RowKit Go.Sx
theorem iD_len (z : Int) : (iD z).length ≤ 9 * Lw z.natAbs + 2 := by
  have := dec_len z.natAbs
  unfold iD
  split <;> simp <;> omega
theorem Lw_intOf {p : List UInt8} (h1 : isInt p = true) : Lw (intOf p).natAbs ≤ p.length / 9 + 1 := by
  have : (intOf p).natAbs < 10 ^ p.length := by
    cases p with
    | nil => simp [isInt] at h1
    | cons c r =>
      rw [isInt_cons] at h1
      rw [intOf_cons]
      by_cases hc : c = 45
      · rw [if_pos hc] at h1 ⊢
        simp only [Bool.and_eq_true] at h1
        have := natOf_lt r (isNat_iff.1 h1.1).2.1
        have := Nat.pow_le_pow_right (show 0 < 10 by omega) (show r.length ≤ (c :: r).length by simp)
        omega
      · rw [if_neg hc] at h1 ⊢
        have := natOf_lt (c :: r) (isNat_iff.1 h1).2.1
        omega
  refine Lw_le ?_
  rw [ten_pow]
  exact Nat.lt_of_lt_of_le this (Nat.pow_le_pow_right (by omega) (by omega))
theorem sub_sign_num (x y : Rat) : (x - y).num.sign = (x.num * y.den - y.num * x.den).sign := by
  rw [Rat.sub_def, Rat.num_normalize]
  generalize hp : x.num * ↑y.den - y.num * ↑x.den = p
  have hd := x.den_nz
  have hd2 := y.den_nz
  have hdv : ((p.natAbs.gcd (x.den * y.den) : Nat) : Int) ∣ p := Int.ofNat_dvd_left.2 (Nat.gcd_dvd_left _ _)
  have hg : 0 < p.natAbs.gcd (x.den * y.den) := Nat.gcd_pos_of_pos_right _ (Nat.mul_pos (by omega) (by omega))
  generalize p.natAbs.gcd (x.den * y.den) = g at *
  obtain ⟨k, rfl⟩ := hdv
  rw [Int.mul_ediv_cancel_left _ (by omega), Int.sign_mul, Int.sign_eq_one_of_pos (show (0 : Int) < g by omega), Int.one_mul]
def qP (x : Rat) : PV := .agg [.val (.bool (decide (x.num < 0))), nP x.num.natAbs, nP x.den]
def rT (x : Rat) : List UInt8 := if x.den = 1 then iD x.num else iD x.num ++ 47 :: Lib.decDigits x.den
def rtP (x : Rat) : PV := strP (rT x)
theorem rtP_c (x : Rat) : rtP x = .val (.string ⟨(rT x).toArray⟩) := rfl
def splitM : List UInt8 → List UInt8 × List UInt8 × Bool
  | [] => ([], [49], false)
  | c :: r => if c = 47 then ([], r, true) else (c :: (splitM r).1, (splitM r).2.1, (splitM r).2.2)
theorem splitM_cons (c : UInt8) (r : List UInt8) : splitM (c :: r) = if c = 47 then ([], r, true) else (c :: (splitM r).1, (splitM r).2.1, (splitM r).2.2) := rfl
theorem splitM_no : ∀ (l : List UInt8), (∀ c ∈ l, c ≠ 47) → splitM l = (l, [49], false)
  | [], _ => rfl
  | c :: r, h => by
    rw [splitM_cons, if_neg (h c (List.mem_cons_self ..)), splitM_no r fun x hx => h x (List.mem_cons_of_mem _ hx)]
theorem splitM_at : ∀ (l m : List UInt8), (∀ c ∈ l, c ≠ 47) → splitM (l ++ 47 :: m) = (l, m, true)
  | [], m, _ => by rw [List.nil_append, splitM_cons, if_pos rfl]
  | c :: r, m, h => by
    rw [List.cons_append, splitM_cons, if_neg (h c (List.mem_cons_self ..)), splitM_at r m fun x hx => h x (List.mem_cons_of_mem _ hx)]
theorem splitM_inv : ∀ (l : List UInt8), ((splitM l).2.2 = true ∧ l = (splitM l).1 ++ 47 :: (splitM l).2.1) ∨ ((splitM l).2.2 = false ∧ l = (splitM l).1 ∧ (splitM l).2.1 = [49])
  | [] => .inr ⟨rfl, rfl, rfl⟩
  | c :: r => by
    rw [splitM_cons]
    by_cases h : c = 47
    · rw [if_pos h]; subst h; exact .inl ⟨rfl, rfl⟩
    · rw [if_neg h]
      rcases splitM_inv r with ⟨h1, h2⟩ | ⟨h1, h2, h3⟩
      · left; refine ⟨h1, ?_⟩; show c :: r = c :: (splitM r).1 ++ _; rw [List.cons_append, ← h2]
      · right; refine ⟨h1, ?_, h3⟩; show c :: r = c :: (splitM r).1; rw [← h2]
theorem splitM_len (l : List UInt8) : (splitM l).1.length ≤ l.length ∧ (splitM l).2.1.length ≤ l.length + 1 := by
  rcases splitM_inv l with ⟨_, h⟩ | ⟨_, h1, h2⟩
  · have := congrArg List.length h
    rw [List.length_append, List.length_cons] at this
    omega
  · rw [h2, ← h1]; simp
theorem iD_no47 (z : Int) : ∀ c ∈ iD z, c ≠ 47 := by
  intro c hc
  have hd : ∀ n, ∀ c ∈ Lib.decDigits n, c ≠ 47 := by
    intro n c hc h
    subst h
    have := isD_iff.1 (dec_isD n 47 hc)
    simp at this
  unfold iD at hc
  split at hc
  · rcases List.mem_cons.1 hc with rfl | hc
    · decide
    · exact hd _ c hc
  · exact hd _ c hc
def isRat (l : List UInt8) : Bool := isInt (splitM l).1 && isNat (splitM l).2.1 && (!(splitM l).2.2 || (decide (1 < natOf (splitM l).2.1) && decide (intOf (splitM l).1 ≠ 0) && decide (Nat.gcd (intOf (splitM l).1).natAbs (natOf (splitM l).2.1) = 1)))
def ratOf (l : List UInt8) : Rat := mkRat (intOf (splitM l).1) (natOf (splitM l).2.1)
theorem isRat_spec {l : List UInt8} (h : isRat l = true) : isInt (splitM l).1 = true ∧ isNat (splitM l).2.1 = true ∧ 0 < natOf (splitM l).2.1 ∧ Nat.gcd (intOf (splitM l).1).natAbs (natOf (splitM l).2.1) = 1 ∧ ((splitM l).2.2 = true ↔ natOf (splitM l).2.1 ≠ 1) := by
  unfold isRat at h
  simp only [Bool.and_eq_true, Bool.or_eq_true, Bool.not_eq_true', decide_eq_true_eq] at h
  obtain ⟨⟨h1, h2⟩, h3⟩ := h
  rcases splitM_inv l with ⟨h4, h5⟩ | ⟨h4, h5, h6⟩
  · rcases h3 with h3 | h3
    · rw [h4] at h3; cases h3
    · exact ⟨h1, h2, by omega, h3.2, by rw [h4]; simp; omega⟩
  · have : natOf (splitM l).2.1 = 1 := by rw [h6]; rfl
    rw [this]
    exact ⟨h1, h2, by omega, Nat.gcd_one_right _, by rw [h4]; simp⟩
theorem ratOf_spec {l : List UInt8} (h : isRat l = true) : (ratOf l).num = intOf (splitM l).1 ∧ (ratOf l).den = natOf (splitM l).2.1 := by
  obtain ⟨_, _, h3, h4, _⟩ := isRat_spec h
  unfold ratOf
  have e : mkRat (intOf (splitM l).1) (natOf (splitM l).2.1) = ⟨intOf (splitM l).1, natOf (splitM l).2.1, by omega, h4⟩ := by
    rw [Rat.mk_eq_normalize, mkRat, dif_neg (by omega)]
  rw [e]
  exact ⟨rfl, rfl⟩
theorem rT_ratOf {l : List UInt8} (h : isRat l = true) : rT (ratOf l) = l := by
  obtain ⟨h1, h2, h3, h4, h5⟩ := isRat_spec h
  obtain ⟨e1, e2⟩ := ratOf_spec h
  unfold rT
  rw [e1, e2, iD_intOf h1, dec_natOf h2]
  rcases splitM_inv l with ⟨g1, g2⟩ | ⟨g1, g2, g3⟩
  · rw [if_neg (h5.1 g1)]; exact g2.symm
  · rw [if_pos (by rw [g3]; rfl)]; exact g2.symm
theorem splitM_rT (x : Rat) : splitM (rT x) = (iD x.num, Lib.decDigits x.den, !decide (x.den = 1)) := by
  unfold rT
  by_cases h : x.den = 1
  · rw [if_pos h, splitM_no _ (iD_no47 _), h, Lib.decDigits]; rfl
  · rw [if_neg h, splitM_at _ _ (iD_no47 _)]; simp [h]
theorem isRat_rT (x : Rat) : isRat (rT x) = true := by
  unfold isRat
  rw [splitM_rT]
  dsimp only
  rw [isInt_iD, isNat_dec, natOf_dec, intOf_iD]
  have hd := x.den_nz
  have hr := x.reduced
  by_cases h : x.den = 1
  · simp [h]
  · have hn : x.num ≠ 0 := by
      intro h0
      rw [h0] at hr
      have : x.den = 1 := by simpa [Nat.Coprime] using hr
      exact h this
    simp [h, hn]
    exact ⟨by omega, hr⟩
theorem ratOf_rT (x : Rat) : ratOf (rT x) = x := by
  unfold ratOf
  rw [splitM_rT]
  dsimp only
  rw [natOf_dec, intOf_iD, Rat.mkRat_self]
def Sz (k : Nat) (x : Rat) : Prop := Lw x.num.natAbs ≤ k ∧ Lw x.den ≤ k
theorem Sz.mono {k m : Nat} {x : Rat} (h : Sz k x) (hm : k ≤ m) : Sz m x := ⟨by have := h.1; omega, by have := h.2; omega⟩
theorem Sz.norm {k : Nat} {p : Int} {d : Nat} (hd : d ≠ 0) (h1 : Lw p.natAbs ≤ k) (h2 : Lw d ≤ k) : Sz k (Rat.normalize p d hd) := by
  unfold Sz
  rw [Rat.num_normalize, Rat.den_normalize]
  have hg : p.natAbs.gcd d ≠ 0 := Nat.ne_of_gt (Nat.gcd_pos_of_pos_right _ (by omega))
  constructor
  · have : (p / (p.natAbs.gcd d : Nat)).natAbs ≤ p.natAbs := by
      have hdv : ((p.natAbs.gcd d : Nat) : Int) ∣ p := Int.ofNat_dvd_left.2 (Nat.gcd_dvd_left _ _)
      rw [Int.natAbs_ediv_of_dvd hdv]
      exact Nat.div_le_self _ _
    exact Nat.le_trans (Lw_mono this) h1
  · exact Nat.le_trans (Lw_mono (Nat.div_le_self _ _)) h2
theorem Sz.neg {k : Nat} {x : Rat} (h : Sz k x) : Sz k (-x) := by
  unfold Sz at *
  rw [Rat.neg_num, Rat.neg_den, Int.natAbs_neg]; exact h
theorem Lw_iadd (x y : Int) : Lw (x + y).natAbs ≤ max (Lw x.natAbs) (Lw y.natAbs) + 1 := by
  have h1 := Lw_mono (show (x + y).natAbs ≤ x.natAbs + y.natAbs by omega)
  have h2 := Lw_add x.natAbs y.natAbs
  omega
theorem Lw_imul (x y : Int) : Lw (x * y).natAbs ≤ Lw x.natAbs + Lw y.natAbs := by
  rw [Int.natAbs_mul]; exact Lw_mul _ _
theorem Sz.add {k : Nat} {x y : Rat} (hx : Sz k x) (hy : Sz k y) : Sz (2 * k + 1) (x + y) := by
  rw [Rat.add_def]
  have h1 := Lw_iadd (x.num * y.den) (y.num * x.den)
  have h2 := Lw_imul x.num y.den
  have h3 := Lw_imul y.num x.den
  have h4 := Lw_mul x.den y.den
  have := hx.1; have := hx.2; have := hy.1; have := hy.2
  rw [Int.natAbs_natCast] at h2 h3
  exact Sz.norm _ (by omega) (by omega)
theorem Sz.sub {k : Nat} {x y : Rat} (hx : Sz k x) (hy : Sz k y) : Sz (2 * k + 1) (x - y) := by
  rw [Rat.sub_eq_add_neg]; exact hx.add hy.neg
theorem Sz.mul {k : Nat} {x y : Rat} (hx : Sz k x) (hy : Sz k y) : Sz (2 * k) (x * y) := by
  rw [Rat.mul_def]
  have h2 := Lw_imul x.num y.num
  have h4 := Lw_mul x.den y.den
  have := hx.1; have := hx.2; have := hy.1; have := hy.2
  exact Sz.norm _ (by omega) (by omega)
theorem Sz.inv {k : Nat} {x : Rat} (hx : Sz k x) (hk : 1 ≤ k) : Sz k x⁻¹ := by
  unfold Sz at *
  rw [Rat.num_inv, Rat.den_inv]
  constructor
  · rw [Int.natAbs_mul, Int.natAbs_natCast]
    by_cases h : x.num = 0
    · rw [h]; simp [Lw_zero]
    · rw [Int.natAbs_sign_of_ne_zero h, Nat.one_mul]; exact hx.2
  · split
    · rw [Lw_one]; exact hk
    · exact hx.1
theorem Sz.div {k : Nat} {x y : Rat} (hx : Sz k x) (hy : Sz k y) (hk : 1 ≤ k) : Sz (2 * k) (x / y) := by
  rw [Rat.div_def]; exact hx.mul (hy.inv hk)
theorem Sz.int {k : Nat} {z : Int} (h : Lw z.natAbs ≤ k) (hk : 1 ≤ k) : Sz k (z : Rat) := by
  unfold Sz
  rw [Rat.num_intCast, Rat.den_intCast, Lw_one]
  exact ⟨h, hk⟩
theorem Sz.text {l : List UInt8} (h : isRat l = true) : Sz (l.length / 9 + 1) (ratOf l) := by
  obtain ⟨h1, h2, h3, h4, h5⟩ := isRat_spec h
  obtain ⟨e1, e2⟩ := ratOf_spec h
  obtain ⟨g1, g2⟩ := splitM_len l
  unfold Sz
  rw [e1, e2]
  constructor
  · have : (intOf (splitM l).1).natAbs < 10 ^ l.length := by
      generalize (splitM l).1 = p at *
      have hp : 10 ^ p.length ≤ 10 ^ l.length := Nat.pow_le_pow_right (by omega) g1
      cases p with
      | nil => simp [isInt] at h1
      | cons c r =>
        rw [isInt_cons] at h1
        rw [intOf_cons]
        by_cases hc : c = 45
        · rw [if_pos hc] at h1 ⊢
          simp only [Bool.and_eq_true] at h1
          have := natOf_lt r (isNat_iff.1 h1.1).2.1
          have := Nat.pow_le_pow_right (show 0 < 10 by omega) (show r.length ≤ (c :: r).length by simp)
          omega
        · rw [if_neg hc] at h1 ⊢
          have := natOf_lt (c :: r) (isNat_iff.1 h1).2.1
          omega
    refine Lw_le ?_
    rw [ten_pow]
    exact Nat.lt_of_lt_of_le this (Nat.pow_le_pow_right (by omega) (by omega))
  · have hq : natOf (splitM l).2.1 < 10 ^ (9 * (l.length / 9 + 1)) := by
      have h6 := natOf_lt _ (isNat_iff.1 h2).2.1
      rcases splitM_inv l with ⟨_, hl⟩ | ⟨_, _, hl⟩
      · have := congrArg List.length hl
        rw [List.length_append, List.length_cons] at this
        exact Nat.lt_of_lt_of_le h6 (Nat.pow_le_pow_right (by omega) (by omega))
      · rw [hl]
        show 1 < _
        exact Nat.lt_of_lt_of_le (show 1 < 10 ^ 1 by decide) (Nat.pow_le_pow_right (by omega) (by omega))
    refine Lw_le ?_
    rw [ten_pow]
    exact hq
theorem pc :
  (∀ l : List UInt8, strP l = .val (.string ⟨l.toArray⟩)) ∧ (∀ n : Nat, nP n = .sl (wl n).length ((wl n).map wv)) ∧ (∀ z : Int, iP z = .val (.int .i64 z)) ∧
  (∀ z : Int, zP z = .agg [.val (.bool (decide (z < 0))), .sl (wl z.natAbs).length ((wl z.natAbs).map wv)]) ∧
  (∀ z : Int, siP z = .val (.string ⟨(iD z).toArray⟩)) ∧ (∀ n : Nat, dP n = .val (.string ⟨(Lib.decDigits n).toArray⟩)) ∧
  (∀ x : Rat, rtP x = .val (.string ⟨(rT x).toArray⟩)) ∧
  (∀ x : Rat, qP x = .agg [.val (.bool (decide (x.num < 0))), .sl (wl x.num.natAbs).length ((wl x.num.natAbs).map wv), .sl (wl x.den).length ((wl x.den).map wv)]) :=
  ⟨fun _ => rfl, fun _ => rfl, fun _ => rfl, fun _ => rfl, fun _ => rfl, fun _ => rfl, fun _ => rfl, fun _ => rfl⟩
end Gb
namespace Go.Proofs.YtolehnkoocnenaaGreatDoor.S
open Go Go.Sx Go.RowKit Gb
variable {G : World → Prop} (hG : ∀ w w', G w → Below w.heap.size w w' → G w')
include hG
end Go.Proofs.YtolehnkoocnenaaGreatDoor.S
namespace Go.Proofs.YtolehnkoocnenaaGreatDoor.S
open Go Go.Sx Go.RowKit Gb
variable {G : World → Prop} (hG : ∀ w w', G w → Below w.heap.size w w' → G w')
include hG
end Go.Proofs.YtolehnkoocnenaaGreatDoor.S
namespace Go.Proofs.YtolehnkoocnenaaGreatDoor.S
open Go Go.Sx Go.RowKit Gb
variable {G : World → Prop} (hG : ∀ w w', G w → Below w.heap.size w w' → G w')
include hG
end Go.Proofs.YtolehnkoocnenaaGreatDoor.S
namespace Gb
open Go Go.RowKit Go.Sx
def frP (x : Rat) : PV := .agg [siP x.num, dP x.den]
theorem pd : ∀ x : Rat, frP x = .agg [.val (.string ⟨(iD x.num).toArray⟩), .val (.string ⟨(Lib.decDigits x.den).toArray⟩)] := fun _ => rfl
theorem iD_nat (n : Nat) : iD (n : Int) = Lib.decDigits n := by unfold iD; rw [if_neg (by omega), Int.natAbs_natCast]
theorem siP_nat (n : Nat) : siP (n : Int) = dP n := by unfold siP dP; rw [iD_nat]
theorem dec_0 : Lib.decDigits 0 = [48] := by rw [Lib.decDigits]; rfl
theorem dec_1 : Lib.decDigits 1 = [49] := by rw [Lib.decDigits]; rfl
theorem dec_eq0 (n : Nat) : (Lib.decDigits n == [48]) = decide (n = 0) := by
  by_cases h : n = 0
  · rw [h, dec_0]; rfl
  · have : Lib.decDigits n ≠ [48] := dec_pos_ne h
    simp [this, h]
theorem dec_eq1 (n : Nat) : (Lib.decDigits n == [49]) = decide (n = 1) := by
  by_cases h : n = 1
  · rw [h, dec_1]; rfl
  · have : Lib.decDigits n ≠ [49] := by
      intro h0
      have := natOf_dec n
      rw [h0] at this
      exact h this.symm
    simp [this, h]
theorem iD_eq0 (z : Int) : (iD z == [48]) = decide (z = 0) := by
  unfold iD
  by_cases h : z < 0
  · rw [if_pos h]
    have h1 : ¬ z = 0 := by omega
    have h2 : (45 : UInt8) ≠ 48 := by decide
    simp [h1]
  · rw [if_neg h, dec_eq0]
    congr 1
    simp
theorem idx_splitM : ∀ l, (Lib.indexByte l 47 = -1 ∧ splitM l = (l, [49], false)) ∨ ∃ n : Nat, n < l.length ∧ Lib.indexByte l 47 = n ∧ splitM l = (l.take n, l.drop (n + 1), true)
  | [] => .inl ⟨rfl, rfl⟩
  | c :: r => by
    rw [splitM_cons, Lib.indexByte]
    by_cases h : c = 47
    · subst h
      exact .inr ⟨0, by simp, rfl, rfl⟩
    · rw [if_neg h, if_neg (by simpa using h)]
      rcases idx_splitM r with ⟨h1, h2⟩ | ⟨n, h0, h1, h2⟩
      · exact .inl ⟨by rw [h1]; rfl, by rw [h2]⟩
      · refine .inr ⟨n + 1, by simp; omega, ?_, ?_⟩
        · rw [h1, if_neg (by rw [beq_iff_eq]; omega)]; omega
        · rw [h2]; rfl
def cutW (l : List UInt8) : List UInt8 × List UInt8 × Bool := if (splitM l).2.2 then splitM l else (l, [], false)
theorem parseM64 (l : List UInt8) : ∀ (acc : Nat), (∀ c ∈ l, isD c = true) → acc * 10 ^ l.length + natOf l < 18446744073709551616 → Lib.parseUintM 18446744073709551615 acc l = .ok (acc * 10 ^ l.length + natOf l) := by
  induction l with
  | nil => intro acc _ _; simp [Lib.parseUintM, natOf]
  | cons c r ih =>
    intro acc hd h
    have hc := isD_iff.1 (hd c (List.mem_cons_self ..))
    have e : natOf (c :: r) = (c.toNat - 48) * 10 ^ r.length + natOf r := by
      rw [show c :: r = [c] ++ r from rfl, natOf_append]
      congr 2
      simp [natOf]
    have hp : 0 < 10 ^ r.length := Nat.pow_pos (by omega)
    have e2 : acc * 10 ^ (r.length + 1) + ((c.toNat - 48) * 10 ^ r.length + natOf r) = (acc * 10 + (c.toNat - 48)) * 10 ^ r.length + natOf r := by
      rw [Nat.pow_succ]; grind
    rw [e, List.length_cons, e2] at h ⊢
    have hb : acc * 10 + (c.toNat - 48) < 18446744073709551616 := by
      have : (acc * 10 + (c.toNat - 48)) * 1 ≤ (acc * 10 + (c.toNat - 48)) * 10 ^ r.length := Nat.mul_le_mul_left _ hp
      omega
    rw [Lib.parseUintM, if_pos ⟨hc.1, hc.2⟩, if_neg (by omega), if_neg (by omega)]
    exact ih _ (fun x hx => hd x (List.mem_cons_of_mem _ hx)) h
theorem parse64 (n : Nat) (h : n < 1000000000) : Lib.parseUintB 64 (Lib.decDigits n) = .ok n := by
  have hd := (isNat_iff.1 (isNat_dec n))
  have h0 : Lib.decDigits n ≠ [] := by intro h0; have := isNat_dec n; rw [h0] at this; simp [isNat] at this
  have := parseM64 (Lib.decDigits n) 0 hd.2.1 (by rw [natOf_dec]; omega)
  rw [Nat.zero_mul, Nat.zero_add, natOf_dec] at this
  rw [Lib.parseUintB, if_neg h0]
  exact this
theorem parseI (z : Int) (h1 : -1000000000 < z) (h2 : z < 1000000000) : Lib.parseIntB 64 (iD z) = .ok z := by
  unfold iD
  by_cases h : z < 0
  · rw [if_pos h]
    simp only [Lib.parseIntB]
    rw [if_pos (.inr rfl), parse64 _ (by omega)]
    simp
    rw [if_neg (by omega)]
    congr 1
    omega
  · rw [if_neg h]
    have hn := parse64 z.natAbs (by omega)
    have hd := (isNat_iff.1 (isNat_dec z.natAbs)).2.1
    cases hl : Lib.decDigits z.natAbs with
    | nil => rw [hl] at hn; simp [Lib.parseUintB] at hn
    | cons c r =>
      rw [hl] at hn hd
      have hc := isD_iff.1 (hd c (List.mem_cons_self ..))
      simp only [Lib.parseIntB]
      rw [if_neg (by omega), hn]
      have : ¬ c.toNat = 45 := by omega
      simp [this]
      rw [if_neg (by omega)]
      congr 1
      omega
theorem dec_short {n : Nat} (h : (Lib.decDigits n).length ≤ 9) : n < 1000000000 := by
  have := natOf_lt _ (isNat_iff.1 (isNat_dec n)).2.1
  rw [natOf_dec] at this
  have h2 := Nat.pow_le_pow_right (show 0 < 10 by omega) h
  omega
theorem iD_short {z : Int} (h : (iD z).length ≤ 9) : -1000000000 < z ∧ z < 1000000000 := by
  have : (Lib.decDigits z.natAbs).length ≤ 9 := by
    unfold iD at h
    split at h
    · simp at h; omega
    · exact h
  have := dec_short this
  omega
theorem itoa_iD (z : Int) : Lib.itoa z = iD z := by
  unfold Lib.itoa iD
  by_cases h : z < 0
  · rw [if_pos h, if_pos h]
  · rw [if_neg h, if_neg h]
    congr 1
    omega
def shortQ (x : Rat) : Bool := decide ((iD x.num).length ≤ 9) && decide ((Lib.decDigits x.den).length ≤ 9)
theorem shortQ_spec {x : Rat} (h : shortQ x = true) : -1000000000 < x.num ∧ x.num < 1000000000 ∧ x.den < 1000000000 := by
  unfold shortQ at h
  simp only [Bool.and_eq_true, decide_eq_true_eq] at h
  have := iD_short h.1
  have := dec_short h.2
  omega
theorem tmod_natAbs (a b : Int) : (a.tmod b).natAbs = a.natAbs % b.natAbs := Int.natAbs_tmod a b
theorem tdiv_dvd {p : Int} {g : Nat} (h : g ∣ p.natAbs) : p.tdiv g = p / g := by
  have : (g : Int) ∣ p := Int.ofNat_dvd_left.2 h
  exact Int.tdiv_eq_ediv_of_dvd this
end Gb
namespace Gb
open Go Go.RowKit Go.Sx
theorem rT_len {k : Nat} {x : Rat} (h : Sz k x) : (rT x).length ≤ 18 * k + 5 := by
  have l1 := iD_len x.num
  have l2 := dec_len x.den
  have := h.1; have := h.2
  unfold rT
  split
  · omega
  · simp; omega
theorem rT_of {l : List UInt8} (h : isRat l = true) : ∃ x, l = rT x ∧ Sz (l.length / 9 + 1) x := ⟨ratOf l, (rT_ratOf h).symm, Sz.text h⟩
def ivP (a b : List UInt8) : PV := .agg [strP a, strP b]
def ivQ (p : Rat × Rat) : PV := .agg [rtP p.1, rtP p.2]
theorem pi : (∀ a b : List UInt8, ivP a b = .agg [.val (.string ⟨a.toArray⟩), .val (.string ⟨b.toArray⟩)]) ∧
  (∀ p : Rat × Rat, ivQ p = .agg [.val (.string ⟨(rT p.1).toArray⟩), .val (.string ⟨(rT p.2).toArray⟩)]) := ⟨fun _ _ => rfl, fun _ => rfl⟩
def isIv (a b : List UInt8) : Bool := isRat a && isRat b && decide (ratOf a ≤ ratOf b)
theorem lt_sign (x y : Rat) : (x - y).num.sign < 0 ↔ x < y := by
  rw [sub_sign_num, Rat.lt_iff]
  generalize x.num * (y.den : Int) = a
  generalize y.num * (x.den : Int) = b
  rcases Int.lt_trichotomy (a - b) 0 with h | h | h
  · rw [Int.sign_eq_neg_one_of_neg h]; omega
  · rw [h]; simp; omega
  · rw [Int.sign_eq_one_of_pos h]; omega
theorem le_sign (x y : Rat) : (x - y).num.sign ≤ 0 ↔ x ≤ y := by
  rw [sub_sign_num, Rat.le_iff]
  generalize x.num * (y.den : Int) = a
  generalize y.num * (x.den : Int) = b
  rcases Int.lt_trichotomy (a - b) 0 with h | h | h
  · rw [Int.sign_eq_neg_one_of_neg h]; omega
  · rw [h]; simp; omega
  · rw [Int.sign_eq_one_of_pos h]; omega
def endsQ (p : Rat × Rat) (l : List Rat) : Rat × Rat := l.foldl (fun p a => (if a < p.1 then a else p.1, if p.2 < a then a else p.2)) p
theorem endsQ_snoc (p : Rat × Rat) (l : List Rat) (a : Rat) : endsQ p (l ++ [a]) = (if a < (endsQ p l).1 then a else (endsQ p l).1, if (endsQ p l).2 < a then a else (endsQ p l).2) := by
  unfold endsQ
  rw [List.foldl_append]
  rfl
theorem endsQ_sz {k : Nat} : ∀ (l : List Rat) (p : Rat × Rat), Sz k p.1 → Sz k p.2 → (∀ x ∈ l, Sz k x) → Sz k (endsQ p l).1 ∧ Sz k (endsQ p l).2
  | [], p, h1, h2, _ => ⟨h1, h2⟩
  | a :: l, p, h1, h2, h3 => by
    have ha := h3 a (List.mem_cons_self ..)
    exact endsQ_sz l _ (by dsimp only; split <;> assumption) (by dsimp only; split <;> assumption) fun x hx => h3 x (List.mem_cons_of_mem _ hx)
theorem take_snoc {l : List Rat} {i : Nat} (h : i < l.length) : l.take (i + 1) = l.take i ++ [l.getD i 0] := by
  rw [List.take_add_one, List.getD_eq_getElem?_getD, List.getElem?_eq_getElem h]; rfl
theorem loadQ (P : Program) (G : World → Prop) (h0 h : Hp) (d : Option Nat) (k : SV → Hp → Prop) (l : List Rat) (i : Nat) : resK P G h0 d (loadK h (Option.map rtP l[i]?)) k = (i < l.length ∧ k (.p (rtP (l.getD i 0))) h) := by
  by_cases hc : i < l.length <;> simp [hc, resK, loadK, List.getD]
end Gb
namespace Go.Proofs
open Go.Shelf
def Tryz.lays169_ren : Go.Shelf.Ren := ⟨fun | 169 => 199 | n => n, fun | 70 => 194 | 9 => 9 | 0 => 0 | 72 => 196 | 37 => 158 | 127 => 220 | 3 => 3 | 5 => 5 | n => n, fun | n => n⟩
theorem Tryz.lays169 : Go.Proofs.Lays.n169 Tryz.prog Tryz.lays169_ren := {
  mixed := by kernel_rfl
  f169 := Tryz.func199.trans (congrArg some (by kernel_rfl))
  t0 := Tryz.underlying0
  a0 := Tryz.isAgg0
  z0 := Tryz.sizeOf0
  v0 := Tryz.zeroValue0
  t3 := Tryz.underlying3
  a3 := Tryz.isAgg3
  z3 := Tryz.sizeOf3
  v3 := Tryz.zeroValue3
  t9 := Tryz.underlying9
  a9 := Tryz.isAgg9
  z9 := Tryz.sizeOf9
  v9 := Tryz.zeroValue9
  t37 := Tryz.underlying158
  a37 := Tryz.isAgg158
  z37 := Tryz.sizeOf158
  v37 := Tryz.zeroValue158
  t70 := Tryz.underlying194
  a70 := Tryz.isAgg194
  z70 := Tryz.sizeOf194
  v70 := Tryz.zeroValue194
  t72 := Tryz.underlying196
  a72 := Tryz.isAgg196
  z72 := Tryz.sizeOf196
  v72 := Tryz.zeroValue196
  t127 := Tryz.underlying220
  a127 := Tryz.isAgg220
  z127 := Tryz.sizeOf220
  v127 := Tryz.zeroValue220 }
theorem Tryz.Builder_Extra_169 : Builder.Extra Tryz.prog Tryz.lays169_ren := {
  sizeBuilder := by kernel_rfl
  liesBuilder := by kernel_rfl
  t5 := Tryz.underlying5
  a5 := Tryz.isAgg5
  z5 := Tryz.sizeOf5
  v5 := Tryz.zeroValue5
  infoByte := by kernel_rfl
  cellsByte := by kernel_rfl
  sizeByte := by kernel_rfl
  neB5 := by decide }
open Go.RowKit in
theorem Tryz.Builder_String_any_k (B b : Nat) (l : List UInt8) (w : World) (h : Lib.IsBuilderF 196 5 B b (Lib.byteCells l) w) (hBw : B ≤ w.heap.size) :
    Calls Tryz.prog 199 #[.pointer (some ⟨b, 0, none⟩)] w fun e w' => e = .returned (.string ⟨l.toArray⟩) ∧ (Lib.IsBuilderF 196 5 B b (Lib.byteCells l) w' ∧ Below B w w' ∧ Lib.OthersKept 5 (some b) w w') := Any.Builder_String_any_k Tryz.lays169 Tryz.Builder_Extra_169 B b l w h hBw
def Tryz.lays283_ren : Go.Shelf.Ren := ⟨fun | 283 => 224 | n => n, fun | 3 => 3 | 9 => 9 | 4 => 4 | n => n, fun | n => n⟩
theorem Tryz.lays283 : Go.Proofs.Lays.n283 Tryz.prog Tryz.lays283_ren := {
  mixed := by kernel_rfl
  f283 := Tryz.func224.trans (congrArg some (by kernel_rfl))
  t3 := Tryz.underlying3
  a3 := Tryz.isAgg3
  z3 := Tryz.sizeOf3
  v3 := Tryz.zeroValue3
  t4 := Tryz.underlying4
  a4 := Tryz.isAgg4
  z4 := Tryz.sizeOf4
  v4 := Tryz.zeroValue4
  t9 := Tryz.underlying9
  a9 := Tryz.isAgg9
  z9 := Tryz.sizeOf9
  v9 := Tryz.zeroValue9 }
open Go.Lib in
theorem Tryz.internal_strconv_small (i : Nat) (h : i < 100) (w : World) :
    Calls Tryz.prog 224 #[.int .i64 i] w fun e w' => e = .returned (.string ⟨(Lib.decDigits i).toArray⟩) ∧ w' = w := Any.internal_strconv_small Tryz.lays283 i h w
def Tryz.laysM284_ren : Go.Shelf.Ren := ⟨fun | 284 => 225 | 129 => 239 | 317 => 238 | 318 => 240 | n => n, fun | 53 => 144 | 3 => 3 | 212 => 239 | 0 => 0 | 4 => 4 | 46 => 183 | 5 => 5 | 9 => 9 | n => n, fun | 17 => 1 | n => n⟩
theorem Tryz.laysM284 : Go.Proofs.LaysM.n284 Tryz.prog Tryz.laysM284_ren := {
  mixed := by kernel_rfl
  f129 := Tryz.func239.trans (congrArg some (by kernel_rfl))
  f284 := Tryz.func225.trans (congrArg some (by kernel_rfl))
  f317 := Tryz.func238.trans (congrArg some (by kernel_rfl))
  f318 := Tryz.func240.trans (congrArg some (by kernel_rfl))
  t0 := Tryz.underlying0
  a0 := Tryz.isAgg0
  z0 := Tryz.sizeOf0
  v0 := Tryz.zeroValue0
  t3 := Tryz.underlying3
  a3 := Tryz.isAgg3
  z3 := Tryz.sizeOf3
  v3 := Tryz.zeroValue3
  t4 := Tryz.underlying4
  a4 := Tryz.isAgg4
  z4 := Tryz.sizeOf4
  v4 := Tryz.zeroValue4
  t5 := Tryz.underlying5
  a5 := Tryz.isAgg5
  z5 := Tryz.sizeOf5
  v5 := Tryz.zeroValue5
  t9 := Tryz.underlying9
  a9 := Tryz.isAgg9
  z9 := Tryz.sizeOf9
  v9 := Tryz.zeroValue9
  t46 := Tryz.underlying183
  a46 := Tryz.isAgg183
  z46 := Tryz.sizeOf183
  v46 := Tryz.zeroValue183
  t53 := Tryz.underlying144
  a53 := Tryz.isAgg144
  z53 := Tryz.sizeOf144
  v53 := Tryz.zeroValue144
  t212 := Tryz.underlying239
  a212 := Tryz.isAgg239
  z212 := Tryz.sizeOf239
  v212 := Tryz.zeroValue239
  g17 := by kernel_rfl
  i0 := by kernel_rfl
  i3 := by kernel_rfl
  i4 := by kernel_rfl
  i5 := by kernel_rfl
  i9 := by kernel_rfl
  i46 := by kernel_rfl
  i53 := by kernel_rfl
  i212 := by kernel_rfl
  m17 := by kernel_rfl }
open Go.Lib in
theorem Tryz.internal_strconv_numDigits (u : Nat) (h1 : 1 ≤ u) (h2 : u < 18446744073709551616) (w : World) (htab : Lib.TabIs Tryz.prog w "internal/strconv.uint64pow10" .u64 Lib.pow10Tab) :
    Calls Tryz.prog 225 #[.int .u64 u] w fun e w' => e = .returned (.int .i64 (Lib.nDigits u)) ∧ w' = w := Any.internal_strconv_numDigits Tryz.laysM284 u h1 h2 w htab
def Tryz.lays285_ren : Go.Shelf.Ren := ⟨fun | 285 => 226 | n => n, fun | 37 => 158 | 53 => 144 | 3 => 3 | 4 => 4 | 51 => 109 | 9 => 9 | 5 => 5 | 0 => 0 | n => n, fun | n => n⟩
theorem Tryz.lays285 : Go.Proofs.Lays.n285 Tryz.prog Tryz.lays285_ren := {
  mixed := by kernel_rfl
  f285 := Tryz.func226.trans (congrArg some (by kernel_rfl))
  t0 := Tryz.underlying0
  a0 := Tryz.isAgg0
  z0 := Tryz.sizeOf0
  v0 := Tryz.zeroValue0
  t3 := Tryz.underlying3
  a3 := Tryz.isAgg3
  z3 := Tryz.sizeOf3
  v3 := Tryz.zeroValue3
  t4 := Tryz.underlying4
  a4 := Tryz.isAgg4
  z4 := Tryz.sizeOf4
  v4 := Tryz.zeroValue4
  t5 := Tryz.underlying5
  a5 := Tryz.isAgg5
  z5 := Tryz.sizeOf5
  v5 := Tryz.zeroValue5
  t9 := Tryz.underlying9
  a9 := Tryz.isAgg9
  z9 := Tryz.sizeOf9
  v9 := Tryz.zeroValue9
  t37 := Tryz.underlying158
  a37 := Tryz.isAgg158
  z37 := Tryz.sizeOf158
  v37 := Tryz.zeroValue158
  t51 := Tryz.underlying109
  a51 := Tryz.isAgg109
  z51 := Tryz.sizeOf109
  v51 := Tryz.zeroValue109
  t53 := Tryz.underlying144
  a53 := Tryz.isAgg144
  z53 := Tryz.sizeOf144
  v53 := Tryz.zeroValue144 }
open Go.RowKit Go.Sort Go.Lib in
theorem Tryz.internal_strconv_formatBase10 (blk off cap : Nat) (u : Nat) (d : Array UInt8) (w : World) (hH : Holds (fun (b : UInt8) => Value.int .u8 (b.toNat : Int)) w blk off d) (hu : u < 10 ^ d.size) (hu64 : u < 18446744073709551616) (hsz : d.size < 4611686018427387904) :
    Calls Tryz.prog 226 #[.slice (some ⟨blk, off, none⟩) d.size cap, .int .u64 u] w fun e w' =>
      e = .returned (.tuple #[]) ∧ ∃ (n v' : Nat) (dk : Array UInt8), w' = (putRow (fun (b : UInt8) => Value.int .u8 (b.toNat : Int)) w blk off dk).drewN n ∧ FmtInv d.size u 0 v' dk := Any.internal_strconv_formatBase10 Tryz.lays285 blk off cap u d w hH hu hu64 hsz
def Tryz.laysM171_ren : Go.Shelf.Ren := ⟨fun | 171 => 170 | 243 => 185 | 246 => 207 | 283 => 224 | 284 => 225 | 285 => 226 | 286 => 227 | 129 => 239 | 317 => 238 | 318 => 240 | 319 => 241 | 320 => 242 | 337 => 246 | 338 => 247 | n => n, fun | 3 => 3 | 9 => 9 | 2 => 2 | 4 => 4 | 171 => 224 | 0 => 0 | 53 => 144 | 37 => 158 | 5 => 5 | 173 => 227 | 212 => 239 | 51 => 109 | 20 => 20 | 213 => 240 | 46 => 183 | 232 => 251 | 233 => 252 | n => n, fun | 17 => 1 | 18 => 4 | 19 => 5 | n => n⟩
theorem Tryz.laysM171 : Go.Proofs.LaysM.n171 Tryz.prog Tryz.laysM171_ren := {
  mixed := by kernel_rfl
  f129 := Tryz.func239.trans (congrArg some (by kernel_rfl))
  f171 := Tryz.func170.trans (congrArg some (by kernel_rfl))
  f243 := Tryz.func185.trans (congrArg some (by kernel_rfl))
  f246 := Tryz.func207.trans (congrArg some (by kernel_rfl))
  f283 := Tryz.func224.trans (congrArg some (by kernel_rfl))
  f284 := Tryz.func225.trans (congrArg some (by kernel_rfl))
  f285 := Tryz.func226.trans (congrArg some (by kernel_rfl))
  f286 := Tryz.func227.trans (congrArg some (by kernel_rfl))
  f317 := Tryz.func238.trans (congrArg some (by kernel_rfl))
  f318 := Tryz.func240.trans (congrArg some (by kernel_rfl))
  f319 := Tryz.func241.trans (congrArg some (by kernel_rfl))
  f320 := Tryz.func242.trans (congrArg some (by kernel_rfl))
  f337 := Tryz.func246.trans (congrArg some (by kernel_rfl))
  f338 := Tryz.func247.trans (congrArg some (by kernel_rfl))
  t0 := Tryz.underlying0
  a0 := Tryz.isAgg0
  z0 := Tryz.sizeOf0
  v0 := Tryz.zeroValue0
  t2 := Tryz.underlying2
  a2 := Tryz.isAgg2
  z2 := Tryz.sizeOf2
  v2 := Tryz.zeroValue2
  t3 := Tryz.underlying3
  a3 := Tryz.isAgg3
  z3 := Tryz.sizeOf3
  v3 := Tryz.zeroValue3
  t4 := Tryz.underlying4
  a4 := Tryz.isAgg4
  z4 := Tryz.sizeOf4
  v4 := Tryz.zeroValue4
  t5 := Tryz.underlying5
  a5 := Tryz.isAgg5
  z5 := Tryz.sizeOf5
  v5 := Tryz.zeroValue5
  t9 := Tryz.underlying9
  a9 := Tryz.isAgg9
  z9 := Tryz.sizeOf9
  v9 := Tryz.zeroValue9
  t20 := Tryz.underlying20
  a20 := Tryz.isAgg20
  z20 := Tryz.sizeOf20
  v20 := Tryz.zeroValue20
  t37 := Tryz.underlying158
  a37 := Tryz.isAgg158
  z37 := Tryz.sizeOf158
  v37 := Tryz.zeroValue158
  t46 := Tryz.underlying183
  a46 := Tryz.isAgg183
  z46 := Tryz.sizeOf183
  v46 := Tryz.zeroValue183
  t51 := Tryz.underlying109
  a51 := Tryz.isAgg109
  z51 := Tryz.sizeOf109
  v51 := Tryz.zeroValue109
  t53 := Tryz.underlying144
  a53 := Tryz.isAgg144
  z53 := Tryz.sizeOf144
  v53 := Tryz.zeroValue144
  t171 := Tryz.underlying224
  a171 := Tryz.isAgg224
  z171 := Tryz.sizeOf224
  v171 := Tryz.zeroValue224
  t173 := Tryz.underlying227
  a173 := Tryz.isAgg227
  z173 := Tryz.sizeOf227
  v173 := Tryz.zeroValue227
  t212 := Tryz.underlying239
  a212 := Tryz.isAgg239
  z212 := Tryz.sizeOf239
  v212 := Tryz.zeroValue239
  t213 := Tryz.underlying240
  a213 := Tryz.isAgg240
  z213 := Tryz.sizeOf240
  t232 := Tryz.underlying251
  a232 := Tryz.isAgg251
  z232 := Tryz.sizeOf251
  v232 := Tryz.zeroValue251
  t233 := Tryz.underlying252
  a233 := Tryz.isAgg252
  z233 := Tryz.sizeOf252
  v233 := Tryz.zeroValue252
  g17 := by kernel_rfl
  g18 := by kernel_rfl
  g19 := by kernel_rfl
  i0 := by kernel_rfl
  i2 := by kernel_rfl
  i3 := by kernel_rfl
  i4 := by kernel_rfl
  i5 := by kernel_rfl
  i9 := by kernel_rfl
  i20 := by kernel_rfl
  i37 := by kernel_rfl
  i46 := by kernel_rfl
  i51 := by kernel_rfl
  i53 := by kernel_rfl
  i171 := by kernel_rfl
  i173 := by kernel_rfl
  i212 := by kernel_rfl
  i232 := by kernel_rfl
  i233 := by kernel_rfl
  m17 := by kernel_rfl
  m18 := by kernel_rfl
  m19 := by kernel_rfl }
open Go.RowKit Go.Sort Go.Lib in
theorem Tryz.strconv_Itoa (n : Int) (h0 : -9223372036854775808 ≤ n) (h1 : n ≤ 9223372036854775807) (w : World) (htab : Lib.TabIs Tryz.prog w "internal/strconv.uint64pow10" .u64 Lib.pow10Tab) :
    Calls Tryz.prog 170 #[.int .i64 n] w fun e w' => e = .returned (.string ⟨(Lib.itoa n).toArray⟩) ∧ ∃ k os, w' = grow (w.drewN k) os := Any.strconv_Itoa Tryz.laysM171 n h0 h1 w htab
def Tryz.laysM173_ren : Go.Shelf.Ren := ⟨fun | 173 => 204 | 246 => 207 | 283 => 224 | 284 => 225 | 285 => 226 | 286 => 227 | 129 => 239 | 317 => 238 | 318 => 240 | 319 => 241 | 320 => 242 | 337 => 246 | 338 => 247 | n => n, fun | 2 => 2 | 3 => 3 | 9 => 9 | 4 => 4 | 171 => 224 | 0 => 0 | 53 => 144 | 37 => 158 | 5 => 5 | 173 => 227 | 212 => 239 | 51 => 109 | 20 => 20 | 213 => 240 | 46 => 183 | 232 => 251 | 233 => 252 | n => n, fun | 17 => 1 | 18 => 4 | 19 => 5 | n => n⟩
theorem Tryz.laysM173 : Go.Proofs.LaysM.n173 Tryz.prog Tryz.laysM173_ren := {
  mixed := by kernel_rfl
  f129 := Tryz.func239.trans (congrArg some (by kernel_rfl))
  f173 := Tryz.func204.trans (congrArg some (by kernel_rfl))
  f246 := Tryz.func207.trans (congrArg some (by kernel_rfl))
  f283 := Tryz.func224.trans (congrArg some (by kernel_rfl))
  f284 := Tryz.func225.trans (congrArg some (by kernel_rfl))
  f285 := Tryz.func226.trans (congrArg some (by kernel_rfl))
  f286 := Tryz.func227.trans (congrArg some (by kernel_rfl))
  f317 := Tryz.func238.trans (congrArg some (by kernel_rfl))
  f318 := Tryz.func240.trans (congrArg some (by kernel_rfl))
  f319 := Tryz.func241.trans (congrArg some (by kernel_rfl))
  f320 := Tryz.func242.trans (congrArg some (by kernel_rfl))
  f337 := Tryz.func246.trans (congrArg some (by kernel_rfl))
  f338 := Tryz.func247.trans (congrArg some (by kernel_rfl))
  t0 := Tryz.underlying0
  a0 := Tryz.isAgg0
  z0 := Tryz.sizeOf0
  v0 := Tryz.zeroValue0
  t2 := Tryz.underlying2
  a2 := Tryz.isAgg2
  z2 := Tryz.sizeOf2
  v2 := Tryz.zeroValue2
  t3 := Tryz.underlying3
  a3 := Tryz.isAgg3
  z3 := Tryz.sizeOf3
  v3 := Tryz.zeroValue3
  t4 := Tryz.underlying4
  a4 := Tryz.isAgg4
  z4 := Tryz.sizeOf4
  v4 := Tryz.zeroValue4
  t5 := Tryz.underlying5
  a5 := Tryz.isAgg5
  z5 := Tryz.sizeOf5
  v5 := Tryz.zeroValue5
  t9 := Tryz.underlying9
  a9 := Tryz.isAgg9
  z9 := Tryz.sizeOf9
  v9 := Tryz.zeroValue9
  t20 := Tryz.underlying20
  a20 := Tryz.isAgg20
  z20 := Tryz.sizeOf20
  v20 := Tryz.zeroValue20
  t37 := Tryz.underlying158
  a37 := Tryz.isAgg158
  z37 := Tryz.sizeOf158
  v37 := Tryz.zeroValue158
  t46 := Tryz.underlying183
  a46 := Tryz.isAgg183
  z46 := Tryz.sizeOf183
  v46 := Tryz.zeroValue183
  t51 := Tryz.underlying109
  a51 := Tryz.isAgg109
  z51 := Tryz.sizeOf109
  v51 := Tryz.zeroValue109
  t53 := Tryz.underlying144
  a53 := Tryz.isAgg144
  z53 := Tryz.sizeOf144
  v53 := Tryz.zeroValue144
  t171 := Tryz.underlying224
  a171 := Tryz.isAgg224
  z171 := Tryz.sizeOf224
  v171 := Tryz.zeroValue224
  t173 := Tryz.underlying227
  a173 := Tryz.isAgg227
  z173 := Tryz.sizeOf227
  v173 := Tryz.zeroValue227
  t212 := Tryz.underlying239
  a212 := Tryz.isAgg239
  z212 := Tryz.sizeOf239
  v212 := Tryz.zeroValue239
  t213 := Tryz.underlying240
  a213 := Tryz.isAgg240
  z213 := Tryz.sizeOf240
  t232 := Tryz.underlying251
  a232 := Tryz.isAgg251
  z232 := Tryz.sizeOf251
  v232 := Tryz.zeroValue251
  t233 := Tryz.underlying252
  a233 := Tryz.isAgg252
  z233 := Tryz.sizeOf252
  v233 := Tryz.zeroValue252
  g17 := by kernel_rfl
  g18 := by kernel_rfl
  g19 := by kernel_rfl
  i0 := by kernel_rfl
  i2 := by kernel_rfl
  i3 := by kernel_rfl
  i4 := by kernel_rfl
  i5 := by kernel_rfl
  i9 := by kernel_rfl
  i20 := by kernel_rfl
  i37 := by kernel_rfl
  i46 := by kernel_rfl
  i51 := by kernel_rfl
  i53 := by kernel_rfl
  i171 := by kernel_rfl
  i173 := by kernel_rfl
  i212 := by kernel_rfl
  i232 := by kernel_rfl
  i233 := by kernel_rfl
  m17 := by kernel_rfl
  m18 := by kernel_rfl
  m19 := by kernel_rfl }
open Go.RowKit Go.Sort Go.Lib in
theorem Tryz.strconv_FormatInt_10 (n : Int) (h0 : -9223372036854775808 ≤ n) (h1 : n ≤ 9223372036854775807) (w : World) (htab : Lib.TabIs Tryz.prog w "internal/strconv.uint64pow10" .u64 Lib.pow10Tab) :
    Calls Tryz.prog 204 #[.int .i64 n, .int .i64 10] w fun e w' => e = .returned (.string ⟨(Lib.itoa n).toArray⟩) ∧ ∃ k os, w' = grow (w.drewN k) os := Any.strconv_FormatInt_10 Tryz.laysM173 n h0 h1 w htab
def Tryz.laysC174_ren : Go.Shelf.Ren := ⟨fun | 174 => 203 | 247 => 222 | 245 => 212 | 287 => 211 | 279 => 230 | 280 => 231 | 281 => 232 | 282 => 233 | 321 => 228 | 322 => 229 | 316 => 243 | 171 => 170 | 205 => 244 | 243 => 185 | 246 => 207 | 283 => 224 | 284 => 225 | 285 => 226 | 286 => 227 | 129 => 239 | 317 => 238 | 318 => 240 | 319 => 241 | 320 => 242 | 337 => 246 | 338 => 247 | n => n, fun | 9 => 9 | 3 => 3 | 2 => 2 | 75 => 191 | 85 => 207 | 4 => 4 | 167 => 229 | 5 => 5 | 53 => 144 | 175 => 192 | 46 => 183 | 168 => 231 | 37 => 158 | 0 => 0 | 210 => 244 | 21 => 21 | 127 => 220 | 145 => 250 | 143 => 248 | 171 => 224 | 173 => 227 | 212 => 239 | 51 => 109 | 20 => 20 | 213 => 240 | 232 => 251 | 233 => 252 | 80 => 122 | n => n, fun | 15 => 2 | 16 => 3 | 17 => 1 | 18 => 4 | 19 => 5 | n => n⟩
theorem Tryz.laysC174 : Go.Proofs.LaysC.n174 Tryz.prog Tryz.laysC174_ren := {
  mixed := by kernel_rfl
  f129 := Tryz.func239.trans (congrArg some (by kernel_rfl))
  f171 := Tryz.func170.trans (congrArg some (by kernel_rfl))
  f174 := Tryz.func203.trans (congrArg some (by kernel_rfl))
  f205 := Tryz.func244.trans (congrArg some (by kernel_rfl))
  f243 := Tryz.func185.trans (congrArg some (by kernel_rfl))
  f245 := Tryz.func212.trans (congrArg some (by kernel_rfl))
  f246 := Tryz.func207.trans (congrArg some (by kernel_rfl))
  f247 := Tryz.func222.trans (congrArg some (by kernel_rfl))
  f279 := Tryz.func230.trans (congrArg some (by kernel_rfl))
  f280 := Tryz.func231.trans (congrArg some (by kernel_rfl))
  f281 := Tryz.func232.trans (congrArg some (by kernel_rfl))
  f282 := Tryz.func233.trans (congrArg some (by kernel_rfl))
  f283 := Tryz.func224.trans (congrArg some (by kernel_rfl))
  f284 := Tryz.func225.trans (congrArg some (by kernel_rfl))
  f285 := Tryz.func226.trans (congrArg some (by kernel_rfl))
  f286 := Tryz.func227.trans (congrArg some (by kernel_rfl))
  f287 := Tryz.func211.trans (congrArg some (by kernel_rfl))
  f316 := Tryz.func243.trans (congrArg some (by kernel_rfl))
  f317 := Tryz.func238.trans (congrArg some (by kernel_rfl))
  f318 := Tryz.func240.trans (congrArg some (by kernel_rfl))
  f319 := Tryz.func241.trans (congrArg some (by kernel_rfl))
  f320 := Tryz.func242.trans (congrArg some (by kernel_rfl))
  f321 := Tryz.func228.trans (congrArg some (by kernel_rfl))
  f322 := Tryz.func229.trans (congrArg some (by kernel_rfl))
  f337 := Tryz.func246.trans (congrArg some (by kernel_rfl))
  f338 := Tryz.func247.trans (congrArg some (by kernel_rfl))
  t0 := Tryz.underlying0
  a0 := Tryz.isAgg0
  z0 := Tryz.sizeOf0
  v0 := Tryz.zeroValue0
  t2 := Tryz.underlying2
  a2 := Tryz.isAgg2
  z2 := Tryz.sizeOf2
  v2 := Tryz.zeroValue2
  t3 := Tryz.underlying3
  a3 := Tryz.isAgg3
  z3 := Tryz.sizeOf3
  v3 := Tryz.zeroValue3
  t4 := Tryz.underlying4
  a4 := Tryz.isAgg4
  z4 := Tryz.sizeOf4
  v4 := Tryz.zeroValue4
  t5 := Tryz.underlying5
  a5 := Tryz.isAgg5
  z5 := Tryz.sizeOf5
  v5 := Tryz.zeroValue5
  t9 := Tryz.underlying9
  a9 := Tryz.isAgg9
  z9 := Tryz.sizeOf9
  v9 := Tryz.zeroValue9
  t20 := Tryz.underlying20
  a20 := Tryz.isAgg20
  z20 := Tryz.sizeOf20
  v20 := Tryz.zeroValue20
  t21 := Tryz.underlying21
  a21 := Tryz.isAgg21
  z21 := Tryz.sizeOf21
  v21 := Tryz.zeroValue21
  t37 := Tryz.underlying158
  a37 := Tryz.isAgg158
  z37 := Tryz.sizeOf158
  v37 := Tryz.zeroValue158
  t46 := Tryz.underlying183
  a46 := Tryz.isAgg183
  z46 := Tryz.sizeOf183
  v46 := Tryz.zeroValue183
  t51 := Tryz.underlying109
  a51 := Tryz.isAgg109
  z51 := Tryz.sizeOf109
  v51 := Tryz.zeroValue109
  t53 := Tryz.underlying144
  a53 := Tryz.isAgg144
  z53 := Tryz.sizeOf144
  v53 := Tryz.zeroValue144
  t75 := Tryz.underlying191
  a75 := Tryz.isAgg191
  z75 := Tryz.sizeOf191
  v75 := Tryz.zeroValue191
  t85 := Tryz.underlying207
  a85 := Tryz.isAgg207
  z85 := Tryz.sizeOf207
  v85 := Tryz.zeroValue207
  t127 := Tryz.underlying220
  a127 := Tryz.isAgg220
  z127 := Tryz.sizeOf220
  v127 := Tryz.zeroValue220
  t143 := Tryz.underlying248
  a143 := Tryz.isAgg248
  z143 := Tryz.sizeOf248
  v143 := Tryz.zeroValue248
  t145 := Tryz.underlying250
  a145 := Tryz.isAgg250
  z145 := Tryz.sizeOf250
  v145 := Tryz.zeroValue250
  t167 := Tryz.underlying229
  a167 := Tryz.isAgg229
  z167 := Tryz.sizeOf229
  v167 := Tryz.zeroValue229
  t168 := Tryz.underlying231
  a168 := Tryz.isAgg231
  z168 := Tryz.sizeOf231
  v168 := Tryz.zeroValue231
  t171 := Tryz.underlying224
  a171 := Tryz.isAgg224
  z171 := Tryz.sizeOf224
  v171 := Tryz.zeroValue224
  t173 := Tryz.underlying227
  a173 := Tryz.isAgg227
  z173 := Tryz.sizeOf227
  v173 := Tryz.zeroValue227
  t175 := Tryz.underlying192
  a175 := Tryz.isAgg192
  z175 := Tryz.sizeOf192
  v175 := Tryz.zeroValue192
  t210 := Tryz.underlying244
  a210 := Tryz.isAgg244
  z210 := Tryz.sizeOf244
  v210 := Tryz.zeroValue244
  t212 := Tryz.underlying239
  a212 := Tryz.isAgg239
  z212 := Tryz.sizeOf239
  v212 := Tryz.zeroValue239
  t213 := Tryz.underlying240
  a213 := Tryz.isAgg240
  z213 := Tryz.sizeOf240
  t232 := Tryz.underlying251
  a232 := Tryz.isAgg251
  z232 := Tryz.sizeOf251
  v232 := Tryz.zeroValue251
  t233 := Tryz.underlying252
  a233 := Tryz.isAgg252
  z233 := Tryz.sizeOf252
  v233 := Tryz.zeroValue252
  g15 := by kernel_rfl
  g16 := by kernel_rfl
  g17 := by kernel_rfl
  g18 := by kernel_rfl
  g19 := by kernel_rfl
  t80 := Tryz.underlying122
  a80 := Tryz.isAgg122
  z80 := Tryz.sizeOf122
  v80 := Tryz.zeroValue122
  i0 := by kernel_rfl
  i2 := by kernel_rfl
  i3 := by kernel_rfl
  i4 := by kernel_rfl
  i5 := by kernel_rfl
  i9 := by kernel_rfl
  i20 := by kernel_rfl
  i21 := by kernel_rfl
  i37 := by kernel_rfl
  i46 := by kernel_rfl
  i51 := by kernel_rfl
  i53 := by kernel_rfl
  i75 := by kernel_rfl
  i80 := by kernel_rfl
  i85 := by kernel_rfl
  i127 := by kernel_rfl
  i143 := by kernel_rfl
  i145 := by kernel_rfl
  i167 := by kernel_rfl
  i168 := by kernel_rfl
  i171 := by kernel_rfl
  i173 := by kernel_rfl
  i175 := by kernel_rfl
  i210 := by kernel_rfl
  i212 := by kernel_rfl
  i232 := by kernel_rfl
  i233 := by kernel_rfl
  m15 := by kernel_rfl
  m16 := by kernel_rfl
  m17 := by kernel_rfl
  m18 := by kernel_rfl
  m19 := by kernel_rfl
  c0 := by kernel_rfl
  c2 := by kernel_rfl
  c3 := by kernel_rfl
  c4 := by kernel_rfl
  c5 := by kernel_rfl
  c9 := by kernel_rfl
  c20 := by kernel_rfl
  c21 := by kernel_rfl
  c37 := by kernel_rfl
  c46 := by kernel_rfl
  c51 := by kernel_rfl
  c53 := by kernel_rfl
  c75 := by kernel_rfl
  c80 := by kernel_rfl
  c85 := by kernel_rfl
  c127 := by kernel_rfl
  c143 := by kernel_rfl
  c145 := by kernel_rfl
  c167 := by kernel_rfl
  c168 := by kernel_rfl
  c171 := by kernel_rfl
  c173 := by kernel_rfl
  c175 := by kernel_rfl
  c210 := by kernel_rfl
  c212 := by kernel_rfl
  c213 := by kernel_rfl
  c232 := by kernel_rfl
  c233 := by kernel_rfl }
open Go.RowKit in
theorem Tryz.strconv_ParseInt_10_at64_ok (s : ByteArray) (hmax : s.size ≤ 9223372036854775806) (v : Int) (h : Lib.parseIntB 64 s.data.toList = .ok v) (w : World) :
    Calls Tryz.prog 203 #[.string s, .int .i64 10, .int .i64 64] w fun e w' => e = .returned (.tuple #[.int .i64 v, .nilIface]) ∧ (w' = w ∨ ∃ t, w' = Lib.bytesWorld w 5 t) := Any.strconv_ParseInt_10_at64_ok Tryz.laysC174 s hmax v h w
def Tryz.laysPu14_ren : Go.Shelf.Ren := ⟨fun | 14 => 194 | 16 => 211 | 17 => 212 | 19 => 228 | 20 => 229 | 21 => 230 | 22 => 231 | 23 => 232 | 24 => 233 | 25 => 243 | 27 => 170 | 26 => 244 | 28 => 185 | 29 => 207 | 30 => 224 | 31 => 225 | 32 => 226 | 33 => 227 | 35 => 239 | 34 => 238 | 36 => 240 | 37 => 241 | 38 => 242 | 39 => 246 | 40 => 247 | n => n, fun | 9 => 9 | 3 => 3 | 22 => 144 | 24 => 191 | 25 => 192 | 4 => 4 | 34 => 229 | 5 => 5 | 36 => 183 | 37 => 158 | 0 => 0 | 39 => 231 | 21 => 21 | 44 => 244 | 47 => 220 | 50 => 250 | 48 => 248 | 2 => 2 | 52 => 224 | 55 => 227 | 59 => 239 | 60 => 109 | 20 => 20 | 61 => 240 | 65 => 251 | 66 => 252 | 67 => 122 | n => n, fun | 0 => 2 | 1 => 3 | 2 => 1 | 3 => 4 | 4 => 5 | n => n⟩
theorem Tryz.laysPu14 : Go.Proofs.LaysPu.n14 Tryz.prog Tryz.laysPu14_ren := {
  mixed := by kernel_rfl
  f14 := Tryz.func194.trans (congrArg some (by kernel_rfl))
  f16 := Tryz.func211.trans (congrArg some (by kernel_rfl))
  f17 := Tryz.func212.trans (congrArg some (by kernel_rfl))
  f19 := Tryz.func228.trans (congrArg some (by kernel_rfl))
  f20 := Tryz.func229.trans (congrArg some (by kernel_rfl))
  f21 := Tryz.func230.trans (congrArg some (by kernel_rfl))
  f22 := Tryz.func231.trans (congrArg some (by kernel_rfl))
  f23 := Tryz.func232.trans (congrArg some (by kernel_rfl))
  f24 := Tryz.func233.trans (congrArg some (by kernel_rfl))
  f25 := Tryz.func243.trans (congrArg some (by kernel_rfl))
  f26 := Tryz.func244.trans (congrArg some (by kernel_rfl))
  f27 := Tryz.func170.trans (congrArg some (by kernel_rfl))
  f28 := Tryz.func185.trans (congrArg some (by kernel_rfl))
  f29 := Tryz.func207.trans (congrArg some (by kernel_rfl))
  f30 := Tryz.func224.trans (congrArg some (by kernel_rfl))
  f31 := Tryz.func225.trans (congrArg some (by kernel_rfl))
  f32 := Tryz.func226.trans (congrArg some (by kernel_rfl))
  f33 := Tryz.func227.trans (congrArg some (by kernel_rfl))
  f34 := Tryz.func238.trans (congrArg some (by kernel_rfl))
  f35 := Tryz.func239.trans (congrArg some (by kernel_rfl))
  f36 := Tryz.func240.trans (congrArg some (by kernel_rfl))
  f37 := Tryz.func241.trans (congrArg some (by kernel_rfl))
  f38 := Tryz.func242.trans (congrArg some (by kernel_rfl))
  f39 := Tryz.func246.trans (congrArg some (by kernel_rfl))
  f40 := Tryz.func247.trans (congrArg some (by kernel_rfl))
  t0 := Tryz.underlying0
  a0 := Tryz.isAgg0
  z0 := Tryz.sizeOf0
  v0 := Tryz.zeroValue0
  i0 := by kernel_rfl
  t2 := Tryz.underlying2
  a2 := Tryz.isAgg2
  z2 := Tryz.sizeOf2
  v2 := Tryz.zeroValue2
  i2 := by kernel_rfl
  t3 := Tryz.underlying3
  a3 := Tryz.isAgg3
  z3 := Tryz.sizeOf3
  v3 := Tryz.zeroValue3
  i3 := by kernel_rfl
  t4 := Tryz.underlying4
  a4 := Tryz.isAgg4
  z4 := Tryz.sizeOf4
  v4 := Tryz.zeroValue4
  i4 := by kernel_rfl
  t5 := Tryz.underlying5
  a5 := Tryz.isAgg5
  z5 := Tryz.sizeOf5
  v5 := Tryz.zeroValue5
  i5 := by kernel_rfl
  t9 := Tryz.underlying9
  a9 := Tryz.isAgg9
  z9 := Tryz.sizeOf9
  v9 := Tryz.zeroValue9
  i9 := by kernel_rfl
  t20 := Tryz.underlying20
  a20 := Tryz.isAgg20
  z20 := Tryz.sizeOf20
  v20 := Tryz.zeroValue20
  i20 := by kernel_rfl
  t21 := Tryz.underlying21
  a21 := Tryz.isAgg21
  z21 := Tryz.sizeOf21
  v21 := Tryz.zeroValue21
  i21 := by kernel_rfl
  t22 := Tryz.underlying144
  a22 := Tryz.isAgg144
  z22 := Tryz.sizeOf144
  v22 := Tryz.zeroValue144
  i22 := by kernel_rfl
  t24 := Tryz.underlying191
  a24 := Tryz.isAgg191
  z24 := Tryz.sizeOf191
  v24 := Tryz.zeroValue191
  i24 := by kernel_rfl
  t25 := Tryz.underlying192
  a25 := Tryz.isAgg192
  z25 := Tryz.sizeOf192
  v25 := Tryz.zeroValue192
  i25 := by kernel_rfl
  t34 := Tryz.underlying229
  a34 := Tryz.isAgg229
  z34 := Tryz.sizeOf229
  v34 := Tryz.zeroValue229
  i34 := by kernel_rfl
  c34 := by kernel_rfl
  t36 := Tryz.underlying183
  a36 := Tryz.isAgg183
  z36 := Tryz.sizeOf183
  v36 := Tryz.zeroValue183
  i36 := by kernel_rfl
  t37 := Tryz.underlying158
  a37 := Tryz.isAgg158
  z37 := Tryz.sizeOf158
  v37 := Tryz.zeroValue158
  i37 := by kernel_rfl
  t39 := Tryz.underlying231
  a39 := Tryz.isAgg231
  z39 := Tryz.sizeOf231
  v39 := Tryz.zeroValue231
  i39 := by kernel_rfl
  t44 := Tryz.underlying244
  a44 := Tryz.isAgg244
  z44 := Tryz.sizeOf244
  v44 := Tryz.zeroValue244
  i44 := by kernel_rfl
  t47 := Tryz.underlying220
  a47 := Tryz.isAgg220
  z47 := Tryz.sizeOf220
  v47 := Tryz.zeroValue220
  i47 := by kernel_rfl
  t48 := Tryz.underlying248
  a48 := Tryz.isAgg248
  z48 := Tryz.sizeOf248
  v48 := Tryz.zeroValue248
  i48 := by kernel_rfl
  t50 := Tryz.underlying250
  a50 := Tryz.isAgg250
  z50 := Tryz.sizeOf250
  v50 := Tryz.zeroValue250
  i50 := by kernel_rfl
  t52 := Tryz.underlying224
  a52 := Tryz.isAgg224
  z52 := Tryz.sizeOf224
  v52 := Tryz.zeroValue224
  i52 := by kernel_rfl
  t55 := Tryz.underlying227
  a55 := Tryz.isAgg227
  z55 := Tryz.sizeOf227
  v55 := Tryz.zeroValue227
  i55 := by kernel_rfl
  t59 := Tryz.underlying239
  a59 := Tryz.isAgg239
  z59 := Tryz.sizeOf239
  v59 := Tryz.zeroValue239
  i59 := by kernel_rfl
  t60 := Tryz.underlying109
  a60 := Tryz.isAgg109
  z60 := Tryz.sizeOf109
  v60 := Tryz.zeroValue109
  i60 := by kernel_rfl
  t61 := Tryz.underlying240
  a61 := Tryz.isAgg240
  z61 := Tryz.sizeOf240
  t65 := Tryz.underlying251
  a65 := Tryz.isAgg251
  z65 := Tryz.sizeOf251
  v65 := Tryz.zeroValue251
  i65 := by kernel_rfl
  t66 := Tryz.underlying252
  a66 := Tryz.isAgg252
  z66 := Tryz.sizeOf252
  v66 := Tryz.zeroValue252
  i66 := by kernel_rfl
  t67 := Tryz.underlying122
  a67 := Tryz.isAgg122
  z67 := Tryz.sizeOf122
  v67 := Tryz.zeroValue122
  i67 := by kernel_rfl
  g0 := by kernel_rfl
  m0 := by kernel_rfl
  g1 := by kernel_rfl
  m1 := by kernel_rfl
  g2 := by kernel_rfl
  m2 := by kernel_rfl
  g3 := by kernel_rfl
  m3 := by kernel_rfl
  g4 := by kernel_rfl
  m4 := by kernel_rfl }
open Go.RowKit in
theorem Tryz.strconv_ParseUint_10_at32_ok (s : ByteArray) (hmax : s.size ≤ 9223372036854775806) (u : Nat) (h : Lib.parseUintB 32 s.data.toList = .ok u) (w : World) :
    Calls Tryz.prog 194 #[.string s, .int .i64 10, .int .i64 32] w fun e w' => e = .returned (.tuple #[.int .u64 u, .nilIface]) ∧ (w' = w ∨ w' = Lib.bytesWorld w 5 s) := Any.strconv_ParseUint_10_at32_ok Tryz.laysPu14 s hmax u h w
def Tryz.lays219_ren : Go.Shelf.Ren := ⟨fun | 219 => 171 | 217 => 186 | 225 => 187 | 224 => 188 | 267 => 189 | 266 => 208 | 314 => 209 | n => n, fun | 9 => 9 | 3 => 3 | 4 => 4 | 5 => 5 | 46 => 183 | 146 => 212 | 51 => 109 | n => n, fun | 1 => 0 | n => n⟩
theorem Tryz.lays219 : Go.Proofs.Lays.n219 Tryz.prog Tryz.lays219_ren := {
  mixed := by kernel_rfl
  f217 := Tryz.func186.trans (congrArg some (by kernel_rfl))
  f219 := Tryz.func171.trans (congrArg some (by kernel_rfl))
  f224 := Tryz.func188.trans (congrArg some (by kernel_rfl))
  f225 := Tryz.func187.trans (congrArg some (by kernel_rfl))
  f266 := Tryz.func208.trans (congrArg some (by kernel_rfl))
  f267 := Tryz.func189.trans (congrArg some (by kernel_rfl))
  f314 := Tryz.func209.trans (congrArg some (by kernel_rfl))
  t3 := Tryz.underlying3
  a3 := Tryz.isAgg3
  z3 := Tryz.sizeOf3
  v3 := Tryz.zeroValue3
  t4 := Tryz.underlying4
  a4 := Tryz.isAgg4
  z4 := Tryz.sizeOf4
  v4 := Tryz.zeroValue4
  t5 := Tryz.underlying5
  a5 := Tryz.isAgg5
  z5 := Tryz.sizeOf5
  v5 := Tryz.zeroValue5
  t9 := Tryz.underlying9
  a9 := Tryz.isAgg9
  z9 := Tryz.sizeOf9
  v9 := Tryz.zeroValue9
  t46 := Tryz.underlying183
  a46 := Tryz.isAgg183
  z46 := Tryz.sizeOf183
  v46 := Tryz.zeroValue183
  t51 := Tryz.underlying109
  a51 := Tryz.isAgg109
  z51 := Tryz.sizeOf109
  v51 := Tryz.zeroValue109
  t146 := Tryz.underlying212
  a146 := Tryz.isAgg212
  z146 := Tryz.sizeOf212
  v146 := Tryz.zeroValue212
  g1 := by kernel_rfl }
open Go.RowKit Go.Lib in
theorem Tryz.stringslite_Index_one (s : ByteArray) (c : UInt8) (w : World) :
    Calls Tryz.prog 171 #[.string s, .string ⟨#[c]⟩] w fun e w' => e = .returned (.int .i64 (Lib.indexByte s.data.toList c)) ∧ w' = w := Any.stringslite_Index_one Tryz.lays219 s c w
def Tryz.lays105_ren : Go.Shelf.Ren := ⟨fun | 105 => 198 | 212 => 216 | 99 => 217 | 165 => 218 | 166 => 197 | 170 => 219 | 169 => 199 | 263 => 235 | 264 => 236 | 206 => 193 | 240 => 215 | 241 => 237 | 276 => 234 | 277 => 245 | n => n, fun | 9 => 9 | 3 => 3 | 4 => 4 | 20 => 20 | 0 => 0 | 46 => 183 | 109 => 217 | 5 => 5 | 72 => 196 | 76 => 201 | 51 => 109 | 146 => 212 | 53 => 144 | 148 => 237 | 70 => 194 | 37 => 158 | 75 => 191 | 127 => 220 | 164 => 234 | 80 => 122 | n => n, fun | n => n⟩
theorem Tryz.lays105 : Go.Proofs.Lays.n105 Tryz.prog Tryz.lays105_ren := {
  mixed := by kernel_rfl
  f99 := Tryz.func217.trans (congrArg some (by kernel_rfl))
  f105 := Tryz.func198.trans (congrArg some (by kernel_rfl))
  f165 := Tryz.func218.trans (congrArg some (by kernel_rfl))
  f166 := Tryz.func197.trans (congrArg some (by kernel_rfl))
  f169 := Tryz.func199.trans (congrArg some (by kernel_rfl))
  f170 := Tryz.func219.trans (congrArg some (by kernel_rfl))
  f206 := Tryz.func193.trans (congrArg some (by kernel_rfl))
  f212 := Tryz.func216.trans (congrArg some (by kernel_rfl))
  f240 := Tryz.func215.trans (congrArg some (by kernel_rfl))
  f241 := Tryz.func237.trans (congrArg some (by kernel_rfl))
  f263 := Tryz.func235.trans (congrArg some (by kernel_rfl))
  f264 := Tryz.func236.trans (congrArg some (by kernel_rfl))
  f276 := Tryz.func234.trans (congrArg some (by kernel_rfl))
  f277 := Tryz.func245.trans (congrArg some (by kernel_rfl))
  t0 := Tryz.underlying0
  a0 := Tryz.isAgg0
  z0 := Tryz.sizeOf0
  v0 := Tryz.zeroValue0
  t3 := Tryz.underlying3
  a3 := Tryz.isAgg3
  z3 := Tryz.sizeOf3
  v3 := Tryz.zeroValue3
  t4 := Tryz.underlying4
  a4 := Tryz.isAgg4
  z4 := Tryz.sizeOf4
  v4 := Tryz.zeroValue4
  t5 := Tryz.underlying5
  a5 := Tryz.isAgg5
  z5 := Tryz.sizeOf5
  v5 := Tryz.zeroValue5
  t9 := Tryz.underlying9
  a9 := Tryz.isAgg9
  z9 := Tryz.sizeOf9
  v9 := Tryz.zeroValue9
  t20 := Tryz.underlying20
  a20 := Tryz.isAgg20
  z20 := Tryz.sizeOf20
  v20 := Tryz.zeroValue20
  t37 := Tryz.underlying158
  a37 := Tryz.isAgg158
  z37 := Tryz.sizeOf158
  v37 := Tryz.zeroValue158
  t46 := Tryz.underlying183
  a46 := Tryz.isAgg183
  z46 := Tryz.sizeOf183
  v46 := Tryz.zeroValue183
  t51 := Tryz.underlying109
  a51 := Tryz.isAgg109
  z51 := Tryz.sizeOf109
  v51 := Tryz.zeroValue109
  t53 := Tryz.underlying144
  a53 := Tryz.isAgg144
  z53 := Tryz.sizeOf144
  v53 := Tryz.zeroValue144
  t70 := Tryz.underlying194
  a70 := Tryz.isAgg194
  z70 := Tryz.sizeOf194
  v70 := Tryz.zeroValue194
  t72 := Tryz.underlying196
  a72 := Tryz.isAgg196
  z72 := Tryz.sizeOf196
  v72 := Tryz.zeroValue196
  t75 := Tryz.underlying191
  a75 := Tryz.isAgg191
  z75 := Tryz.sizeOf191
  v75 := Tryz.zeroValue191
  t76 := Tryz.underlying201
  a76 := Tryz.isAgg201
  z76 := Tryz.sizeOf201
  v76 := Tryz.zeroValue201
  t109 := Tryz.underlying217
  a109 := Tryz.isAgg217
  z109 := Tryz.sizeOf217
  v109 := Tryz.zeroValue217
  t127 := Tryz.underlying220
  a127 := Tryz.isAgg220
  z127 := Tryz.sizeOf220
  v127 := Tryz.zeroValue220
  t146 := Tryz.underlying212
  a146 := Tryz.isAgg212
  z146 := Tryz.sizeOf212
  v146 := Tryz.zeroValue212
  t148 := Tryz.underlying237
  a148 := Tryz.isAgg237
  z148 := Tryz.sizeOf237
  v148 := Tryz.zeroValue237
  t164 := Tryz.underlying234
  a164 := Tryz.isAgg234
  z164 := Tryz.sizeOf234
  v164 := Tryz.zeroValue234 }
theorem Tryz.Builder_Extra_105 : Builder.Extra Tryz.prog Tryz.lays105_ren := {
  sizeBuilder := by kernel_rfl
  liesBuilder := by kernel_rfl
  t5 := Tryz.underlying5
  a5 := Tryz.isAgg5
  z5 := Tryz.sizeOf5
  v5 := Tryz.zeroValue5
  infoByte := by kernel_rfl
  cellsByte := by kernel_rfl
  sizeByte := by kernel_rfl
  neB5 := by decide }
open Go.RowKit Go.Lib in
theorem Tryz.strings_Repeat (s : ByteArray) (c : Nat) (w : World) (hc : c ≤ 9223372036854775807) (hlen : s.size * c ≤ 140737488355328) :
    Calls Tryz.prog 198 #[.string s, .int .i64 c] w fun e w' => e = .returned (.string ⟨(Lib.repeatL s.data.toList c).toArray⟩) ∧ Below w.heap.size w w' := Any.strings_Repeat Tryz.lays105 Tryz.Builder_Extra_105 s c w hc hlen
end Go.Proofs
namespace Go.Proofs.YtolehnkoocnenaaGreatDoor.S
open Go Go.Sx Go.RowKit Gb
variable {G : World → Prop} (hG : ∀ w w', G w → Below w.heap.size w w' → G w')
include hG
set_option maxRecDepth 100000 in
set_option maxHeartbeats 8000000 in
theorem ntrim_c (l0 : List Int) (hl0 : l0.length < 1000000000000) : Meets Tryz.prog G 176 [.sl l0.length (l0.map wv)] (wsP (trimL l0)) := by
  refine meets_of_vc (Y := {}) (N := 21) (rs := [.tmp 2]) mix tk hG Tryz.func176 rfl (by kernel_rfl) rfl rfl (by simp) (by kernel_rfl) ?_
  simp (maxSteps := 10000000) only [↓sx, sx, ↓ty, wsP_c]
  refine loopK_of (fun l : List Int => [(0, .p (.sl l.length (l.map wv)))]) (fun _ => []) (fun _ => []) (fun l => l.length < 1000000000000 ∧ trimL l = trimL l0) (fun l => l.length) l0 ⟨hl0, rfl⟩ ?_ ?_
  · simp (maxSteps := 10000000) only [isE_nil, is_cons, bo_p, all_nil', ↓sx, sx, ↓reduceIte, Nat.reduceEqDiff]
  · rintro l ⟨hl, ht⟩
    simp (maxSteps := 10000000) only [↓sx, sx, ↓ty, ↓reduceIte, Nat.reduceEqDiff, Nat.reduceLT, wv_c]
    refine vcIf_dec (fun h => ?_) (fun h => ?_)
    · have hw : IntKind.i64.wrap (l.length - 1 : Int) = ((l.length - 1 : Nat) : Int) := by rw [i64_id] <;> omega
      rw [hw]
      simp only [Int.toNat_natCast]
      refine ⟨⟨by omega, by omega, by omega⟩, by omega, ?_⟩
      rw [trimL, dif_neg (by intro h0; rw [h0] at h; simp at h)] at ht
      refine vcIf_b (fun hz => ?_) (fun hz => ?_)
      · rw [beq_iff_eq] at hz
        rw [if_pos hz, List.dropLast_eq_take] at ht
        refine ⟨⟨by omega, by omega, by omega⟩, NextK.mk (l.take (l.length - 1)) ?_ ⟨?_, ht⟩ ?_⟩
        · simp; omega
        · simp; omega
        · simp (maxSteps := 10000000) only [isE_nil, is_cons, bo_p, all_nil', ↓sx, sx, ↓reduceIte]
          simp [hw]
      · rw [beq_eq_false_iff_ne] at hz
        rw [if_neg hz] at ht
        rw [← ht]
    · have h0 : l = [] := List.eq_nil_of_length_eq_zero (by omega)
      subst h0
      rw [trimL, dif_pos rfl] at ht
      rw [← ht]
theorem ntrim_n (l : List Int) (hl : l.length < 1000000000000) (hd : Dig l) (n : Nat) (hv : val l = n) : Meets Tryz.prog G 176 [.sl l.length (l.map wv)] (nP n) := by
  have := ntrim_c hG l hl
  rwa [trimL_wl hd hv] at this
set_option maxRecDepth 100000 in
set_option maxHeartbeats 8000000 in
theorem isNaNi_n (n : Int) : Meets Tryz.prog G 220 [.val (.int .i64 n)] (.val (.bool false)) := by
  refine meets_of_vc (Y := {}) (N := 6) (rs := [.tmp 2]) mix tk hG Tryz.func220 rfl (by kernel_rfl) rfl rfl (by simp) (by kernel_rfl) ?_
  simp (maxSteps := 10000000) only [↓sx, sx, ↓reduceIte, Nat.reduceEqDiff]
  simp
set_option maxRecDepth 100000 in
set_option maxHeartbeats 8000000 in
theorem isNaNu_n (n : Int) : Meets Tryz.prog G 221 [.val (.int .u32 n)] (.val (.bool false)) := by
  refine meets_of_vc (Y := {}) (N := 6) (rs := [.tmp 2]) mix tk hG Tryz.func221 rfl (by kernel_rfl) rfl rfl (by simp) (by kernel_rfl) ?_
  simp (maxSteps := 10000000) only [↓sx, sx, ↓reduceIte, Nat.reduceEqDiff]
  simp
set_option maxRecDepth 100000 in
set_option maxHeartbeats 8000000 in
theorem cmpi_n (x y : Int) : Meets Tryz.prog G 201 [.val (.int .i64 x), .val (.int .i64 y)] (iP (cmpI x y)) := by
  refine meets_of_vc (Y := {}) (N := 20) (rs := [.tmp 4]) mix tk hG Tryz.func201 rfl (by kernel_rfl) rfl rfl (by simp) (by kernel_rfl) ?_
  simp (maxSteps := 10000000) only [↓sx, sx, ↓reduceIte, Nat.reduceEqDiff, iP_c]
  refine CallT.mk (isNaNi_n hG x) ?_
  simp (maxSteps := 10000000) only [↓sx, sx, ↓reduceIte, Nat.reduceEqDiff]
  refine CallT.mk (isNaNi_n hG y) ?_
  simp (maxSteps := 10000000) only [↓sx, sx, ↓reduceIte, Nat.reduceEqDiff]
  refine vcIf_dec (fun h => ?_) (fun h => ?_)
  · rw [cmpI, if_pos h]
  · refine vcIf_dec (fun h2 => ?_) (fun h2 => ?_)
    · rw [cmpI, if_neg h, if_pos h2]
    · rw [cmpI, if_neg h, if_neg h2]
set_option maxRecDepth 100000 in
set_option maxHeartbeats 8000000 in
theorem cmpu_n (x y : Int) : Meets Tryz.prog G 202 [.val (.int .u32 x), .val (.int .u32 y)] (iP (cmpI x y)) := by
  refine meets_of_vc (Y := {}) (N := 20) (rs := [.tmp 4]) mix tk hG Tryz.func202 rfl (by kernel_rfl) rfl rfl (by simp) (by kernel_rfl) ?_
  simp (maxSteps := 10000000) only [↓sx, sx, ↓reduceIte, Nat.reduceEqDiff, iP_c]
  refine CallT.mk (isNaNu_n hG x) ?_
  simp (maxSteps := 10000000) only [↓sx, sx, ↓reduceIte, Nat.reduceEqDiff]
  refine CallT.mk (isNaNu_n hG y) ?_
  simp (maxSteps := 10000000) only [↓sx, sx, ↓reduceIte, Nat.reduceEqDiff]
  refine vcIf_dec (fun h => ?_) (fun h => ?_)
  · rw [cmpI, if_pos h]
  · refine vcIf_dec (fun h2 => ?_) (fun h2 => ?_)
    · rw [cmpI, if_neg h, if_pos h2]
    · rw [cmpI, if_neg h, if_neg h2]
set_option maxRecDepth 100000 in
set_option maxHeartbeats 8000000 in
theorem ncmp_n (a b : Nat) (ha : Lw a < 1000000000) (hb : Lw b < 1000000000) : Meets Tryz.prog G 178 [nP a, nP b] (iP (cmpI a b)) := by
  refine meets_of_vc (Y := {}) (N := 41) (rs := [.tmp 4]) mix tk hG Tryz.func178 rfl (by kernel_rfl) rfl rfl (by simp) (by kernel_rfl) ?_
  unfold Lw at ha hb
  rw [show nP a = .sl (wl a).length ((wl a).map wv) from rfl, show nP b = .sl (wl b).length ((wl b).map wv) from rfl]
  have hA := wl_norm a
  have hB := wl_norm b
  have hva := wl_val a
  have hvb := wl_val b
  generalize wl a = A at *
  generalize wl b = B at *
  simp (maxSteps := 10000000) only [↓sx, sx, ↓ty, ↓reduceIte, Nat.reduceEqDiff, iP_c]
  refine vcIf_b (fun hl => ?_) (fun hl => ?_)
  · rw [bne_iff_ne] at hl
    refine CallT.mk (cmpi_n hG _ _) ?_
    simp (maxSteps := 10000000) only [↓sx, sx, ↓reduceIte, iP_c]
    have : cmpI (A.length : Int) (B.length : Int) = cmpI a b := by
      by_cases h : A.length < B.length
      · have := hB.len_lt hA.1 (by omega)
        unfold cmpI
        rw [if_pos (by omega), if_pos (by omega)]
      · have := hA.len_lt hB.1 (by omega)
        unfold cmpI
        rw [if_neg (by omega), if_pos (by omega), if_neg (by omega), if_pos (by omega)]
    rw [this]
  · have hl : A.length = B.length := by simp at hl; omega
    have hw : IntKind.i64.wrap ((A.length : Int) - 1) = (A.length : Int) - 1 := i64_id (by omega) (by omega)
    rw [hw]
    refine loopK_of (fun n : Nat => [(0, .p (.sl A.length (A.map wv))), (1, .p (.sl B.length (B.map wv))), (5, .p (.val (.int .i64 ((n : Int) - 1))))]) (fun _ => []) (fun _ => []) (fun n => n ≤ A.length ∧ val (A.drop n) = val (B.drop n)) (fun n => n) A.length ⟨Nat.le_refl _, ?_⟩ ?_ ?_
    · rw [List.drop_length, hl, List.drop_length]
    · simp (maxSteps := 10000000) only [isE_nil, is_cons, bo_p, all_nil', ↓sx, sx, ↓reduceIte, Nat.reduceEqDiff]
    · rintro n ⟨h1, h2⟩
      simp (maxSteps := 10000000) only [↓sx, sx, ↓ty, ↓reduceIte, Nat.reduceEqDiff, wv_c]
      refine vcIf_dec (fun h => ?_) (fun h => ?_)
      · obtain ⟨m, rfl⟩ : ∃ m, n = m + 1 := ⟨n - 1, by omega⟩
        rw [show (((m + 1 : Nat) : Int) - 1) = (m : Int) by omega]
        simp only [Int.toNat_natCast]
        refine ⟨by omega, by omega, by omega, by omega, ?_⟩
        have hx := hA.1.getD m
        have hy := hB.1.getD m
        refine vcIf_b (fun h3 => ?_) (fun h3 => ?_)
        · rw [bne_iff_ne] at h3
          refine ⟨by omega, by omega, by omega, by omega, CallT.mk (cmpu_n hG _ _) ?_⟩
          simp (maxSteps := 10000000) only [↓sx, sx, ↓reduceIte, iP_c]
          have : cmpI (A.getD m 0) (B.getD m 0) = cmpI a b := by
            by_cases h4 : A.getD m 0 < B.getD m 0
            · have := cmp_drop A B hA.1 hB.1 m h2 h4 (by omega) (by omega)
              unfold cmpI
              rw [if_pos (by omega), if_pos (by omega)]
            · have := cmp_drop B A hB.1 hA.1 m h2.symm (by omega) (by omega) (by omega)
              unfold cmpI
              rw [if_neg (by omega), if_pos (by omega), if_neg (by omega), if_pos (by omega)]
          rw [this]
        · have h3 : A.getD m 0 = B.getD m 0 := by simpa using h3
          refine NextK.mk m (by omega) ⟨by omega, ?_⟩ ?_
          · rw [val_drop' A m, val_drop' B m, h2]; omega
          · simp (maxSteps := 10000000) only [isE_nil, is_cons, bo_p, all_nil', ↓sx, sx, ↓reduceIte, Nat.reduceEqDiff, i64_id (x := (m : Int) - 1) (by omega) (by omega)]
      · obtain rfl : n = 0 := by omega
        simp only [List.drop_zero] at h2
        rw [cmpI, if_neg (by omega), if_neg (by omega)]
set_option maxRecDepth 100000 in
set_option maxHeartbeats 8000000 in
theorem nsmall_n (a : Nat) (ha : Lw a < 1000000000) : Meets Tryz.prog G 190 [nP a] (.tup [.val (.int .u64 (if Lw a ≤ 2 then a else 0 : Nat)), .val (.bool (decide (Lw a ≤ 2)))]) := by
  refine meets_of_vc (Y := {}) (N := 26) (rs := [.tmp 2, .tmp 3]) mix tk hG Tryz.func190 rfl (by kernel_rfl) rfl rfl (by simp) (by kernel_rfl) ?_
  unfold Lw at *
  rw [show nP a = .sl (wl a).length ((wl a).map wv) from rfl]
  have hA := wl_norm a
  have hva := wl_val a
  generalize wl a = A at *
  simp (maxSteps := 10000000) only [↓sx, sx, ↓ty, ↓reduceIte, Nat.reduceEqDiff, wv_c]
  refine vcIf_b (fun h0 => ?_) (fun h0 => ?_)
  · have h0 : A.length = 0 := by simp at h0; simpa using h0
    have : A = [] := List.eq_nil_of_length_eq_zero h0
    subst this
    rw [val_nil] at hva
    obtain rfl : a = 0 := by omega
    rfl
  · have h0 : A.length ≠ 0 := by simp at h0; simpa using h0
    refine vcIf_b (fun h1 => ?_) (fun h1 => ?_)
    · have h1 : A.length = 1 := by rw [beq_iff_eq] at h1; omega
      refine ⟨by omega, ?_⟩
      obtain ⟨x, rfl⟩ := List.length_eq_one_iff.1 h1
      have hx := hA.1.head
      simp [val] at hva
      rw [u64_id (by simpa using hx.1) (by simp; omega)]
      simp
      omega
    · have h1 : A.length ≠ 1 := by intro h; rw [h] at h1; simp at h1
      refine vcIf_b (fun h2 => ?_) (fun h2 => ?_)
      · have h2 : A.length = 2 := by rw [beq_iff_eq] at h2; omega
        obtain ⟨x, y, rfl⟩ : ∃ x y, A = [x, y] := by
          match A, h2 with
          | [x, y], _ => exact ⟨x, y, rfl⟩
        have hx := hA.1.head
        have hy := hA.1.tail.head
        simp [val] at hva
        refine ⟨by simp, by simp, ?_⟩
        simp only [List.getD_cons_zero, show Int.toNat 1 = 1 from rfl, List.getD_cons_succ, List.length_cons, List.length_nil]
        refine ⟨⟨by omega, by omega, by omega⟩, by omega, ?_⟩
        rw [u64_id (x := y) (by omega) (by omega), u64_id (x := x) (by omega) (by omega), u64_id (x := 1000000000 * y) (by omega) (by omega), u64_id (x := x + 1000000000 * y) (by omega) (by omega)]
        simp
        omega
      · have h2 : A.length ≠ 2 := by intro h; rw [h] at h2; simp at h2
        rw [if_neg (by omega), decide_eq_false (by omega)]
        rfl
set_option maxRecDepth 100000 in
set_option maxHeartbeats 8000000 in
theorem nof_n (n : Nat) (hn : n < 1000000000000000000) : Meets Tryz.prog G 191 [.val (.int .u64 n)] (nP n) := by
  refine meets_of_vc (Y := {}) (N := 11) (rs := [.tmp 2]) mix tk hG Tryz.func191 rfl (by kernel_rfl) rfl rfl (by simp) (by kernel_rfl) ?_
  simp (maxSteps := 10000000) only [↓sx, sx, ↓ty, ↓reduceIte, Nat.reduceEqDiff, Nat.reduceAdd, Nat.reduceLeDiff, Int.reduceEq, ne_eq, not_false_eq_true]
  have e1 : IntKind.u32.wrap ((n : Int).tmod 1000000000) = (n : Int) % 1000000000 := by rw [tmod_pos (by omega), u32_id (by omega) (by omega)]
  have e2 : IntKind.u32.wrap (IntKind.u64.wrap ((n : Int).tdiv 1000000000)) = (n : Int) / 1000000000 := by rw [tdiv_pos (by omega), u64_id (by omega) (by omega), u32_id (by omega) (by omega)]
  refine CallT.to (ntrim_n hG [(n : Int) % 1000000000, (n : Int) / 1000000000] (by simp) (Dig.cons (by omega) (by omega) (Dig.cons (by omega) (by omega) Dig.nil)) n (by simp [val]; omega)) (by rw [e1, e2]; rfl) ?_
  simp (maxSteps := 10000000) only [↓sx, sx, ↓reduceIte]
end Go.Proofs.YtolehnkoocnenaaGreatDoor.S
namespace Go.Proofs.YtolehnkoocnenaaGreatDoor.S
open Go Go.Sx Go.RowKit Gb
variable {G : World → Prop} (hG : ∀ w w', G w → Below w.heap.size w w' → G w')
include hG
set_option maxRecDepth 100000 in
set_option maxHeartbeats 8000000 in
theorem nby_n (a w : Nat) (ha : Lw a < 1000000) (hw0 : 0 < w) (hw1 : w < 1000000000) : Meets Tryz.prog G 210 [nP a, .val (.int .u64 w)] (.tup [nP (a / w), nP (a % w)]) := by
  refine meets_of_vc (Y := {}) (N := 41) (rs := [.tmp 4, .tmp 5]) mix tk hG Tryz.func210 rfl (by kernel_rfl) rfl rfl (by simp) (by kernel_rfl) ?_
  unfold Lw at ha
  rw [show nP a = .sl (wl a).length ((wl a).map wv) from rfl]
  have hA := wl_norm a
  have hva := wl_val a
  generalize wl a = A at *
  simp (maxSteps := 10000000) only [↓sx, sx, ↓ty, ↓reduceIte, Nat.reduceEqDiff]
  have hw : IntKind.i64.wrap ((A.length : Int) - 1) = (A.length : Int) - 1 := i64_id (by omega) (by omega)
  rw [hw]
  refine ⟨by omega, ?_⟩
  refine loopK_of (fun s : List Int × Int × Nat => [(0, .p (.sl A.length (A.map wv))), (1, .p (.val (.int .u64 w))), (6, .orow 11), (7, .p (.val (.int .u64 s.2.1))), (8, .p (.val (.int .i64 ((s.2.2 : Int) - 1))))]) (fun _ => []) (fun s => [(11, ⟨109, 1, s.1.length, s.1.map wv, false⟩)]) (smallInv A w) (fun s => s.2.2) (List.replicate A.length 0, 0, A.length) ?_ ?_ ?_
  · refine ⟨Nat.le_refl _, Dig.replicate _, by simp, fun j _ => Zf.replicate _ 0 j (Nat.zero_le _), Int.le_refl _, by dsimp only; omega, ?_⟩
    simp [val_replicate]
  · simp (maxSteps := 10000000) only [isE_nil, is_cons, bo_p, bo_orow, any_cons', all_cons', all_nil', Bool.true_or, ↓sx, sx, ↓reduceIte, Nat.reduceEqDiff]
    simp [rep_wv]
  · rintro ⟨out, r, n⟩ ⟨h1, h2, h3, h4, h5, h5b, h6⟩
    dsimp only at h1 h2 h3 h4 h5 h5b h6 ⊢
    simp (maxSteps := 10000000) only [↓sx, sx, ↓ty, ↓reduceIte, Nat.reduceEqDiff, Nat.reduceAdd, wv_c]
    refine vcIf_dec (fun h => ?_) (fun h => ?_)
    · obtain ⟨m, rfl⟩ : ∃ m, n = m + 1 := ⟨n - 1, by omega⟩
      rw [show (((m + 1 : Nat) : Int) - 1) = (m : Int) by omega]
      simp only [Int.toNat_natCast]
      have hx := hA.1.getD m
      obtain ⟨s0, s1, s2, s3, s4, s5, s6⟩ := by_step (r := r) (x := A.getD m 0) (w := (w : Int)) ⟨h5, h5b⟩ hx (by omega)
      rw [u64_id (x := A.getD m 0) (by omega) (by omega), u64_id (x := r * 1000000000) (by omega) (by omega), u64_id (x := r * 1000000000 + A.getD m 0) (by omega) (by omega), tdiv_pos s0, tmod_pos s0, u64_id (x := (r * 1000000000 + A.getD m 0) / w) (by omega) (by omega), u32_id (x := (r * 1000000000 + A.getD m 0) / w) (by omega) (by omega)]
      refine ⟨by omega, by omega, by omega, by omega, by omega, by omega, ?_⟩
      refine NextK.mk (out.set m ((r * 1000000000 + A.getD m 0) / w), (r * 1000000000 + A.getD m 0) % w, m) (by dsimp only; omega) ⟨by dsimp only; omega, h2.set _ s2 s3, by simp [h3], (fun j hj => by dsimp only at hj ⊢; rw [Gb.getD_set_ne _ _ _ _ (by omega)]; exact h4 j (by omega)), s4, s5, ?_⟩ ?_
      · dsimp only
        rw [← h6, val_set _ _ _ (by omega), h4 m (by omega), val_take_succ _ _ (by omega), Int.pow_succ]
        generalize A.getD m 0 = x at *
        generalize (r * 1000000000 + x) / (w : Int) = sq at *
        generalize (r * 1000000000 + x) % (w : Int) = sr at *
        grind
      · simp (maxSteps := 10000000) only [isE_nil, is_cons, bo_p, bo_orow, any_cons', all_cons', all_nil', Bool.true_or, ↓sx, sx, ↓reduceIte, Nat.reduceEqDiff]
        rw [set_wv _ _ _ (by omega), i64_id (by omega) (by omega)]
        simp
    · obtain rfl : n = 0 := by omega
      rw [List.take_zero, val_nil, Int.pow_zero] at h6
      have hvo := val_nonneg h2
      have hq : val out = ((a / w : Nat) : Int) := by
        rw [Int.natCast_ediv, ← hva, ← h6, show r * 1 + 0 + (w : Int) * val out = r + w * val out by omega, Int.add_mul_ediv_left _ _ (by omega), Int.ediv_eq_zero_of_lt h5 h5b]; omega
      have hr : r = ((a % w : Nat) : Int) := by
        rw [Int.natCast_emod, ← hva, ← h6, show r * 1 + 0 + (w : Int) * val out = r + w * val out by omega, Int.add_mul_emod_self_left, Int.emod_eq_of_lt h5 h5b]
      have hrl : a % w < w := Nat.mod_lt _ hw0
      refine CallT.mk (ntrim_n hG out (by omega) h2 (a / w) hq) ?_
      simp (maxSteps := 10000000) only [↓sx, sx, ↓reduceIte, Nat.reduceEqDiff, nP_c]
      refine CallT.to (nof_n hG (a % w) (by omega)) (by rw [hr]) ?_
      simp (maxSteps := 10000000) only [↓sx, sx, ↓reduceIte, Nat.reduceEqDiff, nP_c]
set_option maxRecDepth 100000 in
set_option maxHeartbeats 8000000 in
theorem ntimes_n (a b : Nat) (ha : Lw a < 1000000) (hb : Lw b < 1000000) : Meets Tryz.prog G 160 [nP a, nP b] (nP (a * b)) := by
  refine meets_of_vc (Y := {}) (N := 68) (rs := [.tmp 4]) mix tk hG Tryz.func160 rfl (by kernel_rfl) rfl rfl (by simp) (by kernel_rfl) ?_
  unfold Lw at ha hb
  rw [show nP a = .sl (wl a).length ((wl a).map wv) from rfl, show nP b = .sl (wl b).length ((wl b).map wv) from rfl]
  have hA := wl_norm a
  have hB := wl_norm b
  have hva := wl_val a
  have hvb := wl_val b
  generalize wl a = A at *
  generalize wl b = B at *
  simp (maxSteps := 10000000) only [↓sx, sx, ↓ty, ↓reduceIte, Nat.reduceEqDiff]
  have hw : IntKind.i64.wrap ((A.length : Int) + (B.length : Int)) = ((A.length + B.length : Nat) : Int) := by rw [i64_id] <;> omega
  rw [hw]
  refine ⟨by omega, ?_⟩
  refine loopK_of (fun s : List Int × Nat => [(1, .p (.sl B.length (B.map wv))), (5, .orow 16), (17, .p (.sl A.length (A.map wv))), (18, .p (.val (.int .i64 (A.length : Nat)))), (19, .p (.val (.int .i64 (s.2 : Nat))))]) (fun _ => []) (fun s => [(16, ⟨109, 1, s.1.length, s.1.map wv, false⟩)]) (timesInv A B) (fun s => A.length - s.2) (List.replicate (A.length + B.length) 0, 0) ?_ ?_ ?_
  · refine ⟨Dig.replicate _, by simp, Zf.replicate _ _, Nat.zero_le _, ?_⟩
    simp [val_replicate]
  · simp (maxSteps := 10000000) only [isE_nil, is_cons, bo_p, bo_orow, any_cons', all_cons', all_nil', Bool.true_or, ↓sx, sx, ↓reduceIte, Nat.reduceEqDiff]
    simp [rep_wv, hw]
  · rintro ⟨out, i⟩ ⟨h2, h3, h4, h5, h6⟩
    dsimp only at h2 h3 h4 h5 h6 ⊢
    simp (maxSteps := 10000000) only [↓sx, sx, ↓ty, ↓reduceIte, Nat.reduceEqDiff, wv_c]
    refine vcIf_dec (fun hi => ?_) (fun hi => ?_)
    · refine ⟨by omega, by omega, ?_⟩
      refine loopK_of (fun s : List Int × Int × Nat => [(1, .p (.sl B.length (B.map wv))), (5, .orow 16), (6, .p (.val (.int .i64 (i : Nat)))), (7, .p (.val (.int .u32 (A.getD i 0)))), (8, .p (.val (.int .u64 s.2.1))), (17, .p (.sl A.length (A.map wv))), (18, .p (.val (.int .i64 (A.length : Nat)))), (19, .p (.val (.int .i64 (i : Nat)))), (24, .p (.sl B.length (B.map wv))), (25, .p (.val (.int .i64 (B.length : Nat)))), (26, .p (.val (.int .i64 (s.2.2 : Nat))))]) (fun _ => []) (fun s => [(16, ⟨109, 1, s.1.length, s.1.map wv, false⟩)]) (timesInv2 A B i) (fun s => B.length - s.2.2) (out, 0, 0) ?_ ?_ ?_
      · refine ⟨h2, h3, h4, Int.le_refl _, by dsimp only; omega, Nat.zero_le _, ?_⟩
        dsimp only
        rw [← h6, val_drop' A i, List.drop_zero, Int.pow_succ]
        simp only [Nat.add_zero]
        generalize val (A.drop (i + 1)) = p
        grind
      · simp (maxSteps := 10000000) only [isE_nil, is_cons, bo_p, bo_orow, any_cons', all_cons', all_nil', Bool.true_or, ↓sx, sx, ↓reduceIte, Nat.reduceEqDiff]
        rfl
      · rintro ⟨o, c, j⟩ ⟨g1, g2, g3, g4, g4b, g5, g6⟩
        dsimp only at g1 g2 g3 g4 g4b g5 g6 ⊢
        simp (maxSteps := 10000000) only [↓sx, sx, ↓ty, ↓reduceIte, Nat.reduceEqDiff, Nat.reduceAdd, Int.reduceEq, wv_c]
        refine vcIf_dec (fun hj => ?_) (fun hj => ?_)
        · have hx := hA.1.getD i
          have hy := hB.1.getD j
          have ho := g1.getD (i + j)
          have hs := mul_step ho hx hy ⟨g4, g4b⟩
          have e1 : IntKind.i64.wrap ((i : Int) + (j : Int)) = ((i + j : Nat) : Int) := by rw [i64_id] <;> omega
          rw [e1]
          simp only [Int.toNat_natCast]
          rw [u64_id (x := A.getD i 0) (by omega) (by omega), u64_id (x := B.getD j 0) (by omega) (by omega), u64_id (x := A.getD i 0 * B.getD j 0) (by omega) (by omega), u64_id (x := o.getD (i + j) 0) (by omega) (by omega), u64_id (x := A.getD i 0 * B.getD j 0 + o.getD (i + j) 0) (by omega) (by omega), u64_id (x := c + (A.getD i 0 * B.getD j 0 + o.getD (i + j) 0)) (by omega) (by omega)]
          generalize hs' : c + (A.getD i 0 * B.getD j 0 + o.getD (i + j) 0) = s at *
          have hs0 : 0 ≤ s ∧ s < 1000000000000000000 := by omega
          rw [tmod_pos hs0.1, tdiv_pos hs0.1, u32_id (x := s % 1000000000) (by omega) (by omega), u64_id (x := s / 1000000000) (by omega) (by omega)]
          refine ⟨by omega, by omega, by omega, by omega, by omega, by omega, ?_⟩
          refine NextK.mk (o.set (i + j) (s % 1000000000), s / 1000000000, j + 1) (by dsimp only; omega) ⟨g1.set _ (by omega) (by omega), by simp [g2], g3.set _ _ (by omega), by dsimp only; omega, by dsimp only; omega, by dsimp only; omega, ?_⟩ ?_
          · dsimp only
            rw [val_set _ _ _ (by omega), ← g6, val_drop B j (by omega), ← Nat.add_assoc, Int.pow_succ]
            have : s = 1000000000 * (s / 1000000000) + s % 1000000000 := by omega
            generalize s / 1000000000 = q at *
            generalize s % 1000000000 = t at *
            subst this
            generalize val (A.drop (i + 1)) = p1 at *
            generalize val (B.drop (j + 1)) = p2 at *
            grind
          · simp (maxSteps := 10000000) only [isE_nil, is_cons, bo_p, bo_orow, any_cons', all_cons', all_nil', Bool.true_or, ↓sx, sx, ↓reduceIte, Nat.reduceEqDiff]
            rw [set_wv _ _ _ (by omega), i64_id (by omega) (by omega)]
            simp
        · obtain rfl : j = B.length := by omega
          have e1 : IntKind.i64.wrap ((i : Int) + (B.length : Int)) = ((i + B.length : Nat) : Int) := by rw [i64_id] <;> omega
          rw [e1]
          simp only [Int.toNat_natCast]
          rw [u32_id (x := c) (by omega) (by omega)]
          refine ⟨by omega, by omega, ?_⟩
          have hz := g3 (i + B.length) (Nat.le_refl _)
          refine NextK.mk (o.set (i + B.length) c, i + 1) (by dsimp only; omega) ⟨g1.set _ g4 g4b, by simp [g2], (Zf.mono g3 (by omega)).set _ _ (by dsimp only; omega), by dsimp only; omega, ?_⟩ ?_
          · dsimp only
            rw [val_set _ _ _ (by omega), ← g6, hz, List.drop_length, val_nil]
            grind
          · simp (maxSteps := 10000000) only [isE_nil, is_cons, bo_p, bo_orow, any_cons', all_cons', all_nil', Bool.true_or, ↓sx, sx, ↓reduceIte, Nat.reduceEqDiff]
            rw [set_wv _ _ _ (by omega), i64_id (by omega) (by omega)]
            simp
    · obtain rfl : i = A.length := by omega
      rw [List.drop_length, val_nil] at h6
      refine CallT.mk (ntrim_n hG out (by omega) h2 (a * b) (by rw [Int.natCast_mul]; grind)) ?_
      simp (maxSteps := 10000000) only [↓sx, sx, ↓reduceIte]
end Go.Proofs.YtolehnkoocnenaaGreatDoor.S
namespace Gb
theorem tdm {t : Int} (h0 : -1000000000 ≤ t) (h1 : t < 2000000000) : (0 ≤ t ∧ t.tmod 1000000000 = t % 1000000000 ∧ t.tdiv 1000000000 = t / 1000000000) ∨ (t = -1000000000 ∧ t.tmod 1000000000 = 0 ∧ t.tdiv 1000000000 = -1) ∨ (-1000000000 < t ∧ t < 0 ∧ t.tmod 1000000000 = t ∧ t.tdiv 1000000000 = 0) := by
  by_cases h : 0 ≤ t
  · exact .inl ⟨h, tmod_pos h, tdiv_pos h⟩
  · right
    obtain ⟨s, rfl⟩ : ∃ s : Int, t = -s := ⟨-t, by omega⟩
    rw [Int.neg_tmod, Int.neg_tdiv, tmod_pos (by omega), tdiv_pos (by omega)]
    by_cases h2 : s = 1000000000
    · left; subst h2; omega
    · right; omega
theorem eq_dg {l : List Int} {k n : Nat} (hd : Dig l) (hl : l.length = k) (hn : n < 1000000000 ^ k) (hv : val l = n) : l = dg k n := by
  obtain ⟨h1, h2, h3⟩ := dg_spec k n
  exact Dig.inj hd h1 (by rw [hl, h2]) (by rw [hv, h3 hn])
def mres (m v : Nat) : List Int := if v < 1000000000 ^ m then dg m v else dg (m + 1) v
theorem mres_wl {a b : Nat} : mres (max (Lw a) (Lw b)) (a + b) = wl (a + b) := by
  unfold mres
  have hLa := lt_Lw a
  have hLb := lt_Lw b
  have e1 : 1000000000 ^ Lw a ≤ 1000000000 ^ max (Lw a) (Lw b) := Nat.pow_le_pow_right (by omega) (by omega)
  have e2 : 1000000000 ^ Lw b ≤ 1000000000 ^ max (Lw a) (Lw b) := Nat.pow_le_pow_right (by omega) (by omega)
  have e3 := Nat.pow_succ 1000000000 (max (Lw a) (Lw b))
  have hm : max (Lw a) (Lw b) ≤ Lw (a + b) := by
    have := Lw_mono (Nat.le_add_right a b)
    have := Lw_mono (Nat.le_add_left b a)
    omega
  split
  · rename_i h
    have := Lw_le h
    exact (eq_dg (wl_dig _) (by show Lw (a + b) = _; omega) h (wl_val _)).symm
  · rename_i h
    have hlt : a + b < 1000000000 ^ (max (Lw a) (Lw b) + 1) := by omega
    have h3 := Lw_le hlt
    have h4 := lt_Lw (a + b)
    have : Lw (a + b) ≠ max (Lw a) (Lw b) := by intro he; rw [he] at h4; exact h h4
    exact (eq_dg (wl_dig _) (by show Lw (a + b) = _; omega) hlt (wl_val _)).symm
theorem mres_dig (m v : Nat) : Dig (mres m v) := by unfold mres; split <;> exact (dg_spec _ _).1
theorem mres_len (m v : Nat) : (mres m v).length ≤ m + 1 := by unfold mres; split <;> rw [(dg_spec _ _).2.1] <;> omega
theorem mres_val {m v : Nat} (h : v < 1000000000 ^ m) : val (mres m v) = v := by unfold mres; rw [if_pos h, (dg_spec _ _).2.2 h]
end Gb
namespace Go.Proofs.YtolehnkoocnenaaGreatDoor.S
open Go Go.Sx Go.RowKit Gb
variable {G : World → Prop} (hG : ∀ w w', G w → Below w.heap.size w w' → G w')
include hG
def mergeInv (A B : List Int) (s v : Int) (x : List Int × Int × Nat) : Prop :=
  x.1.length = x.2.2 ∧ Dig x.1 ∧ (s = 1 → 0 ≤ x.2.1 ∧ x.2.1 ≤ 1) ∧ (s = -1 → -1 ≤ x.2.1 ∧ x.2.1 ≤ 0) ∧ x.2.2 ≤ max A.length B.length ∧ val x.1 + 1000000000 ^ x.2.2 * (val (A.drop x.2.2) + s * val (B.drop x.2.2) + x.2.1) = v
set_option maxRecDepth 100000 in
set_option maxHeartbeats 8000000 in
theorem nmerge_n (a b v : Nat) (s : Int) (ha : Lw a < 1000000) (hb : Lw b < 1000000) (hs : s = 1 ∨ s = -1) (hv : (v : Int) = a + s * b) : Meets Tryz.prog G 200 [nP a, nP b, .val (.int .i64 s)] (wsP (mres (max (Lw a) (Lw b)) v)) := by
  refine meets_of_vc (Y := {}) (N := 71) (rs := [.tmp 6]) mix tk hG Tryz.func200 rfl (by kernel_rfl) rfl rfl (by simp) (by kernel_rfl) ?_
  unfold Lw at *
  rw [show nP a = .sl (wl a).length ((wl a).map wv) from rfl, show nP b = .sl (wl b).length ((wl b).map wv) from rfl]
  have hA := wl_norm a
  have hB := wl_norm b
  have hva := wl_val a
  have hvb := wl_val b
  generalize wl a = A at *
  generalize wl b = B at *
  simp (maxSteps := 10000000) only [↓sx, sx, ↓ty, ↓reduceIte, Nat.reduceEqDiff, wsP_c]
  obtain ⟨M, hM⟩ : ∃ M : Nat, M = max A.length B.length := ⟨_, rfl⟩
  have hmx : (if (B.length : Int) > (A.length : Int) then (B.length : Int) else (A.length : Int)) = (M : Int) := by split <;> omega
  rw [hmx, i64_id (x := (A.length : Int) + 1) (by omega) (by omega), ← hM]
  refine ⟨by omega, ?_⟩
  refine loopK_of (fun x : List Int × Int × Nat => [(0, .p (.sl A.length (A.map wv))), (1, .p (.sl B.length (B.map wv))), (2, .p (.val (.int .i64 s))), (7, .orow 14), (8, .p (.val (.int .i64 x.2.1))), (19, .p (.val (.int .i64 (M : Nat)))), (20, .p (.val (.int .i64 (x.2.2 : Nat))))]) (fun _ => []) (fun x => [(14, ⟨109, 1, x.1.length, x.1.map wv, false⟩)]) (mergeInv A B s v) (fun x => M - x.2.2) ([], 0, 0) ?_ ?_ ?_
  · refine ⟨rfl, Dig.nil, fun _ => by dsimp only; omega, fun _ => by dsimp only; omega, Nat.zero_le _, ?_⟩
    simp [val_nil, hva, hvb, hv]
  · simp (maxSteps := 10000000) only [isE_nil, is_cons, bo_p, bo_orow, any_cons', all_cons', all_nil', Bool.true_or, ↓sx, sx, ↓reduceIte, Nat.reduceEqDiff]
    simp [rep]
  · rintro ⟨out, c, i⟩ ⟨h1, h2, h3, h4, h5, h6⟩
    dsimp only at h1 h2 h3 h4 h5 h6 ⊢
    simp (maxSteps := 10000000) only [↓sx, sx, ↓ty, ↓reduceIte, Nat.reduceEqDiff, Nat.reduceAdd, Nat.reduceLeDiff, Nat.reduceLT, Int.reduceEq, ne_eq, not_false_eq_true, wv_c]
    have hx : 0 ≤ A.getD i 0 ∧ A.getD i 0 < 1000000000 := hA.1.getD i
    have hy : 0 ≤ B.getD i 0 ∧ B.getD i 0 < 1000000000 := hB.1.getD i
    refine vcIf_dec (fun hi => ?_) (fun hi => ?_)
    · have fin : ∀ {e : Env} {h : Hp} {ρ : Rws} {t : Tag (mergeInv A B s v, (fun x : List Int × Int × Nat => M - x.2.2), e, h, ρ)} (w' c' : Int), c + A.getD i 0 + s * B.getD i 0 = w' + 1000000000 * c' → 0 ≤ w' → w' < 1000000000 →
        e 0 = .p (.sl A.length (A.map wv)) → e 1 = .p (.sl B.length (B.map wv)) → e 2 = .p (.val (.int .i64 s)) → e 7 = .orow 14 → e 8 = .p (.val (.int .i64 c')) → e 19 = .p (.val (.int .i64 (M : Nat))) → e 20 = .p (.val (.int .i64 (IntKind.i64.wrap ((i : Int) + 1)))) → ρ 14 = some ⟨109, 1, out.length + 1, out.map wv ++ [.val (.int .u32 (IntKind.u32.wrap w'))], false⟩ →
        (out.length + 1 ≤ maxLen ∧ (out.length + 1) * 4 ≤ 140737488355328) ∧ NextK (fun x : List Int × Int × Nat => [(0, .p (.sl A.length (A.map wv))), (1, .p (.sl B.length (B.map wv))), (2, .p (.val (.int .i64 s))), (7, .orow 14), (8, .p (.val (.int .i64 x.2.1))), (19, .p (.val (.int .i64 (M : Nat)))), (20, .p (.val (.int .i64 (x.2.2 : Nat))))]) (fun _ => []) (fun x => [(14, ⟨109, 1, x.1.length, x.1.map wv, false⟩)]) (mergeInv A B s v) (fun x => M - x.2.2) (out, c, i) e h ρ t := by
        intro e h ρ t w' c' hw h0 h1' e0 e1 e2 e7 e8 e19 e20 r14
        rw [u32_id h0 (by omega)] at r14
        rw [i64_id (by omega) (by omega)] at e20
        refine ⟨⟨by simp only [maxLen]; omega, by omega⟩, NextK.mk (out ++ [w'], c', i + 1) (by dsimp only; omega) ?_ ?_⟩
        · refine ⟨by simp [h1], h2.snoc h0 h1', fun hs1 => ?_, fun hs1 => ?_, by dsimp only; omega, ?_⟩
          · have := h3 hs1; subst hs1; dsimp only; omega
          · have := h4 hs1; subst hs1; dsimp only; omega
          · dsimp only
            rw [val_snoc, h1, ← h6, val_drop' A i, val_drop' B i, Int.pow_succ]
            generalize val (A.drop (i + 1)) = p1 at *
            generalize val (B.drop (i + 1)) = p2 at *
            generalize A.getD i 0 = x at *
            generalize B.getD i 0 = y at *
            have : w' = c + x + s * y - 1000000000 * c' := by omega
            subst this
            grind
        · simp (maxSteps := 10000000) only [isE_nil, is_cons, bo_p, bo_orow, any_cons', all_cons', all_nil', Bool.true_or, ↓sx, sx, e0, e1, e2, e7, e8, e19, e20, r14]
          simp [wv_c]
      have hys : -1000000000 < s * B.getD i 0 ∧ s * B.getD i 0 < 1000000000 := by rcases hs with rfl | rfl <;> omega
      have hc : -1 ≤ c ∧ c ≤ 1 := by
        rcases hs with rfl | rfl
        · have := h3 rfl; omega
        · have := h4 rfl; omega
      have ht : -1000000000 ≤ c + A.getD i 0 + s * B.getD i 0 ∧ c + A.getD i 0 + s * B.getD i 0 < 2000000000 := by
        rcases hs with rfl | rfl
        · have := h3 rfl; omega
        · have := h4 rfl; omega
      have rest : ∀ t : Int, t = c + A.getD i 0 + s * B.getD i 0 → (0 ≤ t ∧ t.tmod 1000000000 = t % 1000000000 ∧ t.tdiv 1000000000 = t / 1000000000) ∨ (t = -1000000000 ∧ t.tmod 1000000000 = 0 ∧ t.tdiv 1000000000 = -1) ∨ (-1000000000 < t ∧ t < 0 ∧ t.tmod 1000000000 = t ∧ t.tdiv 1000000000 = 0) := fun t h => tdm (by omega) (by omega)
      refine vcIf_dec (fun ha2 => ?_) (fun ha2 => ?_)
      · refine ⟨by omega, by omega, ?_⟩
        rw [i64_id (x := A.getD i 0) (by omega) (by omega), i64_id (x := c + A.getD i 0) (by omega) (by omega)]
        refine vcIf_dec (fun hb2 => ?_) (fun hb2 => ?_)
        · refine ⟨by omega, by omega, ?_⟩
          rw [i64_id (x := B.getD i 0) (by omega) (by omega), i64_id (x := s * B.getD i 0) (by omega) (by omega), i64_id (x := c + A.getD i 0 + s * B.getD i 0) (by omega) (by omega)]
          generalize htt : c + A.getD i 0 + s * B.getD i 0 = t at *
          refine vcIf_dec (fun hn => ?_) (fun hn => ?_)
          · rcases rest t rfl with ⟨q1, q2, q3⟩ | ⟨q1, q2, q3⟩ | ⟨q1, q1b, q2, q3⟩
            · omega
            · omega
            · rw [q2, q3, i64_id (x := t + 1000000000) (by omega) (by omega), i64_id (x := 0) (by omega) (by omega), i64_id (x := (0 : Int) - 1) (by omega) (by omega)]
              refine fin (t + 1000000000) (0 - 1) (by omega) (by omega) (by omega) ?_ ?_ ?_ ?_ ?_ ?_ ?_ ?_
              all_goals (simp (maxSteps := 10000000) only [↓sx, sx, ↓reduceIte, Nat.reduceEqDiff]; done)
          · rcases rest t rfl with ⟨q1, q2, q3⟩ | ⟨q1, q2, q3⟩ | ⟨q1, q1b, q2, q3⟩
            · rw [q2, q3, i64_id (x := t / 1000000000) (by omega) (by omega)]
              refine fin (t % 1000000000) (t / 1000000000) (by omega) (by omega) (by omega) ?_ ?_ ?_ ?_ ?_ ?_ ?_ ?_
              all_goals (simp (maxSteps := 10000000) only [↓sx, sx, ↓reduceIte, Nat.reduceEqDiff]; done)
            · rw [q2, q3, i64_id (x := -1) (by omega) (by omega)]
              refine fin 0 (-1) (by omega) (by omega) (by omega) ?_ ?_ ?_ ?_ ?_ ?_ ?_ ?_
              all_goals (simp (maxSteps := 10000000) only [↓sx, sx, ↓reduceIte, Nat.reduceEqDiff]; done)
            · omega
        · have h8 : B.getD i 0 = 0 := getD_out (by omega)
          rw [h8, Int.mul_zero, Int.add_zero] at rest fin
          generalize htt : c + A.getD i 0 = t at *
          refine vcIf_dec (fun hn => ?_) (fun hn => ?_)
          · rcases rest t rfl with ⟨q1, q2, q3⟩ | ⟨q1, q2, q3⟩ | ⟨q1, q1b, q2, q3⟩
            · omega
            · omega
            · rw [q2, q3, i64_id (x := t + 1000000000) (by omega) (by omega), i64_id (x := 0) (by omega) (by omega), i64_id (x := (0 : Int) - 1) (by omega) (by omega)]
              refine fin (t + 1000000000) (0 - 1) (by omega) (by omega) (by omega) ?_ ?_ ?_ ?_ ?_ ?_ ?_ ?_
              all_goals (simp (maxSteps := 10000000) only [↓sx, sx, ↓reduceIte, Nat.reduceEqDiff]; done)
          · rcases rest t rfl with ⟨q1, q2, q3⟩ | ⟨q1, q2, q3⟩ | ⟨q1, q1b, q2, q3⟩
            · rw [q2, q3, i64_id (x := t / 1000000000) (by omega) (by omega)]
              refine fin (t % 1000000000) (t / 1000000000) (by omega) (by omega) (by omega) ?_ ?_ ?_ ?_ ?_ ?_ ?_ ?_
              all_goals (simp (maxSteps := 10000000) only [↓sx, sx, ↓reduceIte, Nat.reduceEqDiff]; done)
            · rw [q2, q3, i64_id (x := -1) (by omega) (by omega)]
              refine fin 0 (-1) (by omega) (by omega) (by omega) ?_ ?_ ?_ ?_ ?_ ?_ ?_ ?_
              all_goals (simp (maxSteps := 10000000) only [↓sx, sx, ↓reduceIte, Nat.reduceEqDiff]; done)
            · omega
      · have h7 : A.getD i 0 = 0 := getD_out (by omega)
        rw [h7, Int.add_zero] at rest fin ht
        refine vcIf_dec (fun hb2 => ?_) (fun hb2 => ?_)
        · refine ⟨by omega, by omega, ?_⟩
          rw [i64_id (x := B.getD i 0) (by omega) (by omega), i64_id (x := s * B.getD i 0) (by omega) (by omega), i64_id (x := c + s * B.getD i 0) (by omega) (by omega)]
          generalize htt : c + s * B.getD i 0 = t at *
          refine vcIf_dec (fun hn => ?_) (fun hn => ?_)
          · rcases rest t rfl with ⟨q1, q2, q3⟩ | ⟨q1, q2, q3⟩ | ⟨q1, q1b, q2, q3⟩
            · omega
            · omega
            · rw [q2, q3, i64_id (x := t + 1000000000) (by omega) (by omega), i64_id (x := 0) (by omega) (by omega), i64_id (x := (0 : Int) - 1) (by omega) (by omega)]
              refine fin (t + 1000000000) (0 - 1) (by omega) (by omega) (by omega) ?_ ?_ ?_ ?_ ?_ ?_ ?_ ?_
              all_goals (simp (maxSteps := 10000000) only [↓sx, sx, ↓reduceIte, Nat.reduceEqDiff]; done)
          · rcases rest t rfl with ⟨q1, q2, q3⟩ | ⟨q1, q2, q3⟩ | ⟨q1, q1b, q2, q3⟩
            · rw [q2, q3, i64_id (x := t / 1000000000) (by omega) (by omega)]
              refine fin (t % 1000000000) (t / 1000000000) (by omega) (by omega) (by omega) ?_ ?_ ?_ ?_ ?_ ?_ ?_ ?_
              all_goals (simp (maxSteps := 10000000) only [↓sx, sx, ↓reduceIte, Nat.reduceEqDiff]; done)
            · rw [q2, q3, i64_id (x := -1) (by omega) (by omega)]
              refine fin 0 (-1) (by omega) (by omega) (by omega) ?_ ?_ ?_ ?_ ?_ ?_ ?_ ?_
              all_goals (simp (maxSteps := 10000000) only [↓sx, sx, ↓reduceIte, Nat.reduceEqDiff]; done)
            · omega
        · omega
    · obtain rfl : i = M := by omega
      rw [List.drop_eq_nil_of_le (show A.length ≤ i by omega), List.drop_eq_nil_of_le (show B.length ≤ i by omega)] at h6
      simp only [val_nil, Int.mul_zero, Int.add_zero, Int.zero_add] at h6
      have hvl := val_bounds h2
      rw [h1, ← cast_pow] at hvl
      rw [← cast_pow] at h6
      have hc : -1 ≤ c ∧ c ≤ 1 := by
        rcases hs with rfl | rfl
        · have := h3 rfl; omega
        · have := h4 rfl; omega
      have hP : 0 < 1000000000 ^ i := Nat.pow_pos (by omega)
      generalize hPg : (1000000000 ^ i : Nat) = P at *
      have hc0 : 0 ≤ c := by
        apply Classical.byContradiction
        intro hn
        obtain rfl : c = -1 := by omega
        omega
      refine vcIf_dec (fun h => ?_) (fun h => ?_)
      · obtain rfl : c = 1 := by omega
        rw [u32_id (by omega) (by omega)]
        refine ⟨⟨by simp only [maxLen]; omega, by omega⟩, ?_⟩
        have : out ++ [1] = mres i v := by
          unfold mres
          rw [hPg, if_neg (by omega)]
          refine eq_dg (h2.snoc (by omega) (by omega)) (by simp [h1]) (by rw [Nat.pow_succ, hPg]; omega) ?_
          rw [val_snoc, h1, ← cast_pow, hPg]
          omega
        rw [← this]
        simp [wv_c]
      · obtain rfl : c = 0 := by omega
        have : out = mres i v := by
          unfold mres
          rw [hPg, if_pos (by omega)]
          exact eq_dg h2 h1 (by rw [hPg]; omega) (by omega)
        rw [← this]
set_option maxRecDepth 100000 in
theorem nplus_n (a b : Nat) (ha : Lw a < 1000000) (hb : Lw b < 1000000) : Meets Tryz.prog G 177 [nP a, nP b] (nP (a + b)) := by
  refine meets_of_vc (Y := {}) (N := 8) (rs := [.tmp 4]) mix tk hG Tryz.func177 rfl (by kernel_rfl) rfl rfl (by simp) (by kernel_rfl) ?_
  simp (maxSteps := 10000000) only [↓sx, sx, ↓ty, ↓reduceIte, Nat.reduceEqDiff, nP_c]
  refine CallT.mk (nmerge_n hG a b (a + b) 1 ha hb (.inl rfl) (by omega)) ?_
  rw [mres_wl]
  simp (maxSteps := 10000000) only [↓sx, sx, wsP_c]
set_option maxRecDepth 100000 in
theorem nminus_n (a b : Nat) (ha : Lw a < 1000000) (hb : Lw b < 1000000) (hle : b ≤ a) : Meets Tryz.prog G 179 [nP a, nP b] (nP (a - b)) := by
  refine meets_of_vc (Y := {}) (N := 9) (rs := [.tmp 4]) mix tk hG Tryz.func179 rfl (by kernel_rfl) rfl rfl (by simp) (by kernel_rfl) ?_
  simp (maxSteps := 10000000) only [↓sx, sx, ↓ty, ↓reduceIte, Nat.reduceEqDiff, nP_c]
  refine CallT.mk (nmerge_n hG a b (a - b) (-1) ha hb (.inr rfl) (by omega)) ?_
  simp (maxSteps := 10000000) only [↓sx, sx, ↓reduceIte, wsP_c]
  have hlt : a - b < 1000000000 ^ max (Lw a) (Lw b) := Nat.lt_of_le_of_lt (Nat.sub_le a b) (Nat.lt_of_lt_of_le (lt_Lw a) (Nat.pow_le_pow_right (by omega) (by omega)))
  refine CallT.mk (ntrim_n hG _ (by have := mres_len (max (Lw a) (Lw b)) (a - b); omega) (mres_dig _ _) (a - b) (mres_val hlt)) ?_
  simp (maxSteps := 10000000) only [↓sx, sx, nP_c]
end Go.Proofs.YtolehnkoocnenaaGreatDoor.S
namespace Go.Proofs.YtolehnkoocnenaaGreatDoor.S
open Go Go.RowKit
def slLen : Value → Nat | .slice _ n _ => n | _ => 0
set_option maxRecDepth 100000 in
set_option maxHeartbeats 4000000 in
theorem trim_calls (a : Option Addr) (n c : Nat) (z : Nat → Int) (hn : n < 1000000000000) (hnc : n ≤ c) (w : World) (hc : ∀ j, j < n → ∃ ad, a = some ad ∧ w.cell? (ad.add j) = some (.int .u32 (z j))) :
    Calls Tryz.prog 176 #[.slice a n c] w fun e w' => w' = w ∧ ∃ m, m ≤ n ∧ e = .returned (.slice a m c) ∧ (∀ j, m ≤ j → j < n → z j = 0) ∧ (m = 0 ∨ z (m - 1) ≠ 0) := by
  go_enter Tryz.func176, Tryz.ntmps176
  go_wp2
  go_loop [0] (fun v => ∃ m : Nat, m ≤ n ∧ v = .slice a m c ∧ ∀ j, m ≤ j → j < n → z j = 0) (fun v => slLen v)
  case atStart => exact ⟨n, Nat.le_refl _, rfl, fun j h1 h2 => by omega⟩
  case round =>
    obtain ⟨m, hm, rfl, hz⟩ := hrel
    cases m with
    | zero =>
      go_wp2
      go_ret
      exact ⟨rfl, 0, Nat.zero_le _, rfl, fun j _ h => hz j (Nat.zero_le _) h, .inl rfl⟩
    | succ m =>
      obtain ⟨ad, rfl, hcm⟩ := hc m (by omega)
      go_wp2
      · refine ⟨⟨m, by omega, rfl, fun j h1 h2 => ?_⟩, by simp [slLen]⟩
        by_cases hj : j = m
        · subst hj
          rename_i hb
          simpa using hb
        · exact hz j (by omega) h2
      · go_ret
        rename_i hb _
        exact ⟨rfl, m + 1, hm, rfl, hz, .inr (by simpa using hb)⟩
end Go.Proofs.YtolehnkoocnenaaGreatDoor.S
namespace Gb
theorem trim_take {l : List Int} (hd : Dig l) {n m : Nat} (hv : val l = n) (hm : m ≤ l.length) (hz : ∀ j, m ≤ j → j < l.length → l.getD j 0 = 0) (hne : m = 0 ∨ l.getD (m - 1) 0 ≠ 0) : l.take m = wl n := by
  have hdrop : val (l.drop m) = 0 := by
    have : l.drop m = List.replicate (l.length - m) 0 := by
      apply List.ext_getElem
      · simp
      · intro i h1 h2
        rw [List.length_drop] at h1
        have := hz (m + i) (by omega) (by omega)
        rw [List.getD_eq_getElem?_getD, List.getElem?_eq_getElem (by omega)] at this
        simpa using this
    rw [this, val_replicate]
  refine eq_wl ⟨hd.take m, fun hne2 => ?_⟩ ?_
  · have hl : (l.take m).length = m := by rw [List.length_take]; omega
    rw [hl]
    have hm0 : m ≠ 0 := by intro h; subst h; simp at hne2
    rcases hne with h | h
    · exact absurd h hm0
    · rw [List.getD_eq_getElem?_getD, List.getElem?_take_of_lt (by omega), ← List.getD_eq_getElem?_getD]; exact h
  · have := val_take_drop l m hm
    rw [hdrop, hv] at this
    omega
end Gb
namespace Go.Proofs.YtolehnkoocnenaaGreatDoor.S
open Go Go.Sx Go.RowKit Gb
variable {G : World → Prop} (hG : ∀ w w', G w → Below w.heap.size w w' → G w')
include hG
set_option maxRecDepth 100000 in
theorem ntrim_t (l : List Int) (hl : l.length < 1000000000000) (hd : Dig l) (n : Nat) (hv : val l = n) : MeetsT Tryz.prog G 176 ⟨109, 1, l.length, l.map wv, false⟩ ⟨109, 1, (wl n).length, (wl n).map wv, false⟩ := by
  refine ⟨(ntrim_c hG l hl).ent, ?_⟩
  intro B v us w hB hown hrep hgr
  have hlen : us.length = l.length := by have := hrep.length; simpa using this
  have hus : ∀ j, j < l.length → us[j]? = some (.int .u32 (l.getD j 0)) := by
    intro j hj
    obtain ⟨x, h1, h2⟩ := hrep.get j (wv (l.getD j 0)) (by rw [List.getElem?_map, List.getElem?_eq_getElem hj, List.getD_eq_getElem?_getD, List.getElem?_eq_getElem hj]; rfl)
    rw [wv_c] at h2
    simp only [RepP] at h2
    rw [h1, h2]
  rcases hown.2 with ⟨hv0, hn0⟩ | ⟨g, cap, cur, hv0, hb, hg, h3, h4, h5, h6⟩
  · have hl0 : l = [] := List.eq_nil_of_length_eq_zero hn0
    subst hl0
    have hn : n = 0 := by rw [val_nil] at hv; omega
    subst hn
    have := trim_calls none 0 0 (fun _ => 0) (by omega) (Nat.le_refl _) w (fun j hj => by omega)
    rw [hv0]
    refine this.mono ?_
    rintro en w' ⟨rfl, m, hm, rfl, _, _⟩
    obtain rfl : m = 0 := by omega
    refine ⟨_, [], rfl, grownBy_refl _ _, ?_, ?_, rfl⟩
    · rw [wl_zero]; exact World.ownsRow_nil _ 0 _ _
    · rw [wl_zero]; simp [RepL]
  · have := trim_calls (some ⟨g, 0, none⟩) l.length cap (fun j => l.getD j 0) hl h3 w (fun j hj => ⟨_, rfl, ?_⟩)
    · rw [hv0]
      refine this.mono ?_
      rintro en w' ⟨rfl, m, hm, rfl, hz, hne⟩
      have ht := trim_take hd hv hm hz hne
      have hwl : (wl n).length = m := by rw [← ht, List.length_take]; omega
      refine ⟨_, us.take m, rfl, grownBy_refl _ _, ?_, ?_, rfl⟩
      · rw [hwl]
        refine ⟨by rw [List.length_take]; show min m us.length = m * 1; omega, .inr ⟨g, cap, cur, rfl, hb, hg, by show m ≤ cap; have : l.length ≤ cap := h3; omega, h4, h5, ?_⟩⟩
        show cur.toList.take (m * 1) = us.take m
        rw [← h6, List.take_take]
        show _ = cur.toList.take (min m (l.length * 1))
        congr 1
        omega
      · rw [← ht, List.map_take]
        refine RepL.take m (RepL.mono (fun b hb => ⟨⟨.inl hb, (hB b hb).1, ?_⟩, rfl⟩) _ _ hrep)
        have := (hB b hb).2
        rw [hv0] at this
        exact this
    · have := hown.cells (by rw [hv0]; rfl : v.ownBlock = some g) j _ (hus j hj)
      exact this
end Go.Proofs.YtolehnkoocnenaaGreatDoor.S
namespace Go.Proofs.YtolehnkoocnenaaGreatDoor.S
open Go Go.Sx Go.RowKit Gb
variable {G : World → Prop} (hG : ∀ w w', G w → Below w.heap.size w w' → G w')
include hG
set_option maxRecDepth 100000 in
set_option maxHeartbeats 8000000 in
theorem ntimes_r (a b : Nat) (ha : Lw a < 1000000) (hb : Lw b < 1000000) : MeetsR Tryz.prog G 160 [nP a, nP b] ⟨109, 1, (wl (a * b)).length, (wl (a * b)).map wv, false⟩ := by
  refine meetsR_of_vc (Y := { tc := [176] }) (N := 68) (t := 4) mix tk hG Tryz.func160 rfl (by kernel_rfl) rfl rfl (by simp) (by kernel_rfl) rfl ?_
  unfold Lw at ha hb
  rw [show nP a = .sl (wl a).length ((wl a).map wv) from rfl, show nP b = .sl (wl b).length ((wl b).map wv) from rfl]
  have hA := wl_norm a
  have hB := wl_norm b
  have hva := wl_val a
  have hvb := wl_val b
  generalize wl a = A at *
  generalize wl b = B at *
  simp (maxSteps := 10000000) only [↓sx, sx, ↓ty, ↓reduceIte, Nat.reduceEqDiff]
  have hw : IntKind.i64.wrap ((A.length : Int) + (B.length : Int)) = ((A.length + B.length : Nat) : Int) := by rw [i64_id] <;> omega
  rw [hw]
  refine ⟨by omega, ?_⟩
  refine loopK_of (fun s : List Int × Nat => [(1, .p (.sl B.length (B.map wv))), (5, .orow 16), (17, .p (.sl A.length (A.map wv))), (18, .p (.val (.int .i64 (A.length : Nat)))), (19, .p (.val (.int .i64 (s.2 : Nat))))]) (fun _ => []) (fun s => [(16, ⟨109, 1, s.1.length, s.1.map wv, false⟩)]) (timesInv A B) (fun s => A.length - s.2) (List.replicate (A.length + B.length) 0, 0) ?_ ?_ ?_
  · refine ⟨Dig.replicate _, by simp, Zf.replicate _ _, Nat.zero_le _, ?_⟩
    simp [val_replicate]
  · simp (maxSteps := 10000000) only [isE_nil, is_cons, bo_p, bo_orow, any_cons', all_cons', all_nil', Bool.true_or, ↓sx, sx, ↓reduceIte, Nat.reduceEqDiff]
    simp [rep_wv, hw]
  · rintro ⟨out, i⟩ ⟨h2, h3, h4, h5, h6⟩
    dsimp only at h2 h3 h4 h5 h6 ⊢
    simp (maxSteps := 10000000) only [↓sx, sx, ↓ty, ↓reduceIte, Nat.reduceEqDiff, wv_c]
    refine vcIf_dec (fun hi => ?_) (fun hi => ?_)
    · refine ⟨by omega, by omega, ?_⟩
      refine loopK_of (fun s : List Int × Int × Nat => [(1, .p (.sl B.length (B.map wv))), (5, .orow 16), (6, .p (.val (.int .i64 (i : Nat)))), (7, .p (.val (.int .u32 (A.getD i 0)))), (8, .p (.val (.int .u64 s.2.1))), (17, .p (.sl A.length (A.map wv))), (18, .p (.val (.int .i64 (A.length : Nat)))), (19, .p (.val (.int .i64 (i : Nat)))), (24, .p (.sl B.length (B.map wv))), (25, .p (.val (.int .i64 (B.length : Nat)))), (26, .p (.val (.int .i64 (s.2.2 : Nat))))]) (fun _ => []) (fun s => [(16, ⟨109, 1, s.1.length, s.1.map wv, false⟩)]) (timesInv2 A B i) (fun s => B.length - s.2.2) (out, 0, 0) ?_ ?_ ?_
      · refine ⟨h2, h3, h4, Int.le_refl _, by dsimp only; omega, Nat.zero_le _, ?_⟩
        dsimp only
        rw [← h6, val_drop' A i, List.drop_zero, Int.pow_succ]
        simp only [Nat.add_zero]
        generalize val (A.drop (i + 1)) = p
        grind
      · simp (maxSteps := 10000000) only [isE_nil, is_cons, bo_p, bo_orow, any_cons', all_cons', all_nil', Bool.true_or, ↓sx, sx, ↓reduceIte, Nat.reduceEqDiff]
        rfl
      · rintro ⟨o, c, j⟩ ⟨g1, g2, g3, g4, g4b, g5, g6⟩
        dsimp only at g1 g2 g3 g4 g4b g5 g6 ⊢
        simp (maxSteps := 10000000) only [↓sx, sx, ↓ty, ↓reduceIte, Nat.reduceEqDiff, Nat.reduceAdd, Int.reduceEq, wv_c]
        refine vcIf_dec (fun hj => ?_) (fun hj => ?_)
        · have hx := hA.1.getD i
          have hy := hB.1.getD j
          have ho := g1.getD (i + j)
          have hs := mul_step ho hx hy ⟨g4, g4b⟩
          have e1 : IntKind.i64.wrap ((i : Int) + (j : Int)) = ((i + j : Nat) : Int) := by rw [i64_id] <;> omega
          rw [e1]
          simp only [Int.toNat_natCast]
          rw [u64_id (x := A.getD i 0) (by omega) (by omega), u64_id (x := B.getD j 0) (by omega) (by omega), u64_id (x := A.getD i 0 * B.getD j 0) (by omega) (by omega), u64_id (x := o.getD (i + j) 0) (by omega) (by omega), u64_id (x := A.getD i 0 * B.getD j 0 + o.getD (i + j) 0) (by omega) (by omega), u64_id (x := c + (A.getD i 0 * B.getD j 0 + o.getD (i + j) 0)) (by omega) (by omega)]
          generalize hs' : c + (A.getD i 0 * B.getD j 0 + o.getD (i + j) 0) = s at *
          have hs0 : 0 ≤ s ∧ s < 1000000000000000000 := by omega
          rw [tmod_pos hs0.1, tdiv_pos hs0.1, u32_id (x := s % 1000000000) (by omega) (by omega), u64_id (x := s / 1000000000) (by omega) (by omega)]
          refine ⟨by omega, by omega, by omega, by omega, by omega, by omega, ?_⟩
          refine NextK.mk (o.set (i + j) (s % 1000000000), s / 1000000000, j + 1) (by dsimp only; omega) ⟨g1.set _ (by omega) (by omega), by simp [g2], g3.set _ _ (by omega), by dsimp only; omega, by dsimp only; omega, by dsimp only; omega, ?_⟩ ?_
          · dsimp only
            rw [val_set _ _ _ (by omega), ← g6, val_drop B j (by omega), ← Nat.add_assoc, Int.pow_succ]
            have : s = 1000000000 * (s / 1000000000) + s % 1000000000 := by omega
            generalize s / 1000000000 = q at *
            generalize s % 1000000000 = t at *
            subst this
            generalize val (A.drop (i + 1)) = p1 at *
            generalize val (B.drop (j + 1)) = p2 at *
            grind
          · simp (maxSteps := 10000000) only [isE_nil, is_cons, bo_p, bo_orow, any_cons', all_cons', all_nil', Bool.true_or, ↓sx, sx, ↓reduceIte, Nat.reduceEqDiff]
            rw [set_wv _ _ _ (by omega), i64_id (by omega) (by omega)]
            simp
        · obtain rfl : j = B.length := by omega
          have e1 : IntKind.i64.wrap ((i : Int) + (B.length : Int)) = ((i + B.length : Nat) : Int) := by rw [i64_id] <;> omega
          rw [e1]
          simp only [Int.toNat_natCast]
          rw [u32_id (x := c) (by omega) (by omega)]
          refine ⟨by omega, by omega, ?_⟩
          have hz := g3 (i + B.length) (Nat.le_refl _)
          refine NextK.mk (o.set (i + B.length) c, i + 1) (by dsimp only; omega) ⟨g1.set _ g4 g4b, by simp [g2], (Zf.mono g3 (by omega)).set _ _ (by dsimp only; omega), by dsimp only; omega, ?_⟩ ?_
          · dsimp only
            rw [val_set _ _ _ (by omega), ← g6, hz, List.drop_length, val_nil]
            grind
          · simp (maxSteps := 10000000) only [isE_nil, is_cons, bo_p, bo_orow, any_cons', all_cons', all_nil', Bool.true_or, ↓sx, sx, ↓reduceIte, Nat.reduceEqDiff]
            rw [set_wv _ _ _ (by omega), i64_id (by omega) (by omega)]
            simp
    · obtain rfl : i = A.length := by omega
      rw [List.drop_length, val_nil] at h6
      refine CallTT.mk (ntrim_t hG out (by omega) h2 (a * b) (by rw [Int.natCast_mul]; grind)) ?_
      simp (maxSteps := 10000000) only [↓sx, sx, ↓reduceIte]
end Go.Proofs.YtolehnkoocnenaaGreatDoor.S
namespace Go.Proofs.YtolehnkoocnenaaGreatDoor.S
open Go Go.Sx Go.RowKit Gb
variable {G : World → Prop} (hG : ∀ w w', G w → Below w.heap.size w w' → G w')
include hG
omit hG in
theorem Lw2_lt {a : Nat} (h : Lw a ≤ 2) : a < 1000000000000000000 := by
  have h1 := lt_Lw a
  have h2 : 1000000000 ^ Lw a ≤ 1000000000 ^ 2 := Nat.pow_le_pow_right (by omega) h
  omega
set_option maxRecDepth 100000 in
set_option maxHeartbeats 20000000 in
theorem ndivide_n (a b : Nat) (ha : Lw a < 1000000) (hb : Lw b < 1000000) (hb0 : 0 < b) : Meets Tryz.prog G 192 [nP a, nP b] (.tup [nP (a / b), nP (a % b)]) := by
  refine meets_of_vc (Y := { fc := [160], ct := [3] }) (N := 299) (rs := [.tmp 4, .tmp 5]) mix tk hG Tryz.func192 rfl (by kernel_rfl) rfl rfl (by simp) (by kernel_rfl) ?_
  have hA := wl_norm a
  have hB := wl_norm b
  have hva := wl_val a
  have hvb := wl_val b
  have hla : (wl a).length < 1000000 := ha
  have hlb : (wl b).length < 1000000 := hb
  have hbne : wl b ≠ [] := by rw [wl_pos (by omega)]; simp
  have hbl := List.length_pos_iff.2 hbne
  simp (maxSteps := 10000000) only [↓sx, sx, ↓ty, ↓reduceIte, Nat.reduceEqDiff, Nat.reduceBeqDiff, Nat.reduceAdd, Nat.reduceLeDiff, ne_eq, not_false_eq_true, nP_c]
  refine CallT.mk (ncmp_n hG a b (by omega) (by omega)) ?_
  simp (maxSteps := 10000000) only [↓sx, sx, ↓reduceIte, Nat.reduceEqDiff, Nat.reduceAdd, iP_c]
  refine vcIf_dec (fun hlt => ?_) (fun hlt => ?_)
  · have : (a : Int) < b := by
      rw [cmpI] at hlt
      split at hlt
      · assumption
      · split at hlt <;> omega
    rw [Nat.div_eq_of_lt (by omega), Nat.mod_eq_of_lt (by omega), wl_zero]
    rfl
  have hba : b ≤ a := by
    rw [cmpI] at hlt
    split at hlt <;> omega
  have hLba : Lw b ≤ Lw a := Lw_mono hba
  by_cases ha2 : Lw a ≤ 2
  · have hb2 : Lw b ≤ 2 := by omega
    have bx := Lw2_lt ha2
    have by_ := Lw2_lt hb2
    refine CallT.mk (by have := nsmall_n hG a (by omega); rw [if_pos ha2, decide_eq_true ha2] at this; exact this) ?_
    simp (maxSteps := 10000000) only [↓sx, sx, ↓reduceIte, Nat.reduceEqDiff]
    refine CallT.mk (by have := nsmall_n hG b (by omega); rw [if_pos hb2, decide_eq_true hb2] at this; exact this) ?_
    simp (maxSteps := 10000000) only [↓sx, sx, ↓reduceIte, Nat.reduceEqDiff, Nat.reduceLT]
    have hq : a / b ≤ a := Nat.div_le_self a b
    have hm : a % b < b := Nat.mod_lt _ hb0
    have e1 : IntKind.u64.wrap ((a : Int).tdiv b) = ((a / b : Nat) : Int) := by
      rw [tdiv_pos (by omega), ← Int.natCast_ediv]
      generalize a / b = q at *
      rw [u64_id (by omega) (by omega)]
    have e2 : (a : Int).tmod b = ((a % b : Nat) : Int) := by rw [tmod_pos (by omega), Int.natCast_emod]
    refine ⟨by omega, CallT.to (nof_n hG (a / b) (by omega)) (by rw [e1]) ?_⟩
    simp (maxSteps := 10000000) only [↓sx, sx, ↓reduceIte, Nat.reduceEqDiff, nP_c]
    refine ⟨by omega, CallT.to (nof_n hG (a % b) (by omega)) (by rw [e2]) ?_⟩
    simp (maxSteps := 10000000) only [↓sx, sx, nP_c]
  have ha3 : 3 ≤ (wl a).length := by show 3 ≤ Lw a; omega
  refine CallT.mk (by have := nsmall_n hG a (by omega); rw [if_neg ha2, decide_eq_false ha2] at this; exact this) ?_
  simp (maxSteps := 10000000) only [↓sx, sx, ↓reduceIte, Nat.reduceEqDiff]
  refine CallT.mk (nsmall_n hG b (by omega)) ?_
  simp (maxSteps := 10000000) only [↓sx, sx, ↓ty, ↓reduceIte, Nat.reduceEqDiff, Nat.reduceLT, wv_c]
  refine vcIf_b (fun h1 => ?_) (fun h1 => ?_)
  · have h1 : (wl b).length = 1 := by simp at h1; omega
    obtain ⟨x, hx⟩ := List.length_eq_one_iff.1 h1
    have hxb : x = (b : Int) := by rw [← hvb, hx]; simp [val]
    subst hxb
    have hxd := hB.1 b (by rw [hx]; simp)
    refine ⟨by omega, by omega, ?_⟩
    refine CallT.to (nby_n hG a b ha hb0 (by omega)) (by rw [hx, List.getD_cons_zero, u64_id (by omega) (by omega)]; rfl) ?_
    simp (maxSteps := 10000000) only [↓sx, sx, nP_c]
  · have h1 : 2 ≤ (wl b).length := by simp at h1; omega
    have hw : IntKind.i64.wrap (((wl b).length : Int) - 1) = (((wl b).length - 1 : Nat) : Int) := by rw [i64_id] <;> omega
    rw [hw, Int.toNat_natCast]
    have htop := hB.2 hbne
    have hbt := hB.1.getD ((wl b).length - 1)
    generalize hx : (wl b).getD ((wl b).length - 1) 0 = x at *
    obtain ⟨s1, s2, s3⟩ := scale_ok (x := x) (by omega)
    generalize hs : 1000000000 / (x + 1) = s at *
    have e1 : IntKind.u64.wrap (Int.tdiv 1000000000 (IntKind.u64.wrap (IntKind.u64.wrap x + 1))) = s := by
      rw [u64_id (x := x) (by omega) (by omega), u64_id (x := x + 1) (by omega) (by omega), tdiv_pos (by decide), hs, u64_id (x := s) (by omega) (by omega)]
    have e2 : ¬ IntKind.u64.wrap (IntKind.u64.wrap x + 1) = 0 := by
      rw [u64_id (x := x) (by omega) (by omega), u64_id (x := x + 1) (by omega) (by omega)]; omega
    obtain ⟨σ, hσ⟩ : ∃ σ : Nat, s = (σ : Int) := ⟨s.toNat, by omega⟩
    refine ⟨by omega, by omega, e2, ?_⟩
    refine CallT.to (nof_n hG σ (by omega)) (by rw [e1, hσ]) ?_
    have hwσ : wl σ = [s] := by
      rw [wl_pos (by omega), show σ / 1000000000 = 0 by omega, wl_zero, show ((σ % 1000000000 : Nat) : Int) = s by omega]
    have hLσ : Lw σ = 1 := by unfold Lw; rw [hwσ]; rfl
    simp (maxSteps := 10000000) only [↓sx, sx, ↓reduceIte, Nat.reduceEqDiff, nP_c]
    refine CallFT.mk (ntimes_r hG a σ ha (by omega)) ?_
    simp (maxSteps := 10000000) only [↓sx, sx, ↓ty, ↓reduceIte, Nat.reduceEqDiff, Nat.reduceAdd, Nat.reduceLT]
    have hwd := wl_norm (a * σ)
    have hwv := wl_val (a * σ)
    have hLa : (wl (a * σ)).length ≤ (wl a).length + 1 := by have := Lw_mul a σ; rw [hLσ] at this; exact this
    have hLa2 : (wl a).length ≤ (wl (a * σ)).length := Lw_mono (Nat.le_mul_of_pos_right a (by omega))
    have hab : (wl b).length ≤ (wl a).length := Lw_mono hba
    refine ⟨⟨by simp only [maxLen]; omega, by omega⟩, CallFT.mk (ntimes_r hG b σ hb (by omega)) ?_⟩
    simp (maxSteps := 10000000) only [↓sx, sx, ↓ty, ↓reduceIte, Nat.reduceEqDiff, Nat.reduceAdd, Nat.reduceLT]
    refine vcIf_b (fun h2 => ?_) (fun h2 => ?_)
    · exfalso
      rw [beq_iff_eq] at h2
      omega
    have hv := wl_norm (b * σ)
    have hvv := wl_val (b * σ)
    have hvl : (wl (b * σ)).length = (wl b).length := scaled_len hB hbne hv s s1 (by rw [hx]; exact s3) (by rw [hvv, hvb, hσ, Int.natCast_mul])
    have hul0 : (wl (a * σ) ++ [0]).length = (wl (a * σ)).length + 1 := by simp
    have hn1 : IntKind.i64.wrap ((((wl (a * σ)).length + 1 : Nat) : Int) - ((wl (b * σ)).length : Int)) = (((wl (a * σ)).length + 1 - (wl (b * σ)).length : Nat) : Int) := by rw [i64_id] <;> omega
    have hn2 : IntKind.i64.wrap ((((wl (a * σ)).length + 1 - (wl (b * σ)).length : Nat) : Int) - 1) = (((wl (a * σ)).length + 1 - (wl (b * σ)).length : Nat) : Int) - 1 := by rw [i64_id] <;> omega
    rw [hn1]
    refine ⟨⟨by omega, by omega, by omega, by omega⟩, ?_⟩
    have hu0 : Dig (wl (a * σ) ++ [0]) := hwd.1.append (Dig.cons (by omega) (by omega) Dig.nil)
    have huv0 : val (wl (a * σ) ++ [0]) = val (wl a) * s := by
      rw [val_append, hwv, hva, hσ]; simp [val]
    have hucs : List.map wv (wl (a * σ) ++ [0]) = List.map wv (wl (a * σ)) ++ [.val (.int .u32 0)] := by
      rw [List.map_append]; rfl
    have hhead := scaled_head hA.1 hB hbne hu0 s s1 huv0 (by omega) (by omega) (val (wl (b * σ))) (by rw [hvv, hvb, hσ, Int.natCast_mul])
    rw [hul0] at hhead
    have hvtop := hv.2 (by intro h; rw [h] at hvl; simp at hvl; omega)
    have hvp : 0 < val (wl (b * σ)) := hv.pos (by intro h; rw [h] at hvl; simp at hvl; omega)
    generalize hgL : (wl (a * σ)).length + 1 = L at *
    generalize hgu : wl (a * σ) ++ [0] = u0 at *
    generalize hgv : wl (b * σ) = v at *
    rw [← hvl] at hhead
    refine loopK_of (fun x : List Int × List Int × Nat => [(10, .p (.sl 1 [wv s])), (11, .orow 83), (12, .orow 88), (13, .p (.val (.int .i64 (v.length : Nat)))), (14, .orow 103), (15, .p (.val (.int .i64 ((x.2.2 : Int) - 1))))]) (fun _ => []) (fun x => [(83, ⟨109, 1, x.1.length, x.1.map wv, false⟩), (88, ⟨109, 1, v.length, v.map wv, false⟩), (103, ⟨109, 1, x.2.1.length, x.2.1.map wv, false⟩)]) (overInv v L (val (wl a) * s)) (fun x => x.2.2) (u0, List.replicate (L - v.length) 0, L - v.length) ?_ ?_ ?_
    · refine ⟨by dsimp only; omega, hu0, hul0, Dig.replicate _, by simp, fun j _ => Zf.replicate _ 0 j (Nat.zero_le _), hhead, ?_⟩
      simp [val_replicate, huv0]
    · simp (maxSteps := 10000000) only [isE_nil, is_cons, bo_p, bo_orow, any_cons', all_cons', all_nil', Bool.true_or, Bool.or_true, ↓sx, sx, ↓reduceIte, Nat.reduceEqDiff, Nat.reduceBeqDiff, hn2]
      rw [hwσ, hul0, rep_wv, List.length_replicate, hucs]
      exact ⟨rfl, rfl, rfl⟩
    · rintro ⟨u, q, m⟩ ⟨i1, i2, i3, i4, i5, i6, i7, i8⟩
      dsimp only at i1 i2 i3 i4 i5 i6 i7 i8 ⊢
      simp (maxSteps := 10000000) only [↓sx, sx, ↓ty, ↓reduceIte, Nat.reduceEqDiff, Nat.reduceBeqDiff, wv_c]
      refine vcIf_dec (fun hm => ?_) (fun hm => ?_)
      · obtain ⟨k, rfl⟩ : ∃ k, m = k + 1 := ⟨m - 1, by omega⟩
        rw [show (((k + 1 : Nat) : Int) - 1) = (k : Int) by omega]
        have g : Guess u v k := ⟨i2, hv.1, by omega, by omega, by omega, hvtop, i7⟩
        have hv1 := g.v1
        have hul2 := i2.getD (k + v.length - 1)
        have huh := i2.getD (k + v.length)
        obtain ⟨t0, t1, t2, t3, t4, t5, t6, t7⟩ := guess_begin g _ rfl
        have x1 : IntKind.i64.wrap ((k : Int) + (v.length : Int)) = ((k + v.length : Nat) : Int) := by rw [i64_id] <;> omega
        have x2 : IntKind.i64.wrap (((k + v.length : Nat) : Int) - 1) = ((k + v.length - 1 : Nat) : Int) := by rw [i64_id] <;> omega
        have x3 : IntKind.i64.wrap ((v.length : Int) - 1) = ((v.length - 1 : Nat) : Int) := by rw [i64_id] <;> omega
        rw [x1, x2, x3, Int.toNat_natCast (k + v.length), Int.toNat_natCast (k + v.length - 1), Int.toNat_natCast (v.length - 1)]
        rw [u64_id (x := u.getD (k + v.length) 0) (by omega) (by omega), u64_id (x := u.getD (k + v.length - 1) 0) (by omega) (by omega), u64_id (x := u.getD (k + v.length) 0 * 1000000000) (by omega) (by omega), u64_id (x := u.getD (k + v.length) 0 * 1000000000 + u.getD (k + v.length - 1) 0) (by omega) (by omega), u64_id (x := v.getD (v.length - 1) 0) (by omega) (by omega)]
        generalize hT : u.getD (k + v.length) 0 * 1000000000 + u.getD (k + v.length - 1) 0 = T at *
        rw [tdiv_pos t0, tmod_pos t0, u64_id (x := T / v.getD (v.length - 1) 0) (by omega) (by omega)]
        refine ⟨by omega, by omega, by omega, by omega, by omega, by omega, by omega, by omega, by omega, by omega, ?_⟩
        refine cut_of (fun t : Int => [(10, .p (.sl 1 [wv s])), (11, .orow 83), (12, .orow 88), (13, .p (.val (.int .i64 (v.length : Nat)))), (14, .orow 103), (15, .p (.val (.int .i64 (k : Nat)))), (17, .p (.val (.int .u64 t)))]) (fun _ => []) (fun t => [(83, ⟨109, 1, u.length, u.map wv, false⟩), (88, ⟨109, 1, v.length, v.map wv, false⟩), (103, ⟨109, 1, q.length, q.map wv, false⟩)]) (fun t => 0 ≤ t ∧ t < 1000000000 ∧ (t - 1) * val v ≤ val (u.drop k) ∧ val (u.drop k) < (t + 1) * val v) ?_ ?_
        · simp (maxSteps := 10000000) only [↓sx, sx, wv_c]
          refine loopK_of (fun x : Int × Int => [(10, .p (.sl 1 [wv s])), (11, .orow 83), (12, .orow 88), (13, .p (.val (.int .i64 (v.length : Nat)))), (14, .orow 103), (15, .p (.val (.int .i64 (k : Nat)))), (17, .p (.val (.int .u64 x.1))), (18, .p (.val (.int .u64 x.2)))]) (fun _ => []) (fun x => [(83, ⟨109, 1, u.length, u.map wv, false⟩), (88, ⟨109, 1, v.length, v.map wv, false⟩), (103, ⟨109, 1, q.length, q.map wv, false⟩)]) (fun x => overInv2 u v k x ∧ x.2 < 1000000000) (fun x => x.1.toNat) (T / v.getD (v.length - 1) 0, T % v.getD (v.length - 1) 0) ?_ ?_ ?_
          · exact ⟨⟨t2, t3, t4, by dsimp only; omega, by rw [hT]; exact t6, t7⟩, t5⟩
          · simp (maxSteps := 10000000) only [isE_nil, is_cons, bo_p, bo_orow, any_cons', all_cons', all_nil', Bool.true_or, Bool.or_true, ↓sx, sx, ↓reduceIte, Nat.reduceEqDiff, Nat.reduceBeqDiff, wv_c]
          · rintro ⟨t, r⟩ ⟨⟨j1, j2, j3, j4, j5, j6⟩, j7⟩
            dsimp only at j1 j2 j3 j4 j5 j6 j7 ⊢
            simp (maxSteps := 10000000) only [↓sx, sx, ↓ty, ↓reduceIte, Nat.reduceEqDiff, Nat.reduceBeqDiff, Nat.reduceLT, wv_c]
            have hv2 := g.dv.getD (v.length - 2)
            have hu2 := i2.getD (k + v.length - 2)
            have x4 : IntKind.i64.wrap ((v.length : Int) - 2) = ((v.length - 2 : Nat) : Int) := by rw [i64_id] <;> omega
            have x5 : IntKind.i64.wrap (((k + v.length : Nat) : Int) - 2) = ((k + v.length - 2 : Nat) : Int) := by rw [i64_id] <;> omega
            have exit : 1000000000 ≤ r + v.getD (v.length - 1) 0 ∧ (1000000000 ≤ t ∨ r * 1000000000 + u.getD (k + v.length - 2) 0 < t * v.getD (v.length - 2) 0) → 0 ≤ t - 1 ∧ t - 1 < 1000000000 ∧ (t - 1 - 1) * val v ≤ val (u.drop k) ∧ val (u.drop k) < (t - 1 + 1) * val v := by
              rintro ⟨h1, h2⟩
              obtain ⟨w1, w2⟩ := g.down j1 j5 j3 h2
              obtain ⟨w3, w4⟩ := g.stay (t := t - 1) (ρ := r + v.getD (v.length - 1) 0) (by omega) (by rw [← j5]; grind) (by omega) (.inl h1)
              exact ⟨by omega, w3, w4, by rw [show t - 1 + 1 = t by omega]; exact w2⟩
            have stop : t < 1000000000 ∧ t * v.getD (v.length - 2) 0 ≤ r * 1000000000 + u.getD (k + v.length - 2) 0 → 0 ≤ t ∧ t < 1000000000 ∧ (t - 1) * val v ≤ val (u.drop k) ∧ val (u.drop k) < (t + 1) * val v := by
              intro h
              obtain ⟨w1, w2⟩ := g.stay j1 j5 j3 (.inr h)
              exact ⟨j1, w1, w2, j6⟩
            have down : (1000000000 ≤ t ∨ r * 1000000000 + u.getD (k + v.length - 2) 0 < t * v.getD (v.length - 2) 0) → r + v.getD (v.length - 1) 0 < 1000000000 → (overInv2 u v k (t - 1, r + v.getD (v.length - 1) 0) ∧ r + v.getD (v.length - 1) 0 < 1000000000) ∧ 1 ≤ t := by
              intro hd hr
              obtain ⟨w1, w2⟩ := g.down j1 j5 j3 hd
              refine ⟨⟨⟨by dsimp only; omega, by dsimp only; omega, by dsimp only; omega, by dsimp only; omega, ?_, by dsimp only; rw [show t - 1 + 1 = t by omega]; exact w2⟩, hr⟩, w1⟩
              dsimp only
              rw [← j5]; grind
            have t1' : (1000000000 ≤ t ∨ r * 1000000000 + u.getD (k + v.length - 2) 0 < t * v.getD (v.length - 2) 0) → 1 ≤ t := fun hd => (g.down j1 j5 j3 hd).1
            rw [x3, Int.toNat_natCast (v.length - 1)]
            refine vcIf_dec (fun hB2 => ?_) (fun hB2 => ?_)
            · have ht1 := t1' (.inl hB2)
              rw [u64_id (x := v.getD (v.length - 1) 0) (by omega) (by omega), u64_id (x := r + v.getD (v.length - 1) 0) (by omega) (by omega), u64_id (x := t - 1) (by omega) (by omega)]
              refine ⟨by omega, by omega, vcIf_dec (fun hr => ?_) (fun hr => ?_)⟩
              · refine CutK.mk (t - 1) (exit ⟨by omega, .inl hB2⟩) ?_
                simp (maxSteps := 10000000) only [isE_nil, is_cons, bo_p, bo_orow, any_cons', all_cons', all_nil', Bool.true_or, Bool.or_true, ↓sx, sx, ↓reduceIte, Nat.reduceEqDiff, Nat.reduceBeqDiff]
              · refine NextK.mk (t - 1, r + v.getD (v.length - 1) 0) (by dsimp only; omega) (down (.inl hB2) (by omega)).1 ?_
                simp (maxSteps := 10000000) only [isE_nil, is_cons, bo_p, bo_orow, any_cons', all_cons', all_nil', Bool.true_or, Bool.or_true, ↓sx, sx, ↓reduceIte, Nat.reduceEqDiff, Nat.reduceBeqDiff]
            · have htv : 0 ≤ t * v.getD (v.length - 2) 0 ∧ t * v.getD (v.length - 2) 0 ≤ 999999998000000001 := mul_step (o := 0) (c := 0) (by omega) (by omega) hv2 (by omega)
              rw [x1, x4, x5, Int.toNat_natCast (v.length - 2), Int.toNat_natCast (k + v.length - 2)]
              rw [u64_id (x := v.getD (v.length - 2) 0) (by omega) (by omega), u64_id (x := t * v.getD (v.length - 2) 0) (by omega) (by omega), u64_id (x := u.getD (k + v.length - 2) 0) (by omega) (by omega), u64_id (x := r * 1000000000) (by omega) (by omega), u64_id (x := r * 1000000000 + u.getD (k + v.length - 2) 0) (by omega) (by omega)]
              refine ⟨by omega, by omega, by omega, by omega, vcIf_dec (fun ht2 => ?_) (fun ht2 => ?_)⟩
              · have ht1 := t1' (.inr (by omega))
                rw [u64_id (x := v.getD (v.length - 1) 0) (by omega) (by omega), u64_id (x := r + v.getD (v.length - 1) 0) (by omega) (by omega), u64_id (x := t - 1) (by omega) (by omega)]
                refine ⟨by omega, by omega, vcIf_dec (fun hr => ?_) (fun hr => ?_)⟩
                · refine CutK.mk (t - 1) (exit ⟨by omega, .inr (by omega)⟩) ?_
                  simp (maxSteps := 10000000) only [isE_nil, is_cons, bo_p, bo_orow, any_cons', all_cons', all_nil', Bool.true_or, Bool.or_true, ↓sx, sx, ↓reduceIte, Nat.reduceEqDiff, Nat.reduceBeqDiff]
                · refine NextK.mk (t - 1, r + v.getD (v.length - 1) 0) (by dsimp only; omega) (down (.inr (by omega)) (by omega)).1 ?_
                  simp (maxSteps := 10000000) only [isE_nil, is_cons, bo_p, bo_orow, any_cons', all_cons', all_nil', Bool.true_or, Bool.or_true, ↓sx, sx, ↓reduceIte, Nat.reduceEqDiff, Nat.reduceBeqDiff]
              · refine CutK.mk t (stop ⟨by omega, by omega⟩) ?_
                simp (maxSteps := 10000000) only [isE_nil, is_cons, bo_p, bo_orow, any_cons', all_cons', all_nil', Bool.true_or, Bool.or_true, ↓sx, sx, ↓reduceIte, Nat.reduceEqDiff, Nat.reduceBeqDiff]
        · rintro t ⟨c1, c2, c3, c4⟩
          simp (maxSteps := 10000000) only [↓sx, sx, ↓reduceIte, Nat.reduceEqDiff, Nat.reduceBeqDiff, wv_c]
          refine loopK_of (fun x : List Int × Int × Int × Nat => [(10, .p (.sl 1 [wv s])), (11, .orow 83), (12, .orow 88), (13, .p (.val (.int .i64 (v.length : Nat)))), (14, .orow 103), (15, .p (.val (.int .i64 (k : Nat)))), (17, .p (.val (.int .u64 t))), (19, .p (.val (.int .i64 x.2.2.1))), (20, .p (.val (.int .i64 x.2.1))), (180, .p (.val (.int .i64 (v.length : Nat)))), (181, .p (.val (.int .i64 (x.2.2.2 : Nat))))]) (fun _ => []) (fun x => [(83, ⟨109, 1, x.1.length, x.1.map wv, false⟩), (88, ⟨109, 1, v.length, v.map wv, false⟩), (103, ⟨109, 1, q.length, q.map wv, false⟩)]) (redInv u v k t) (fun x => v.length - x.2.2.2) (u, 0, 0, 0) ?_ ?_ ?_
          · refine ⟨i2, rfl, rfl, fun _ _ => rfl, by dsimp only; omega, by dsimp only; omega, Nat.zero_le _, ?_⟩
            simp [val_nil]
          · simp (maxSteps := 10000000) only [isE_nil, is_cons, bo_p, bo_orow, any_cons', all_cons', all_nil', Bool.true_or, Bool.or_true, ↓sx, sx, ↓reduceIte, Nat.reduceEqDiff, Nat.reduceBeqDiff, wv_c]
            rfl
          · rintro ⟨u1, bo, c, i⟩ ⟨g1, g2, g3, g4, g5, g6, g7, g8⟩
            dsimp only at g1 g2 g3 g4 g5 g6 g7 g8 ⊢
            simp (maxSteps := 10000000) only [↓sx, sx, ↓ty, ↓reduceIte, Nat.reduceEqDiff, Nat.reduceBeqDiff, Nat.reduceAdd, Int.reduceEq, wv_c]
            refine vcIf_dec (fun hi => ?_) (fun hi => ?_)
            · have hy := hv.1.getD i
              have hxu := g1.getD (k + i)
              have hmm := mul_step (o := 0) (c := c) (by omega) ⟨c1, c2⟩ hy g6
              have hval := val_take_succ v i (by omega)
              have y1 : IntKind.i64.wrap ((i : Int) + (k : Int)) = ((k + i : Nat) : Int) := by rw [i64_id] <;> omega
              rw [y1, Int.toNat_natCast (k + i)]
              rw [i64_id (x := t) (by omega) (by omega), i64_id (x := v.getD i 0) (by omega) (by omega), i64_id (x := t * v.getD i 0) (by omega) (by omega), i64_id (x := t * v.getD i 0 + c) (by omega) (by omega)]
              generalize hp : t * v.getD i 0 + c = p at *
              have hp0 : 0 ≤ p ∧ p < 1000000000000000000 := by omega
              have hpe : p = 1000000000 * (p / 1000000000) + p % 1000000000 := by omega
              rw [tmod_pos hp0.1, tdiv_pos hp0.1, i64_id (x := p / 1000000000) (by omega) (by omega), i64_id (x := u1.getD (k + i) 0) (by omega) (by omega), i64_id (x := u1.getD (k + i) 0 - p % 1000000000) (by omega) (by omega), i64_id (x := u1.getD (k + i) 0 - p % 1000000000 - bo) (by omega) (by omega)]
              refine ⟨by omega, by omega, by omega, by omega, ?_⟩
              have fin : ∀ {e : Env} {h : Hp} {ρ : Rws} {tg : Tag (redInv u v k t, (fun x : List Int × Int × Int × Nat => v.length - x.2.2.2), e, h, ρ)} (d b' : Int), d = u1.getD (k + i) 0 - p % 1000000000 - bo + 1000000000 * b' → 0 ≤ d → d < 1000000000 → 0 ≤ b' → b' ≤ 1 →
                  e 10 = .p (.sl 1 [wv s]) → e 11 = .orow 83 → e 12 = .orow 88 → e 13 = .p (.val (.int .i64 (v.length : Nat))) → e 14 = .orow 103 → e 15 = .p (.val (.int .i64 (k : Nat))) → e 17 = .p (.val (.int .u64 t)) → e 19 = .p (.val (.int .i64 (p / 1000000000))) → e 20 = .p (.val (.int .i64 b')) → e 180 = .p (.val (.int .i64 (v.length : Nat))) → e 181 = .p (.val (.int .i64 (IntKind.i64.wrap ((i : Int) + 1)))) →
                  ρ 83 = some ⟨109, 1, u1.length, (u1.take (k + i)).map wv ++ [.val (.int .u32 d)] ++ (u1.drop (k + i + 1)).map wv, false⟩ → ρ 88 = some ⟨109, 1, v.length, v.map wv, false⟩ → ρ 103 = some ⟨109, 1, q.length, q.map wv, false⟩ →
                  NextK (fun x : List Int × Int × Int × Nat => [(10, .p (.sl 1 [wv s])), (11, .orow 83), (12, .orow 88), (13, .p (.val (.int .i64 (v.length : Nat)))), (14, .orow 103), (15, .p (.val (.int .i64 (k : Nat)))), (17, .p (.val (.int .u64 t))), (19, .p (.val (.int .i64 x.2.2.1))), (20, .p (.val (.int .i64 x.2.1))), (180, .p (.val (.int .i64 (v.length : Nat)))), (181, .p (.val (.int .i64 (x.2.2.2 : Nat))))]) (fun _ => []) (fun x => [(83, ⟨109, 1, x.1.length, x.1.map wv, false⟩), (88, ⟨109, 1, v.length, v.map wv, false⟩), (103, ⟨109, 1, q.length, q.map wv, false⟩)]) (redInv u v k t) (fun x => v.length - x.2.2.2) (u1, bo, c, i) e h ρ tg := by
                intro e h ρ tg d b' hd hd0 hd1 hb0 hb1 e10 e11 e12 e13 e14 e15 e17 e19 e20 e180 e181 r83 r88 r103
                rw [i64_id (by omega) (by omega)] at e181
                rw [set_wv _ _ _ (by omega)] at r83
                refine NextK.mk (u1.set (k + i) d, b', p / 1000000000, i + 1) (by dsimp only; omega) ⟨g1.set _ hd0 hd1, by simp [g2], by rw [take_set_of_le _ _ _ _ (by omega)]; exact g3, (fun j hj => by dsimp only; rw [Gb.getD_set_ne _ _ _ _ (by omega)]; exact g4 j hj), ⟨hb0, hb1⟩, by dsimp only; omega, by dsimp only; omega, ?_⟩ ?_
                · dsimp only
                  rw [val_set _ _ _ (by omega), hval, ← Nat.add_assoc, Int.pow_succ]
                  rw [Int.pow_add] at g8 ⊢
                  generalize (1000000000 : Int) ^ k = Pa at *
                  generalize (1000000000 : Int) ^ i = Pi at *
                  generalize p / 1000000000 = pq at *
                  generalize p % 1000000000 = pr at *
                  subst hd
                  grind
                · simp (maxSteps := 10000000) only [isE_nil, is_cons, bo_p, bo_orow, any_cons', all_cons', all_nil', Bool.true_or, Bool.or_true, ↓sx, sx, Nat.reduceBeqDiff, wv_c, e10, e11, e12, e13, e14, e15, e17, e19, e20, e180, e181, r83, r88, r103]
                  simp [wv_c]
              refine vcIf_dec (fun hn => ?_) (fun hn => ?_)
              · rw [i64_id (x := u1.getD (k + i) 0 - p % 1000000000 - bo + 1000000000) (by omega) (by omega), u32_id (x := u1.getD (k + i) 0 - p % 1000000000 - bo + 1000000000) (by omega) (by omega)]
                refine ⟨by omega, by omega, ?_⟩
                refine fin (u1.getD (k + i) 0 - p % 1000000000 - bo + 1000000000) 1 (by omega) (by omega) (by omega) (by omega) (by omega) ?_ ?_ ?_ ?_ ?_ ?_ ?_ ?_ ?_ ?_ ?_ ?_ ?_ ?_
                all_goals (simp (maxSteps := 10000000) only [↓sx, sx, ↓reduceIte, Nat.reduceEqDiff, wv_c]; done)
              · rw [u32_id (x := u1.getD (k + i) 0 - p % 1000000000 - bo) (by omega) (by omega)]
                refine ⟨by omega, by omega, ?_⟩
                refine fin (u1.getD (k + i) 0 - p % 1000000000 - bo) 0 (by omega) (by omega) (by omega) (by omega) (by omega) ?_ ?_ ?_ ?_ ?_ ?_ ?_ ?_ ?_ ?_ ?_ ?_ ?_ ?_
                all_goals (simp (maxSteps := 10000000) only [↓sx, sx, ↓reduceIte, Nat.reduceEqDiff, wv_c]; done)
            · obtain rfl : i = v.length := by omega
              rw [List.take_length] at g8
              have R0 : Red u v u1 k t bo c := ⟨i2, hv.1, by omega, ⟨c1, c2⟩, c3, c4, hvp, g.zf, g1, g2, g3, g4, g5, g6, g8⟩
              have hw9 := g4 (k + v.length) (Nat.le_refl _)
              rw [x1, Int.toNat_natCast (k + v.length), hw9]
              rw [i64_id (x := u.getD (k + v.length) 0) (by omega) (by omega), i64_id (x := u.getD (k + v.length) 0 - c) (by omega) (by omega), i64_id (x := u.getD (k + v.length) 0 - c - bo) (by omega) (by omega)]
              refine ⟨by omega, by omega, vcIf_dec (fun hn => ?_) (fun hn => ?_)⟩
              · obtain ⟨n1, n2, n3⟩ := R0.neg hn
                rw [n2, u64_id (x := t - 1) (by omega) (by omega)]
                refine loopK_of (fun x : List Int × Int × Nat => [(10, .p (.sl 1 [wv s])), (11, .orow 83), (12, .orow 88), (13, .p (.val (.int .i64 (v.length : Nat)))), (14, .orow 103), (15, .p (.val (.int .i64 (k : Nat)))), (17, .p (.val (.int .u64 (t - 1)))), (24, .p (.val (.int .i64 (-1)))), (25, .p (.val (.int .u64 x.2.1))), (235, .p (.val (.int .i64 (v.length : Nat)))), (236, .p (.val (.int .i64 (x.2.2 : Nat))))]) (fun _ => []) (fun x => [(83, ⟨109, 1, x.1.length, x.1.map wv, false⟩), (88, ⟨109, 1, v.length, v.map wv, false⟩), (103, ⟨109, 1, q.length, q.map wv, false⟩)]) (redInv2 u1 v k) (fun x => v.length - x.2.2) (u1, 0, 0) ?_ ?_ ?_
                · refine ⟨g1, rfl, rfl, fun _ _ => rfl, Int.le_refl _, by dsimp only; omega, Nat.zero_le _, ?_⟩
                  simp [val_nil]
                · simp (maxSteps := 10000000) only [isE_nil, is_cons, bo_p, bo_orow, any_cons', all_cons', all_nil', Bool.true_or, Bool.or_true, ↓sx, sx, ↓reduceIte, Nat.reduceEqDiff, Nat.reduceBeqDiff, wv_c]
                  rfl
                · rintro ⟨u2, c2, i⟩ ⟨k1, k2, k3, k4, k5, k5b, k6, k7⟩
                  dsimp only at k1 k2 k3 k4 k5 k5b k6 k7 ⊢
                  simp (maxSteps := 10000000) only [↓sx, sx, ↓ty, ↓reduceIte, Nat.reduceEqDiff, Nat.reduceBeqDiff, Nat.reduceAdd, Int.reduceEq, wv_c]
                  refine vcIf_dec (fun hi => ?_) (fun hi => ?_)
                  · have hy := hv.1.getD i
                    have hxu := k1.getD (k + i)
                    have hval := val_take_succ v i (by omega)
                    have y1 : IntKind.i64.wrap ((i : Int) + (k : Int)) = ((k + i : Nat) : Int) := by rw [i64_id] <;> omega
                    rw [y1, Int.toNat_natCast (k + i)]
                    rw [u64_id (x := u2.getD (k + i) 0) (by omega) (by omega), u64_id (x := v.getD i 0) (by omega) (by omega), u64_id (x := u2.getD (k + i) 0 + v.getD i 0) (by omega) (by omega), u64_id (x := c2 + (u2.getD (k + i) 0 + v.getD i 0)) (by omega) (by omega)]
                    generalize hs4 : c2 + (u2.getD (k + i) 0 + v.getD i 0) = s4 at *
                    rw [tmod_pos (x := s4) (by omega), tdiv_pos (x := s4) (by omega), u64_id (x := s4 / 1000000000) (by omega) (by omega), u32_id (x := s4 % 1000000000) (by omega) (by omega)]
                    refine ⟨by omega, by omega, by omega, by omega, by omega, by omega, ?_⟩
                    refine NextK.mk (u2.set (k + i) (s4 % 1000000000), s4 / 1000000000, i + 1) (by dsimp only; omega) ⟨k1.set _ (by omega) (by omega), by simp [k2], by rw [take_set_of_le _ _ _ _ (by omega)]; exact k3, (fun j hj => by dsimp only; rw [Gb.getD_set_ne _ _ _ _ (by omega)]; exact k4 j hj), by dsimp only; omega, by dsimp only; omega, by dsimp only; omega, ?_⟩ ?_
                    · dsimp only
                      rw [val_set _ _ _ (by omega), hval, ← Nat.add_assoc, Int.pow_succ]
                      rw [Int.pow_add] at k7 ⊢
                      have : s4 = 1000000000 * (s4 / 1000000000) + s4 % 1000000000 := by omega
                      generalize (1000000000 : Int) ^ k = Pa at *
                      generalize (1000000000 : Int) ^ i = Pi at *
                      generalize s4 / 1000000000 = sq at *
                      generalize s4 % 1000000000 = sr at *
                      grind
                    · simp (maxSteps := 10000000) only [isE_nil, is_cons, bo_p, bo_orow, any_cons', all_cons', all_nil', Bool.true_or, Bool.or_true, ↓sx, sx, ↓reduceIte, Nat.reduceEqDiff, Nat.reduceBeqDiff]
                      rw [set_wv _ _ _ (by omega), i64_id (by omega) (by omega)]
                      simp [wv_c]
                  · obtain rfl : i = v.length := by omega
                    rw [List.take_length] at k7
                    have k4t := k4 (k + v.length) (Nat.le_refl _)
                    have hu1t := g1.getD (k + v.length)
                    obtain ⟨m1, m2, m3, m4⟩ := n3 (u2.set (k + v.length) 999999999) c2 (k1.set _ (by omega) (by omega)) (by simp [k2, g2]) (by rw [take_set_of_le _ _ _ _ (by omega), take_set_of_le _ _ _ _ (by omega)]; exact k3) (fun j hj => by
                      by_cases hjt : j = k + v.length
                      · subst hjt; rw [Gb.getD_set_same _ _ _ (by omega), Gb.getD_set_same _ _ _ (by omega)]
                      · rw [Gb.getD_set_ne _ _ _ _ (by omega), Gb.getD_set_ne _ _ _ _ (by omega)]; exact k4 j hj) k5 k5b (by
                      rw [val_set _ _ _ (by omega), val_set _ _ _ (by omega), k4t]
                      generalize (1000000000 : Int) ^ (k + v.length) = Pt at *
                      generalize (999999999 - u1.getD (k + v.length) 0) * Pt = z at *
                      omega)
                    subst m1
                    rw [List.set_set] at m4
                    rw [x1, Int.toNat_natCast (k + v.length)]
                    refine ⟨by omega, by omega, by omega, by omega, NextK.mk (redU u v k, q.set k (val (u.drop k) / val v), k) (by dsimp only; omega) (overInv_next g ⟨i1, i2, i3, i4, i5, i6, i7, i8⟩) ?_⟩
                    simp (maxSteps := 10000000) only [isE_nil, is_cons, bo_p, bo_orow, any_cons', all_cons', all_nil', Bool.true_or, Bool.or_true, ↓sx, sx, ↓reduceIte, Nat.reduceEqDiff, Nat.reduceBeqDiff]
                    rw [set_wv _ _ _ (by omega), show IntKind.u32.wrap (if (0 : Int) > IntKind.i64.wrap (-1 + IntKind.i64.wrap 1) then 0 else IntKind.i64.wrap (-1 + IntKind.i64.wrap 1)) = 0 by decide, set_wv _ _ _ (by omega), m4, u32_id (x := t - 1) (by omega) (by omega), m2, redU_len (by omega), k2, g2, i64_id (x := (k : Int) - 1) (by omega) (by omega)]
                    simp [wv_c]
              · obtain ⟨p1, p2, p3⟩ := R0.pos (by omega)
                refine ⟨by omega, by omega, by omega, by omega, NextK.mk (redU u v k, q.set k (val (u.drop k) / val v), k) (by dsimp only; omega) (overInv_next g ⟨i1, i2, i3, i4, i5, i6, i7, i8⟩) ?_⟩
                simp (maxSteps := 10000000) only [isE_nil, is_cons, bo_p, bo_orow, any_cons', all_cons', all_nil', Bool.true_or, Bool.or_true, ↓sx, sx, ↓reduceIte, Nat.reduceEqDiff, Nat.reduceBeqDiff]
                rw [if_neg (by omega), u32_id (x := u.getD (k + v.length) 0 - c - bo) (by omega) (by omega), set_wv _ _ _ (by omega), set_wv _ _ _ (by omega), p3, u32_id (x := t) (by omega) (by omega), p2, redU_len (by omega), g2, i64_id (x := (k : Int) - 1) (by omega) (by omega)]
                simp [wv_c]
      · obtain rfl : m = 0 := by omega
        rw [List.drop_zero] at i7
        have hu9 := val_nonneg i2
        have hzu := zf_of_lt u i2 0 v.length (by rw [List.drop_zero]; have := (val_bounds hv.1).2; omega)
        rw [Nat.zero_add] at hzu
        have hvu := val_take_zf u v.length (by omega) hzu
        obtain ⟨μ, hμ⟩ : ∃ μ : Nat, val u = (μ : Int) := ⟨(val u).toNat, by omega⟩
        have hq9 := quot_of (a := (a : Int)) (b := (b : Int)) (s := s) (Q := val q) (rem := val u) (by omega) (by omega) (by rw [← hva, ← i8, hvv, hσ, Int.natCast_mul]; omega) hu9 (by rw [hvv, Int.natCast_mul, ← hσ] at i7; exact i7)
        have hqv : val q = ((a / b : Nat) : Int) := by rw [hq9.1, Int.natCast_ediv]
        have hrv : μ / σ = a % b := by
          have := hq9.2
          rw [hμ, hσ, ← Int.natCast_ediv, ← Int.natCast_emod] at this
          exact Int.ofNat_inj.1 this
        have htl : (u.take v.length).length = v.length := by rw [List.length_take]; omega
        have hμL : Lw μ < 1000000 := by
          have h7 : μ < b * σ := by rw [hvv, hμ] at i7; exact Int.ofNat_lt.1 i7
          have h8 := Lw_mono (Nat.le_of_lt h7)
          have h9 : Lw (b * σ) = v.length := by unfold Lw; rw [hgv]
          omega
        refine CallT.to (by have := nsmall_n hG σ (by omega); rw [if_pos (by omega), decide_eq_true (by omega)] at this; exact this) (by rw [nP_c, hwσ]; rfl) ?_
        simp (maxSteps := 10000000) only [↓sx, sx, ↓ty, ↓reduceIte, Nat.reduceEqDiff]
        refine ⟨by omega, ?_⟩
        refine CallT.to (ntrim_n hG (u.take v.length) (by omega) (i2.take v.length) μ (by rw [hvu, hμ])) (by rw [htl]) ?_
        simp (maxSteps := 10000000) only [↓sx, sx, ↓reduceIte, Nat.reduceEqDiff, nP_c]
        refine CallT.mk (nby_n hG μ σ hμL (by omega) (by omega)) ?_
        simp (maxSteps := 10000000) only [↓sx, sx, ↓reduceIte, Nat.reduceEqDiff, nP_c]
        refine CallT.mk (ntrim_n hG q (by omega) i4 (a / b) hqv) ?_
        simp (maxSteps := 10000000) only [↓sx, sx, ↓reduceIte, Nat.reduceEqDiff, nP_c]
        rw [hrv]
end Go.Proofs.YtolehnkoocnenaaGreatDoor.S
namespace Go.Proofs.YtolehnkoocnenaaGreatDoor.S
open Go Go.Sx Go.RowKit Gb
variable {G : World → Prop} (hG : ∀ w w', G w → Below w.heap.size w w' → G w')
include hG
set_option maxRecDepth 100000 in
set_option maxHeartbeats 20000000 in
theorem ngcd_n (a b : Nat) (ha : Lw a < 1000000) (hb : Lw b < 1000000) : Meets Tryz.prog G 172 [nP a, nP b] (nP (Nat.gcd a b)) := by
  refine meets_of_vc (Y := {}) (N := 45) (rs := [.tmp 4]) mix tk hG Tryz.func172 rfl (by kernel_rfl) rfl rfl (by simp) (by kernel_rfl) ?_
  simp (maxSteps := 10000000) only [↓sx, sx, ↓ty]
  refine loopK_of (fun s : Nat × Nat => [(0, .p (nP s.1)), (1, .p (nP s.2))]) (fun _ => []) (fun _ => []) (fun s => Lw s.1 < 1000000 ∧ Lw s.2 < 1000000 ∧ Nat.gcd s.1 s.2 = Nat.gcd a b) (fun s => s.2) (a, b) ⟨ha, hb, rfl⟩ ?_ ?_
  · simp (maxSteps := 10000000) only [isE_nil, is_cons, bo_p, all_nil', ↓sx, sx, ↓reduceIte, Nat.reduceEqDiff]
  · rintro ⟨x, y⟩ ⟨h1, h2, h3⟩
    dsimp only at h1 h2 h3 ⊢
    simp (maxSteps := 10000000) only [↓sx, sx, ↓ty, ↓reduceIte, Nat.reduceEqDiff, nP_c, len_Lw]
    refine vcIf_dec (fun hy => ?_) (fun hy => ?_)
    · have hy0 : y ≠ 0 := by intro h; rw [(Lw_zero_iff y).2 h] at hy; simp at hy
      have hm : x % y < y := Nat.mod_lt _ (by omega)
      have hg : Nat.gcd y (x % y) = Nat.gcd a b := by rw [← h3, Nat.gcd_comm x y, Nat.gcd_rec y x, Nat.gcd_comm]
      have hLm : Lw (x % y) < 1000000 := by have := Lw_mono (Nat.le_of_lt hm); omega
      refine CallT.mk (nsmall_n hG x (by omega)) ?_
      simp (maxSteps := 10000000) only [↓sx, sx, ↓reduceIte, Nat.reduceEqDiff]
      refine CallT.mk (nsmall_n hG y (by omega)) ?_
      simp (maxSteps := 10000000) only [↓sx, sx, ↓reduceIte, Nat.reduceEqDiff, Nat.reduceLT]
      refine vcIf_dec (fun hx2 => ?_) (fun hx2 => ?_)
      · refine vcIf_dec (fun hy2 => ?_) (fun hy2 => ?_)
        · have bx := Lw_two (a := x) hx2
          have by_ := Lw_two (a := y) hy2
          rw [if_pos hx2, if_pos hy2]
          refine loopK_of (fun s : Nat × Nat => [(5, .p (.val (.int .u64 (s.1 : Nat)))), (7, .p (.val (.int .u64 (s.2 : Nat))))]) (fun _ => []) (fun _ => []) (fun s => s.1 < 1000000000000000000 ∧ s.2 < 1000000000000000000 ∧ Nat.gcd s.1 s.2 = Nat.gcd a b) (fun s => s.2) (x, y) ⟨bx, by_, h3⟩ ?_ ?_
          · simp (maxSteps := 10000000) only [isE_nil, is_cons, bo_p, all_nil', ↓sx, sx, ↓reduceIte, Nat.reduceEqDiff]
          · rintro ⟨p, q⟩ ⟨k1, k2, k3⟩
            dsimp only at k1 k2 k3 ⊢
            simp (maxSteps := 10000000) only [↓sx, sx, ↓reduceIte, Nat.reduceEqDiff]
            refine vcIf_dec (fun hq => ?_) (fun hq => ?_)
            · have hpq : p % q < q := Nat.mod_lt _ (by omega)
              have e1 : Int.tmod (p : Int) (q : Int) = ((p % q : Nat) : Int) := by rw [tmod_pos (by omega), Int.natCast_emod]
              refine ⟨by omega, NextK.mk (q, p % q) hpq ⟨k2, by dsimp only; omega, by dsimp only; rw [← k3, Nat.gcd_comm p q, Nat.gcd_rec q p, Nat.gcd_comm]⟩ ?_⟩
              simp (maxSteps := 10000000) only [isE_nil, is_cons, bo_p, all_nil', ↓sx, sx, ↓reduceIte, Nat.reduceEqDiff, e1]
            · have hq : q = 0 := by omega
              subst hq
              rw [Nat.gcd_zero_right] at k3
              refine CallT.mk (nof_n hG p k1) ?_
              simp (maxSteps := 10000000) only [↓sx, sx, ↓reduceIte, nP_c]
              rw [k3]; rfl
        · refine CallT.mk (ndivide_n hG x y h1 h2 (by omega)) ?_
          simp (maxSteps := 10000000) only [↓sx, sx, ↓reduceIte, Nat.reduceEqDiff, nP_c, len_Lw]
          refine NextK.mk (y, x % y) hm ⟨h2, hLm, hg⟩ ?_
          simp (maxSteps := 10000000) only [isE_nil, is_cons, bo_p, all_nil', ↓sx, sx, ↓reduceIte, Nat.reduceEqDiff]
      · refine CallT.mk (ndivide_n hG x y h1 h2 (by omega)) ?_
        simp (maxSteps := 10000000) only [↓sx, sx, ↓reduceIte, Nat.reduceEqDiff, nP_c, len_Lw]
        refine NextK.mk (y, x % y) hm ⟨h2, hLm, hg⟩ ?_
        simp (maxSteps := 10000000) only [isE_nil, is_cons, bo_p, all_nil', ↓sx, sx, ↓reduceIte, Nat.reduceEqDiff]
    · have hy0 : y = 0 := (Lw_zero_iff y).1 (by omega)
      subst hy0
      rw [Nat.gcd_zero_right] at h3
      rw [h3]
end Go.Proofs.YtolehnkoocnenaaGreatDoor.S
namespace Go.Proofs.YtolehnkoocnenaaGreatDoor.T
open Go.RowKit Go.Shelf
attribute [local go_sem] Oper.semAt_some
theorem add_blk (ad : Addr) (j : Nat) : (ad.add j).block = ad.block := by unfold Addr.add; split <;> rfl
abbrev W9 := Fin 1000000000
def upto {α : Type} (f : Nat → α) (k : Nat) : List α := (List.range k).map f
theorem upto_succ {α : Type} (f : Nat → α) (k : Nat) : upto f (k + 1) = upto f k ++ [f k] := by simp [upto, List.range_succ]
theorem upto_length {α : Type} (f : Nat → α) (k : Nat) : (upto f k).length = k := by simp [upto]
def bk (zs : List W9) (len k : Nat) : Nat × W9 := (len - 1 - k, zs[len - 1 - k]?.getD 0)
def Kq (n₀ Bs : Nat) (W W' : World) : Prop := Below n₀ W W' ∧ ∀ c fz, W.heap[Bs]? = some (.cells c 166 fz) → W'.heap[Bs]? = some (.cells c 166 fz)
theorem Kq.refl (n₀ Bs : Nat) (W : World) : Kq n₀ Bs W W := ⟨Below.refl _ _, fun _ _ h => h⟩
theorem Kq.trans {n₀ Bs : Nat} {A B C : World} (h : Kq n₀ Bs A B) (k : Kq n₀ Bs B C) : Kq n₀ Bs A C := ⟨h.1.trans k.1, fun c fz x => k.2 c fz (h.2 c fz x)⟩
theorem Kq.turn {n₀ Bs : Nat} {w : World} (hn : n₀ ≤ w.heap.size) (hb : Bs < w.heap.size) (W : World) (l : Nat) (o o' : Obj) (hl : w.heap.size ≤ l) (h : W.heap[l]? = some o) (h1 : o.isCells = false) (h2 : o.isWalk = false) : Kq n₀ Bs W (W.putObj l o') :=
  ⟨belowK_b hn W l o o' hl h h1 h2, fun c fz x => ((belowK_b (n₀ := Bs + 1) (by omega) W l o o' hl h h1 h2).block Bs (Nat.lt_succ_self _)).trans x⟩
theorem cell_heap {W : World} {b : Nat} {v : Value} {t : TypeId} {fz : Nat × Nat} (h : W.heap[b]? = some (.cells #[v] t fz)) : W.cell? ⟨b, 0, none⟩ = some v := by
  simp [World.cell?, h]
set_option maxRecDepth 100000 in
set_option maxHeartbeats 2000000 in
theorem back1_in (F : Fence) (n : Nat) (h8 : F.fn 213) (hro : F.round = none) (hn : 1 ≤ n) (l Bs n₀ : Nat) (ad : Addr) (len cap : Nat) (zs : List W9) (hreach : len * 4 ≤ 140737488351232) (hb : ad.block < n₀) (J Jx : List (Nat × W9) → World → Prop)
    (hY : ∀ pre x W, J pre W → pre.length < len → YieldAt F (n - 1) Tryz.prog l #[.int .i64 (x.1 : Int), .int .u32 (x.2.val : Int)] W fun e W' =>
      (e = .returned (.bool true) ∧ J (pre ++ [x]) W' ∧ Kq n₀ Bs W W') ∨ (e = .returned (.bool false) ∧ Jx (pre ++ [x]) W'))
    (W : World) (fz : Nat × Nat) (hBs : W.heap[Bs]? = some (.cells #[.slice (some ad) len cap] 166 fz)) (hc : ∀ j, j < len → W.cell? (ad.add j) = some (.int .u32 ((zs[j]?.getD 0).val : Int))) (h0 : J [] W) :
    CallsIn F n Tryz.prog 213 #[.func (.yield l) #[] #[], .pointer (some ⟨Bs, 0, none⟩)] W fun e W' => (∃ v, e = .returned v) ∧
      ((∃ ys, ys = upto (bk zs len) len ∧ J ys W') ∨ (∃ pre, (∃ k, k ≤ len ∧ pre = upto (bk zs len) k) ∧ Jx pre W')) := by
  refine callsIn_of_wp Tryz.func213 rfl h8 ?_ hro
  simp only [Tryz.ntmps213, List.size_toArray, List.length_cons, List.length_nil, Nat.reduceAdd, Nat.reduceSub, Array.replicate_succ, Array.replicate_zero, List.push_toArray, List.append_toArray, List.nil_append, List.cons_append]
  have hBc := cell_heap hBs
  gi_wp2
  gi_loopw [3] (fun i wr => ∃ m : Nat, m ≤ len ∧ i = .int .i64 ((m : Int) - 1) ∧ J (upto (bk zs len) (len - m)) wr ∧ Kq n₀ Bs W wr)
    (fun i _ => (intOf i + 1).toNat)
  case atStart => exact ⟨len, Nat.le_refl _, by simp, by rw [Nat.sub_self]; exact h0, Kq.refl _ _ _⟩
  case round =>
    obtain ⟨m, hm, rfl, hJs, hnx⟩ := hrel
    have hBs' := cell_heap (hnx.2 _ _ hBs)
    cases m with
    | zero =>
      gi_wp2
      go_end0
      exact ⟨⟨_, rfl⟩, .inl ⟨_, rfl, hJs⟩⟩
    | succ m =>
      have hcx' : wr.cell? (ad.add m) = some (.int .u32 ((zs[m]?.getD 0).val : Int)) := (hnx.1.cell (p := ad.add m) (by rw [add_blk]; exact hb)).trans (hc m (by omega))
      obtain ⟨fn, tmps, assign, body, hy, hR⟩ := hY _ (m, zs[m]?.getD 0) wr hJs (by rw [upto_length]; omega)
      dsimp only at hy
      rw [show (((m + 1 : Nat) : Int) - 1) = (m : Int) by omega]
      gi_wp2
      refine hR.mono ?_
      rintro e W3 (⟨rfl, hJ3, hk3⟩ | ⟨rfl, hJx3⟩)
      · gi_wp2
        go_roundw
        case rel =>
          refine ⟨m, by omega, by simp, ?_, hnx.trans hk3⟩
          rw [show len - m = (len - (m + 1)) + 1 by omega, upto_succ]
          have : bk zs len (len - (m + 1)) = (m, zs[m]?.getD 0) := by unfold bk; rw [show len - 1 - (len - (m + 1)) = m by omega]
          rw [this]; exact hJ3
        case measure => simp [intOf]
      · gi_wp2
        refine bodyPost_ret (results_none rfl _ _ _) rfl ?_
        refine ⟨⟨_, rfl⟩, .inr ⟨_, ⟨(len - (m + 1)) + 1, by omega, rfl⟩, ?_⟩⟩
        have : bk zs len (len - (m + 1)) = (m, zs[m]?.getD 0) := by unfold bk; rw [show len - 1 - (len - (m + 1)) = m by omega]
        rw [upto_succ, this]; exact hJx3
set_option maxRecDepth 100000 in
set_option maxHeartbeats 1000000 in
theorem back1_nil_in (F : Fence) (n : Nat) (h8 : F.fn 213) (hro : F.round = none) (l Bs : Nat) (J : List (Nat × W9) → World → Prop) (W : World) (hBs : W.cell? ⟨Bs, 0, none⟩ = some (.slice none 0 0)) (h0 : J [] W) :
    CallsIn F n Tryz.prog 213 #[.func (.yield l) #[] #[], .pointer (some ⟨Bs, 0, none⟩)] W fun e W' => (∃ v, e = .returned v) ∧ J [] W' := by
  refine callsIn_of_wp Tryz.func213 rfl h8 ?_ hro
  simp only [Tryz.ntmps213, List.size_toArray, List.length_cons, List.length_nil, Nat.reduceAdd, Nat.reduceSub, Array.replicate_succ, Array.replicate_zero, List.push_toArray, List.append_toArray, List.nil_append, List.cons_append]
  gi_wp2
  gi_loopw [3] (fun i wr => i = .int .i64 (-1) ∧ J [] wr) (fun _ _ => 0)
  case atStart => exact ⟨by first | rfl | simp, h0⟩
  case round =>
    obtain ⟨rfl, hJs⟩ := hrel
    gi_wp2
    go_end0
    exact ⟨⟨_, rfl⟩, hJs⟩
set_option maxHeartbeats 1000000 in
theorem back_in (F : Fence) (n : Nat) (h6 : F.fn 195) (hro : F.round = none) (a : Option Addr) (len cap : Nat) (w : World) :
    CallsIn F n Tryz.prog 195 #[.slice a len cap] w fun e w' => e = .returned (.func (.func 213) #[] #[.pointer (some ⟨w.heap.size, 0, none⟩)]) ∧ w' = w.alloc (.cells #[.slice a len cap] 166) := by
  refine callsIn_of_wp Tryz.func195 rfl h6 ?_ hro
  simp only [Tryz.ntmps195, List.size_toArray, List.length_cons, List.length_nil, Nat.reduceAdd, Nat.reduceSub, Array.replicate_succ, Array.replicate_zero, List.push_toArray, List.append_toArray, List.nil_append, List.cons_append]
  gi_wp2
  go_ret
  exact ⟨rfl, rfl⟩
def Ints (n₀ : Nat) (w : World) (sv : Value) (zs : List W9) : Prop :=
  (zs = [] ∧ sv = .slice none 0 0) ∨ ∃ ad cap, sv = .slice (some ad) zs.length cap ∧ ad.block < n₀ ∧ ∀ j, j < zs.length → w.cell? (ad.add j) = some (.int .u32 ((zs[j]?.getD 0).val : Int))
theorem Ints.below {n₀ : Nat} {w w' : World} {sv : Value} {zs : List W9} (h : Ints n₀ w sv zs) (hB : Below n₀ w w') : Ints n₀ w' sv zs := by
  rcases h with h | ⟨ad, cap, rfl, hb, hc⟩
  · exact .inl h
  · exact .inr ⟨ad, cap, rfl, hb, fun j hj => (hB.cell (p := ad.add j) (by rw [add_blk]; exact hb)).trans (hc j hj)⟩
theorem back_stops (F : Fence) (n : Nat) (h8 : F.fn 213) (hro : F.round = none) (hn : 1 ≤ n) (Bs n₀ : Nat) (sv : Value) (zs : List W9) (hreach : zs.length * 4 ≤ 140737488351232) (w : World) (hBs : Bs < w.heap.size) (hn₀ : n₀ ≤ w.heap.size) (fz : Nat × Nat)
    (hc : w.heap[Bs]? = some (.cells #[sv] 166 fz)) (hI : Ints n₀ w sv zs) :
    SeqStopsK F n Tryz.prog 213 #[.pointer (some ⟨Bs, 0, none⟩)] (fun x : Nat × W9 => #[Value.int .i64 (x.1 : Int), Value.int .u32 (x.2.val : Int)]) (Kq n₀ Bs) (fun ys => ys = upto (bk zs zs.length) zs.length)
      (fun pre => ∃ k, k ≤ zs.length ∧ pre = upto (bk zs zs.length) k) zs.length w := fun l J Jx W hW _ _ hY h0 => by
  have hc' := (hW.block Bs hBs).trans hc
  rcases hI.below (hW.mono hn₀) with ⟨rfl, rfl⟩ | ⟨ad, cap, rfl, hb, hcs⟩
  · exact (back1_nil_in F n h8 hro l Bs J W (cell_heap hc') h0).mono fun e W' ⟨he, hj⟩ => ⟨he, .inl ⟨_, rfl, hj⟩⟩
  · exact back1_in F n h8 hro hn l Bs n₀ ad zs.length cap zs hreach hb J Jx hY W fz hc' hcs h0
end Go.Proofs.YtolehnkoocnenaaGreatDoor.T
namespace Go.Proofs.YtolehnkoocnenaaGreatDoor.T
open Go.Shelf Go.RowKit Go.Sort Go.Lib
theorem fin_zero (w : World) (o : Obj) (dk : Array UInt8) (k : Nat) : ∃ os, (putRow (fun (b : UInt8) => Value.int .u8 (b.toNat : Int)) (w.alloc o) w.heap.size 0 dk).drewN k = grow (w.drewN k) os := by
  rw [alloc_eq_grow]
  obtain ⟨os', _, e⟩ := putRow_grow_new (fun (b : UInt8) => Value.int .u8 (b.toNat : Int)) w #[o] w.heap.size 0 dk (Nat.le_refl _)
  exact ⟨os', by rw [e]; rfl⟩
set_option maxHeartbeats 6400000 in
set_option maxRecDepth 100000 in
theorem internal_FormatUint (u : Nat) (hu64 : u < 18446744073709551616) (w : World) (htab : Lib.TabIs Tryz.prog w "internal/strconv.uint64pow10" .u64 Lib.pow10Tab) :
    Calls Tryz.prog 214 #[.int .u64 u, .int .i64 10] w fun e w' => e = .returned (.string ⟨(Lib.decDigits u).toArray⟩) ∧ ∃ k os, w' = grow (w.drewN k) os := by
  by_cases hs : u < 100
  · have hwr : IntKind.i64.wrap (u : Int) = (u : Int) := by rw [IntKind.wrap_i64]; omega
    go_enter Tryz.func214, Tryz.ntmps214
    go_wp2_with (go_at_call 224; refine (Tryz.internal_strconv_small u hs _).mono ?_; rintro e w' ⟨rfl, rfl⟩)
    go_ret
    exact ⟨rfl, 0, #[], by simp [World.drewN_zero]⟩
  · have hu1 : 1 ≤ u := by omega
    have hnd20 : Lib.nDigits u ≤ 20 := by have := Lib.numDigits_eq u hu1 hu64; split at this <;> omega
    have hal : Tryz.prog.arrayLen 224 = 24 := by kernel_rfl
    have hsl1 : ∀ W, (Instr.sliceAt 224 (.pointer (some ⟨w.heap.size, 0, none⟩)) none (some (.int .i64 (Lib.nDigits u : Int))) none).run Tryz.prog W = .ok (.slice (some ⟨w.heap.size, 0, none⟩) (Lib.nDigits u) 24) W := fun W => by
      rw [run_sliceAt_array_h W 224 ⟨w.heap.size, 0, none⟩ (by kernel_rfl) .i64 (Lib.nDigits u : Int) (by omega) (by rw [hal]; omega)]
      rw [hal]; go_simp
    have hH0 := Lib.holds_zero0 w 224 (Lib.nDigits u) (by omega)
    have hfmt := Tryz.internal_strconv_formatBase10 w.heap.size 0 24 u (Array.replicate (Lib.nDigits u) 0) (w.alloc (.cells Lib.zeros24 224)) hH0 (by rw [Array.size_replicate]; exact Lib.lt_pow_nDigits u) hu64 (by rw [Array.size_replicate]; omega)
    rw [Array.size_replicate] at hfmt
    have HH0 := Lib.hid hH0
    clear hH0 hal
    go_enter Tryz.func214, Tryz.ntmps214
    go_wp2_with (first
      | (go_at_call 225; refine (Tryz.internal_strconv_numDigits u hu1 hu64 _ (Lib.tabIs_alloc htab _)).mono ?_; rintro e w' ⟨rfl, rfl⟩))
    go_at_call 226
    refine hfmt.mono ?_
    rintro e w' ⟨rfl, k, v', dk, rfl, hF⟩
    have hcv : (convert 158 9 (.slice (some ⟨w.heap.size, 0, none⟩) (Lib.nDigits u) 24)).run Tryz.prog ((putRow (fun (b : UInt8) => Value.int .u8 (b.toNat : Int)) (w.alloc (.cells Lib.zeros24 224)) w.heap.size 0 dk).drewN k) = .ok (.string ⟨(Lib.decDigits u).toArray⟩) ((putRow (fun (b : UInt8) => Value.int .u8 (b.toNat : Int)) (w.alloc (.cells Lib.zeros24 224)) w.heap.size 0 dk).drewN k) := by
      have h := run_convert_bytes_back (P := Tryz.prog) ((putRow (fun (b : UInt8) => Value.int .u8 (b.toNat : Int)) (w.alloc (.cells Lib.zeros24 224)) w.heap.size 0 dk).drewN k) 158 9 5 ⟨w.heap.size, 0, none⟩ 24 (Lib.decDigits u) (by kernel_rfl) (by kernel_rfl) (by kernel_rfl) (fun j hj => by
        rw [Lib.row_is_numeral hF j hj, Lib.add_plain, World.cell?_drewN]
        exact cell?_putRow (fun (b : UInt8) => Value.int .u8 (b.toNat : Int)) _ w.heap.size 0 _ dk HH0.out (by rw [hF.size, Array.size_replicate]) j (by rw [hF.size]; rw [Lib.decDigits_length] at hj; exact hj))
      rw [Lib.decDigits_length] at h
      exact h
    go_wp2
    go_ret
    obtain ⟨os, eo⟩ := fin_zero w (.cells Lib.zeros24 224) dk k
    exact ⟨rfl, k, os, eo⟩
set_option maxRecDepth 100000 in
theorem strconv_FormatUint (u : Nat) (hu64 : u < 18446744073709551616) (w : World) (htab : Lib.TabIs Tryz.prog w "internal/strconv.uint64pow10" .u64 Lib.pow10Tab) :
    Calls Tryz.prog 196 #[.int .u64 u, .int .i64 10] w fun e w' => e = .returned (.string ⟨(Lib.decDigits u).toArray⟩) ∧ ∃ k os, w' = grow (w.drewN k) os := by
  go_enter Tryz.func196, Tryz.ntmps196
  go_wp2_with (go_at_call 214; refine (internal_FormatUint u hu64 _ htab).mono ?_; rintro e w' ⟨rfl, k, os, rfl⟩)
  go_ret
  exact ⟨rfl, k, os, rfl⟩
end Go.Proofs.YtolehnkoocnenaaGreatDoor.T
namespace Go.Proofs.YtolehnkoocnenaaGreatDoor.T
open Go.RowKit Go.Shelf
attribute [local go_sem] Oper.semAt_some
theorem isBuilderF_kept {T e : TypeId} {B b : Nat} {bs : List Value} {w w' : World} {row : Option Nat} (h : Lib.IsBuilderF T e B b bs w) (hg : w.grownBy w' row)
    (hr : ∀ r, row = some r → ∃ o : Obj, w.heap[r]? = some o ∧ o.isCells = false) : Lib.IsBuilderF T e B b bs w' := by
  have one : ∀ p, Lib.BuilderAtF T e B b p bs w → Lib.BuilderAtF T e B b p bs w' := by
    rintro p ⟨hB, v, hb, hown, hne⟩
    refine ⟨hB, v, ?_, hown.kept hg ?_, hne⟩
    · rw [hg.block b (Array.getElem?_eq_some_iff.1 hb).1 (fun e => by
        obtain ⟨o, ho, hc⟩ := hr b e.symm
        rw [hb] at ho; cases ho; cases hc)]
      exact hb
    · cases hv : v.ownBlock with
      | none => exact .inl rfl
      | some g =>
        refine .inr (fun e => ?_)
        obtain ⟨c, fz, hc⟩ := Lib.ownsRowF_kind hown g hv
        obtain ⟨o, ho, hn⟩ := hr g e.symm
        rw [hc] at ho; cases ho; cases hn
  exact h.elim (fun x => .inl (one _ x)) (fun x => .inr (one _ x))
theorem isBuilderF_own {β : Type} (T e : TypeId) (B b : Nat) (f : β → List Value) : Own (fun s W => Lib.IsBuilderF T e B b (f s) W) :=
  fun _ _ _ _ hs hg hr => isBuilderF_kept hs hg hr
def piece (len : Nat) (x : Nat × W9) : List UInt8 := (if x.1 + 1 < len then List.replicate (9 - Lib.nDigits x.2.val) 48 else []) ++ Lib.decDigits x.2.val
def txt (len : Nat) (pre : List (Nat × W9)) : List UInt8 := pre.flatMap (piece len)
theorem txt_snoc (len : Nat) (pre : List (Nat × W9)) (x : Nat × W9) : txt len (pre ++ [x]) = txt len pre ++ piece len x := by simp [txt]
def text (zs : List W9) : List UInt8 := if zs = [] then [48] else txt zs.length (upto (bk zs zs.length) zs.length)
theorem nDigits_le (k : Nat) : ∀ u, u < 10 ^ (k + 1) → Lib.nDigits u ≤ k + 1 := by
  induction k with
  | zero => intro u h; rw [Lib.nDigits_small (by simpa using h)]; omega
  | succ k ih =>
    intro u h
    by_cases h1 : u < 10
    · rw [Lib.nDigits_small h1]; omega
    · rw [Lib.nDigits_big h1]
      have := ih (u / 10) (by rw [Nat.pow_succ] at h; omega)
      omega
theorem nDigits_nine (x : W9) : Lib.nDigits x.val ≤ 9 := nDigits_le 8 x.val x.isLt
theorem piece_len (len : Nat) (x : Nat × W9) : (piece len x).length ≤ 9 := by
  have := nDigits_nine x.2
  unfold piece
  split <;> simp [Lib.decDigits_length] <;> omega
theorem txt_len (len : Nat) (pre : List (Nat × W9)) : (txt len pre).length ≤ 9 * pre.length := by
  induction pre with
  | nil => simp [txt]
  | cons x l ih => have := piece_len len x; simp only [txt, List.flatMap_cons, List.length_append, List.length_cons] at ih ⊢; omega
theorem WriteString_k (B b : Nat) (bs : List Value) (s : ByteArray) (w : World) (h : Lib.IsBuilderF 196 5 B b bs w) (hlen : bs.length + s.size ≤ 140737488355328) (hBw : B ≤ w.heap.size) :
    Calls Tryz.prog 197 #[.pointer (some ⟨b, 0, none⟩), .string s] w fun e w' => e = .returned (.tuple #[.int .i64 s.size, .nilIface]) ∧ (Lib.BuilderAtF 196 5 B b (.pointer (some ⟨b, 0, none⟩)) (bs ++ Lib.strCells s) w' ∧ Below B w w' ∧ Lib.OthersKept 5 (some b) w w') :=
  Any.Builder_WriteString_k (ρ := Tryz.lays105_ren) { Tryz.lays105 with } Tryz.Builder_Extra_105 B b bs s w h hlen hBw
theorem strCells_list (l : List UInt8) : Lib.strCells ⟨l.toArray⟩ = Lib.byteCells l := by simp [Lib.strCells, Lib.byteCells]
theorem repeat_zero (n : Nat) : Lib.repeatL [48] n = List.replicate n (48 : UInt8) := by
  induction n with
  | zero => rfl
  | succ n ih => simp [Lib.repeatL, List.replicate_succ] at ih ⊢; try exact ih
theorem isBuilderF_below {T e : TypeId} {B b : Nat} {bs : List Value} {w w' : World} (h : Lib.IsBuilderF T e B b bs w) (hB : Below w.heap.size w w') : Lib.IsBuilderF T e B b bs w' :=
  isBuilderF_kept (row := none) h ⟨hB.os, hB.tape, hB.output, hB.size, fun k hk _ => hB.block k hk⟩ (fun r e => by cases e)
theorem heap_own {β : Type} (b : Nat) (c : Array Value) (t : TypeId) (fz : Nat × Nat) : Own (fun (_ : β) W => W.heap[b]? = some (.cells c t fz)) := fun s X Y row hs hg hr => by
  show Y.heap[b]? = _
  rw [hg.block b (Array.getElem?_eq_some_iff.1 hs).1 (fun e => by
    obtain ⟨o, ho, hc⟩ := hr b e.symm
    rw [show X.heap[b]? = _ from hs] at ho; cases ho; cases hc)]
  exact hs
def Step (n₀ b : Nat) (W W' : World) : Prop := KeepsOthers W W' ∧ Below n₀ W W' ∧ ∀ k c fz, k ≠ b → W.heap[k]? = some (.cells c 166 fz) → W'.heap[k]? = some (.cells c 166 fz)
theorem Step.trans {n₀ b : Nat} {A B C : World} (h : Step n₀ b A B) (k : Step n₀ b B C) : Step n₀ b A C :=
  ⟨h.1.trans k.1, h.2.1.trans k.2.1, fun i c fz hi x => k.2.2 i c fz hi (h.2.2 i c fz hi x)⟩
theorem Step.of_below {n₀ b : Nat} {w w' : World} (hn : n₀ ≤ w.heap.size) (h : Below w.heap.size w w') : Step n₀ b w w' :=
  ⟨⟨h.size, fun k o ho _ => by rw [h.block k (Array.getElem?_eq_some_iff.1 ho).1]; exact ho⟩, h.mono hn, fun k c fz _ x => by rw [h.block k (Array.getElem?_eq_some_iff.1 x).1]; exact x⟩
theorem Step.of_written {n₀ b : Nat} {w w' : World} (h : Below n₀ w w') (ho : Lib.OthersKept 5 (some b) w w') (hc : ∃ c T fz, w.heap[b]? = some (.cells c T fz)) : Step n₀ b w w' := by
  refine ⟨⟨h.size, fun k o hk hn => ?_⟩, h, fun k c fz hk x => ho k _ x (fun e => hk (by cases e; rfl)) (fun c' fz' e => by cases e)⟩
  refine ho k o hk (fun e => ?_) (fun c fz e => by subst e; cases hn)
  cases e
  obtain ⟨c, T, fz, hb⟩ := hc
  rw [hb] at hk; cases hk; cases hn
theorem isBuilderF_cells {T e : TypeId} {B b : Nat} {bs : List Value} {w : World} (h : Lib.IsBuilderF T e B b bs w) : ∃ c T fz, w.heap[b]? = some (.cells c T fz) := by
  rcases h with ⟨_, v, hb, _⟩ | ⟨_, v, hb, _⟩ <;> exact ⟨_, _, _, hb⟩
theorem formatUint_b (u : Nat) (hu64 : u < 18446744073709551616) (w : World) (htab : Lib.TabIs Tryz.prog w "internal/strconv.uint64pow10" .u64 Lib.pow10Tab) :
    Calls Tryz.prog 196 #[.int .u64 u, .int .i64 10] w fun e w' => e = .returned (.string ⟨(Lib.decDigits u).toArray⟩) ∧ Below w.heap.size w w' :=
  (strconv_FormatUint u hu64 w htab).mono fun e w' ⟨he, k, os, hw⟩ => ⟨he, hw ▸ Lib.below_grow _ _ (Nat.le_refl _) _ _⟩
set_option maxRecDepth 100000 in
set_option maxHeartbeats 4000000 in
theorem text_calls (a : Option Addr) (cap : Nat) (zs : List W9) (hlen : zs.length ≤ 4294967296) (w : World) (hI : zs ≠ [] → Ints w.heap.size w (.slice a zs.length cap) zs) (htab : Lib.TabIs Tryz.prog w "internal/strconv.uint64pow10" .u64 Lib.pow10Tab) :
    Calls Tryz.prog 175 #[.slice a zs.length cap] w fun e w' => e = .returned (.string ⟨(text zs).toArray⟩) ∧ Below w.heap.size w w' := by
  refine (callsIn_wide (n := 3)).1 ?_
  refine callsIn_of_wp_marks Tryz.func175 rfl trivial ?_ rfl
  simp only [Tryz.ntmps175, List.size_toArray, List.length_cons, List.length_nil, Nat.reduceAdd, Nat.reduceSub, Array.replicate_succ, Array.replicate_zero, List.push_toArray, List.append_toArray, List.nil_append, List.cons_append]
  by_cases h0 : zs = []
  · subst h0
    gi_wp2
    exact ⟨_, results_tmp rfl _ _ _, by simp [text], (Below.refl _ w).alloc (Nat.le_refl _) _⟩
  · have hp : zs.length ≠ 0 := by simpa using h0
    gi_wp2_with (refine ⟨trivial, ?_⟩; gi_at_call 195; refine (back_in _ _ trivial rfl _ _ _ _).mono ?_; rintro e w' ⟨rfl, rfl⟩)
    have hB0 : Below w.heap.size w (((w.alloc (.cells #[.slice a zs.length cap] 166)).alloc (.cells #[.pointer none, .slice none 0 0] 196)).alloc (.cells #[.slice a zs.length cap] 166)) :=
      (((Below.refl _ w).alloc (Nat.le_refl _) _).alloc (by simp) _).alloc (by simp; omega) _
    have hx0 : (((w.alloc (.cells #[.slice a zs.length cap] 166)).alloc (.cells #[.pointer none, .slice none 0 0] 196)).alloc (.cells #[.slice a zs.length cap] 166)).heap[w.heap.size]? = some (.cells #[.slice a zs.length cap] 166 (0, 0)) := by
      exact ((((Below.refl (w.heap.size + 1) _).alloc (by simp) _).alloc (by simp) _).block w.heap.size (by omega)).trans (World.alloc_heap_new w _)
    have hx1 : (((w.alloc (.cells #[.slice a zs.length cap] 166)).alloc (.cells #[.pointer none, .slice none 0 0] 196)).alloc (.cells #[.slice a zs.length cap] 166)).heap[w.heap.size + 1]? = some (.cells #[.pointer none, .slice none 0 0] 196 (0, 0)) := by
      have h2 := World.alloc_heap_new (w.alloc (.cells #[.slice a zs.length cap] 166)) (.cells #[.pointer none, .slice none 0 0] 196)
      rw [World.size_alloc] at h2
      exact ((((Below.refl (w.heap.size + 2) _).alloc (by simp) _).block (w.heap.size + 1) (by omega))).trans h2
    have hx2 : (((w.alloc (.cells #[.slice a zs.length cap] 166)).alloc (.cells #[.pointer none, .slice none 0 0] 196)).alloc (.cells #[.slice a zs.length cap] 166)).heap[w.heap.size + 1 + 1]? = some (.cells #[.slice a zs.length cap] 166 (0, 0)) := by
      have h2 := World.alloc_heap_new ((w.alloc (.cells #[.slice a zs.length cap] 166)).alloc (.cells #[.pointer none, .slice none 0 0] 196)) (.cells #[.slice a zs.length cap] 166)
      rw [World.size_alloc, World.size_alloc] at h2
      exact h2
    refine wpIn_rangeFunc_ownG rfl (by omega) (gf := 213) (lb := #[.pointer (some ⟨w.heap.size + 1 + 1, 0, none⟩)]) rfl trivial (enters_of Tryz.func213 (by kernel_rfl) rfl)
      (back_stops Fence.wide _ trivial rfl (by omega) (w.heap.size + 1 + 1) w.heap.size (.slice a zs.length cap) zs (by omega) _ (by simp) (by simp; omega) (0, 0) hx2 ((hI h0).below hB0))
      Kq.trans (Kq.turn (by simp; omega) (by simp)) (Below.refl _ _) (fun _ => rfl)
      (fun pre W => (Lib.IsBuilderF 196 5 (w.heap.size + 1) (w.heap.size + 1) (Lib.byteCells (txt zs.length pre)) W ∧ W.heap[w.heap.size]? = some (.cells #[.slice a zs.length cap] 166 (0, 0))) ∧ Below w.heap.size w W)
      (fun _ _ _ => False)
      (OwnFrom.and (OwnFrom.and (Own.from (isBuilderF_own _ _ _ _ _) _) (Own.from (heap_own _ _ _ _) _)) (ownFrom_below (Nat.le_refl _) (by simp; omega)))
      (fun _ _ _ _ _ hs _ _ => hs)
      ⟨⟨.inl ⟨Nat.le_refl _, _, hx1, World.ownsRowF_nil _ _ _ _, by simp [Value.ownBlock]⟩, hx0⟩, hB0⟩
      (fun x => { tmps := #[.slice a zs.length cap, .pointer (some ⟨w.heap.size, 0, none⟩), .string ⟨#[]⟩, .pointer (some ⟨w.heap.size + 1, 0, none⟩), .int .i64 (x.1 : Int), .int .u32 (x.2.val : Int), undef, .slice a zs.length cap, .int .i64 (zs.length : Int), .bool false, .slice a zs.length cap, .func (.func 213) #[] #[.pointer (some ⟨w.heap.size + 1 + 1, 0, none⟩)], .int .i64 (x.1 : Int), .int .u32 (x.2.val : Int), undef, undef, undef, undef, undef, undef, undef, undef, undef, undef, undef, undef, undef, undef, undef, undef], defers := [] }) ?assign ?body ?done ?stop
    case assign =>
      intro l x W K hK
      gi_wp2
      exact hK
    case stop =>
      rintro D c pre W _ _ h _
      exact h.elim
    case body =>
      rintro l pre x W ⟨⟨hb, hbox⟩, hB⟩ hlt
      have hx := x.2.isLt
      have hboxc := cell_heap hbox
      have hnd := nDigits_nine x.2
      have hnp := Lib.nDigits_pos x.2.val
      have htab' : Lib.TabIs Tryz.prog W "internal/strconv.uint64pow10" .u64 Lib.pow10Tab := Lib.tabBelow_of_tabIs htab W hB
      have hu : IntKind.u64.wrap (x.2.val : Int) = (x.2.val : Int) := by rw [IntKind.wrap_u64]; omega
      have hw1 : wrap64 ((zs.length : Int) - 1) = (zs.length : Int) - 1 := by unfold wrap64; omega
      have hw9 : wrap64 (9 - (Lib.nDigits x.2.val : Int)) = ((9 - Lib.nDigits x.2.val : Nat) : Int) := by unfold wrap64; omega
      have htl := txt_len zs.length pre
      have hs0 : w.heap.size ≤ W.heap.size := hB.size
      obtain ⟨cb, Tb, fb, hcb⟩ := isBuilderF_cells hb
      have hsb := (Array.getElem?_eq_some_iff.1 hcb).1
      clear hcb
      gi_wp2_with (refine ⟨trivial, ?_⟩; gi_at_call 196; refine (CallsIn.inRound l (callsIn_wide.2 (formatUint_b x.2.val (by omega) _ htab'))).mono ?_; rintro e W1 ⟨rfl, hB1⟩; have hb1 := isBuilderF_below hb hB1; have hS1 := Step.of_below (b := w.heap.size + 1) hs0 hB1; have hbox1 := hS1.2.2 _ _ _ (by omega) hbox; have hboxc1 := cell_heap hbox1)
      ·
        rename_i hlt1
        have hlt2 : x.1 + 1 < zs.length := by omega
        rw [Lib.decDigits_length, hw9]
        refine ⟨trivial, ?_⟩
        refine (CallsIn.inRound l (callsIn_wide.2 (Tryz.strings_Repeat ⟨#[48]⟩ (9 - Lib.nDigits x.2.val) W1 (by omega) (by show 1 * _ ≤ _; omega)))).mono ?_
        rintro e W2 ⟨rfl, hB2⟩
        have hb2 := isBuilderF_below hb1 hB2
        have hS2 := hS1.trans (Step.of_below (Nat.le_trans hs0 hB1.size) hB2)
        gi_wp2
        refine ⟨trivial, ?_⟩
        refine (CallsIn.inRound l (callsIn_wide.2 (WriteString_k (w.heap.size + 1) (w.heap.size + 1) _ _ W2 hb2 (by rw [Lib.byteCells_length]; simp [ByteArray.size, Lib.repeatL_length]; omega) (by have := hB1.size; have := hB2.size; omega)))).mono ?_
        rintro e W3 ⟨rfl, hb3, hB3, hO3⟩
        have hS3 := hS2.trans (Step.of_written (hB3.mono (Nat.le_succ _)) hO3 (isBuilderF_cells hb2))
        gi_wp2
        refine ⟨trivial, ?_⟩
        refine (CallsIn.inRound l (callsIn_wide.2 (WriteString_k (w.heap.size + 1) (w.heap.size + 1) _ _ W3 (.inr hb3) (by rw [List.length_append, Lib.byteCells_length, Lib.strCells_length]; simp [ByteArray.size, Lib.decDigits_length, Lib.repeatL_length]; omega) (by have := hB1.size; have := hB2.size; have := hB3.size; omega)))).mono ?_
        rintro e W4 ⟨rfl, hb4, hB4, hO4⟩
        have hS4 := hS3.trans (Step.of_written (hB4.mono (Nat.le_succ _)) hO4 (isBuilderF_cells (.inr hb3)))
        gi_wp2
        refine ⟨hS4.1.from _, ⟨hS4.2.1, fun c fz hc => hS4.2.2 _ c fz (by omega) hc⟩, ⟨.inr ?_, hS4.2.2 _ _ _ (by omega) hbox⟩, hB.trans hS4.2.1⟩
        rw [txt_snoc]
        unfold piece
        rw [if_pos hlt2]
        rw [strCells_list, strCells_list, repeat_zero] at hb4
        simpa [Lib.byteCells] using hb4
      · have hlt2 : ¬ x.1 + 1 < zs.length := by rename_i hlt1; omega
        refine ⟨trivial, ?_⟩
        refine (CallsIn.inRound l (callsIn_wide.2 (WriteString_k (w.heap.size + 1) (w.heap.size + 1) _ _ W1 hb1 (by rw [Lib.byteCells_length]; simp [ByteArray.size, Lib.decDigits_length]; omega) (by have := hB1.size; omega)))).mono ?_
        rintro e W2 ⟨rfl, hb2, hB2, hO2⟩
        have hS2 := hS1.trans (Step.of_written (hB2.mono (Nat.le_succ _)) hO2 (isBuilderF_cells hb1))
        gi_wp2
        refine ⟨hS2.1.from _, ⟨hS2.2.1, fun c fz hc => hS2.2.2 _ c fz (by omega) hc⟩, ⟨.inr ?_, hS2.2.2 _ _ _ (by omega) hbox⟩, hB.trans hS2.2.1⟩
        rw [txt_snoc]
        unfold piece
        rw [if_neg hlt2]
        rw [strCells_list] at hb2
        simpa [Lib.byteCells] using hb2
    case done =>
      rintro D ys W hD rfl ⟨⟨hb, hbox⟩, hB⟩ hK
      gi_wp2
      obtain ⟨cb, Tb, fb, hcb⟩ := isBuilderF_cells hb
      have hsb := (Array.getElem?_eq_some_iff.1 hcb).1
      clear hcb
      refine ⟨trivial, ?_⟩
      refine (callsIn_wide.2 (Tryz.Builder_String_any_k (w.heap.size + 1) (w.heap.size + 1) _ W hb (by omega))).mono ?_
      rintro e W2 ⟨rfl, hb2, hB2, hO2⟩
      have hD2 : w.heap.size + 3 ≤ D := by simp at hD; omega
      have hK2 : W2.heap[D]? = some (.deferred (some [])) := hO2 D _ hK (by intro e; cases e; omega) (fun c fz e => by cases e)
      gi_wp2
      refine ⟨by simp, .inl ⟨_, _, rfl, run_takeDeferred hK2, ?_⟩⟩
      exact ⟨_, results_tmp rfl _ _ _, by simp [text, h0], (hB.trans (hB2.mono (Nat.le_succ _))).trans (belowK_b (w := w) (Nat.le_refl _) W2 D _ _ (by omega) hK2 rfl rfl)⟩
end Go.Proofs.YtolehnkoocnenaaGreatDoor.T
