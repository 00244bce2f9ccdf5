/- A part of a proof; the last text of this claim says of what. -/
import Derived.Test.YtfbmphbmidlijaaGreatDoorV25
import Derived.Test.YtfbmphbmidlijaaGreatDoorProg
import Derived.KernelRfl
import Derived.Lib.ItoaNum
import Derived.WalkKit
import Derived.RangeFuncBox
import Derived.RangeFuncLeaves
import Derived.Shelf.Abstract
import Derived.OwnWalkIn
import Derived.TacticsInMore
import Derived.LoopNIn
import Derived.LoopIn
set_option linter.unusedVariables false
set_option linter.unusedSimpArgs false
set_option linter.unusedSectionVars false
namespace Go.Proofs.YtfbmphbmidlijaaGreatDoor.S
open Go Go.Sx
set_option maxRecDepth 100000
def tab : TT := (.node (.node (.node (.node (.node (.node (.node (.node .nil 1 ⟨1, false, .func, [.val .nilFunc], [], 8⟩
 .nil) 2 ⟨1, false, .int .i64, [.val (.int .i64 0)], [], 8⟩
 (.node .nil 3 ⟨1, false, .int .i64, [.val (.int .i64 0)], [], 8⟩
 .nil)) 4 ⟨1, false, .bool, [.val (.bool false)], [], 1⟩
 (.node (.node .nil 5 ⟨1, false, .int .u8, [.val (.int .u8 0)], [], 1⟩
 .nil) 6 ⟨1, false, .int .u8, [.val (.int .u8 0)], [], 1⟩
 .nil)) 7 ⟨4, true, .struct [(0, 2), (1, 3), (2, 4), (3, 6)], [.val (.int .i64 0), .val (.int .i64 0), .val (.bool false), .val (.int .u8 0)], [], 24⟩
 (.node (.node (.node .nil 8 ⟨4, true, .struct [(0, 2), (1, 3), (2, 4), (3, 6)], [.val (.int .i64 0), .val (.int .i64 0), .val (.bool false), .val (.int .u8 0)], [], 24⟩
 .nil) 9 ⟨1, false, .string, [.val (.string ⟨#[]⟩)], [], 16⟩
 .nil) 10 ⟨1, false, .string, [.val (.string ⟨#[]⟩)], [], 16⟩
 (.node (.node .nil 11 ⟨1, false, .string, [.val (.string ⟨#[]⟩)], [], 16⟩
 .nil) 12 ⟨1, false, .int .u64, [.val (.int .u64 0)], [], 8⟩
 .nil))) 13 ⟨2, true, .struct [(0, 9), (1, 12)], [.val (.string ⟨#[]⟩), .val (.int .u64 0)], [], 24⟩
 (.node (.node (.node (.node .nil 14 ⟨2, true, .struct [(0, 9), (1, 12)], [.val (.string ⟨#[]⟩), .val (.int .u64 0)], [], 24⟩
 .nil) 18 ⟨1, true, .struct [(0, 17)], [.val (.pointer none)], [], 8⟩
 (.node .nil 19 ⟨1, true, .struct [(0, 17)], [.val (.pointer none)], [], 8⟩
 .nil)) 21 ⟨1, false, .int .i32, [.val (.int .i32 0)], [], 4⟩
 (.node (.node .nil 22 ⟨1, false, .string, [.val (.string ⟨#[]⟩)], [], 16⟩
 .nil) 23 ⟨1, false, .func, [.val .nilFunc], [], 8⟩
 .nil)) 24 ⟨1, false, .func, [.val .nilFunc], [], 8⟩
 (.node (.node (.node .nil 25 ⟨1, false, .int .i64, [.val (.int .i64 0)], [], 8⟩
 .nil) 27 ⟨1, false, .func, [.val .nilFunc], [], 8⟩
 .nil) 29 ⟨1, false, .func, [.val .nilFunc], [], 8⟩
 (.node (.node .nil 30 ⟨1, false, .func, [.val .nilFunc], [], 8⟩
 .nil) 31 ⟨1, false, .func, [.val .nilFunc], [], 8⟩
 .nil)))) 33 ⟨1, false, .func, [.val .nilFunc], [], 8⟩
 (.node (.node (.node (.node (.node .nil 34 ⟨1, false, .func, [.val .nilFunc], [], 8⟩
 .nil) 35 ⟨1, false, .func, [.val .nilFunc], [], 8⟩
 (.node .nil 37 ⟨1, false, .func, [.val .nilFunc], [], 8⟩
 .nil)) 38 ⟨1, false, .func, [.val .nilFunc], [], 8⟩
 (.node (.node .nil 39 ⟨1, false, .func, [.val .nilFunc], [], 8⟩
 .nil) 40 ⟨1, false, .func, [.val .nilFunc], [], 8⟩
 .nil)) 41 ⟨1, false, .func, [.val .nilFunc], [], 8⟩
 (.node (.node (.node .nil 42 ⟨1, false, .func, [.val .nilFunc], [], 8⟩
 .nil) 43 ⟨1, false, .func, [.val .nilFunc], [], 8⟩
 .nil) 44 ⟨1, false, .func, [.val .nilFunc], [], 8⟩
 (.node (.node .nil 45 ⟨1, false, .func, [.val .nilFunc], [], 8⟩
 .nil) 47 ⟨1, false, .func, [.val .nilFunc], [], 8⟩
 .nil))) 48 ⟨1, false, .func, [.val .nilFunc], [], 8⟩
 (.node (.node (.node (.node .nil 49 ⟨1, false, .func, [.val .nilFunc], [], 8⟩
 .nil) 50 ⟨1, false, .slice 22, [.sl 0 []], [], 24⟩
 (.node .nil 51 ⟨1, false, .func, [.val .nilFunc], [], 8⟩
 .nil)) 53 ⟨1, false, .func, [.val .nilFunc], [], 8⟩
 (.node (.node .nil 54 ⟨2, true, .struct [(0, 9), (1, 9)], [.val (.string ⟨#[]⟩), .val (.string ⟨#[]⟩)], [], 32⟩
 .nil) 55 ⟨2, true, .struct [(0, 9), (1, 9)], [.val (.string ⟨#[]⟩), .val (.string ⟨#[]⟩)], [.string, .string], 32⟩
 .nil)) 56 ⟨1, false, .func, [.val .nilFunc], [], 8⟩
 (.node (.node (.node .nil 57 ⟨1, false, .func, [.val .nilFunc], [], 8⟩
 .nil) 58 ⟨1, false, .slice 92, [.sl 0 []], [], 24⟩
 .nil) 59 ⟨1, false, .slice 92, [.sl 0 []], [], 24⟩
 (.node (.node .nil 60 ⟨2, true, .struct [(0, 4), (1, 59)], [.val (.bool false), .sl 0 []], [], 32⟩
 .nil) 61 ⟨2, true, .struct [(0, 4), (1, 59)], [.val (.bool false), .sl 0 []], [], 32⟩
 .nil))))) 62 ⟨1, false, .func, [.val .nilFunc], [], 8⟩
 (.node (.node (.node (.node (.node (.node .nil 63 ⟨1, false, .func, [.val .nilFunc], [], 8⟩
 .nil) 64 ⟨1, false, .func, [.val .nilFunc], [], 8⟩
 (.node .nil 65 ⟨3, true, .struct [(0, 61), (2, 59)], [.val (.bool false), .sl 0 [], .sl 0 []], [], 56⟩
 .nil)) 66 ⟨3, true, .struct [(0, 61), (2, 59)], [.val (.bool false), .sl 0 [], .sl 0 []], [], 56⟩
 (.node (.node .nil 67 ⟨1, false, .func, [.val .nilFunc], [], 8⟩
 .nil) 68 ⟨1, false, .func, [.val .nilFunc], [], 8⟩
 .nil)) 70 ⟨1, false, .func, [.val .nilFunc], [], 8⟩
 (.node (.node (.node .nil 71 ⟨1, false, .func, [.val .nilFunc], [], 8⟩
 .nil) 73 ⟨1, false, .func, [.val .nilFunc], [], 8⟩
 .nil) 75 ⟨1, false, .func, [.val .nilFunc], [], 8⟩
 (.node (.node .nil 76 ⟨1, false, .func, [.val .nilFunc], [], 8⟩
 .nil) 77 ⟨1, false, .func, [.val .nilFunc], [], 8⟩
 .nil))) 79 ⟨1, false, .func, [.val .nilFunc], [], 8⟩
 (.node (.node (.node (.node .nil 80 ⟨1, false, .func, [.val .nilFunc], [], 8⟩
 .nil) 81 ⟨1, false, .func, [.val .nilFunc], [], 8⟩
 (.node .nil 82 ⟨1, false, .func, [.val .nilFunc], [], 8⟩
 .nil)) 83 ⟨1, false, .func, [.val .nilFunc], [], 8⟩
 (.node (.node .nil 84 ⟨1, false, .func, [.val .nilFunc], [], 8⟩
 .nil) 85 ⟨1, false, .func, [.val .nilFunc], [], 8⟩
 .nil)) 86 ⟨1, false, .func, [.val .nilFunc], [], 8⟩
 (.node (.node (.node .nil 87 ⟨1, false, .func, [.val .nilFunc], [], 8⟩
 .nil) 88 ⟨1, false, .func, [.val .nilFunc], [], 8⟩
 .nil) 89 ⟨1, false, .func, [.val .nilFunc], [], 8⟩
 (.node (.node .nil 90 ⟨1, false, .func, [.val .nilFunc], [], 8⟩
 .nil) 91 ⟨1, false, .func, [.val .nilFunc], [], 8⟩
 .nil)))) 92 ⟨1, false, .int .u32, [.val (.int .u32 0)], [], 4⟩
 (.node (.node (.node (.node (.node .nil 93 ⟨1, false, .func, [.val .nilFunc], [], 8⟩
 .nil) 94 ⟨1, false, .func, [.val .nilFunc], [], 8⟩
 (.node .nil 95 ⟨1, false, .func, [.val .nilFunc], [], 8⟩
 .nil)) 96 ⟨1, false, .func, [.val .nilFunc], [], 8⟩
 (.node (.node .nil 97 ⟨1, false, .func, [.val .nilFunc], [], 8⟩
 .nil) 98 ⟨1, false, .func, [.val .nilFunc], [], 8⟩
 .nil)) 99 ⟨1, false, .func, [.val .nilFunc], [], 8⟩
 (.node (.node (.node .nil 100 ⟨2, true, .struct [(0, 4), (1, 9)], [.val (.bool false), .val (.string ⟨#[]⟩)], [], 24⟩
 .nil) 101 ⟨2, true, .struct [(0, 4), (1, 9)], [.val (.bool false), .val (.string ⟨#[]⟩)], [.bool, .string], 24⟩
 .nil) 103 ⟨1, false, .func, [.val .nilFunc], [], 8⟩
 (.node (.node .nil 104 ⟨1, false, .slice 92, [.sl 0 []], [], 24⟩
 .nil) 106 ⟨1, false, .func, [.val .nilFunc], [], 8⟩
 .nil))) 107 ⟨1, false, .func, [.val .nilFunc], [], 8⟩
 (.node (.node (.node (.node .nil 108 ⟨1, false, .func, [.val .nilFunc], [], 8⟩
 .nil) 110 ⟨1, false, .func, [.val .nilFunc], [], 8⟩
 .nil) 111 ⟨1, false, .func, [.val .nilFunc], [], 8⟩
 (.node (.node .nil 112 ⟨1, false, .func, [.val .nilFunc], [], 8⟩
 .nil) 114 ⟨1, false, .func, [.val .nilFunc], [], 8⟩
 .nil)) 115 ⟨1, false, .func, [.val .nilFunc], [], 8⟩
 (.node (.node (.node .nil 116 ⟨1, false, .func, [.val .nilFunc], [], 8⟩
 .nil) 118 ⟨1, false, .func, [.val .nilFunc], [], 8⟩
 .nil) 119 ⟨1, false, .func, [.val .nilFunc], [], 8⟩
 (.node (.node .nil 120 ⟨1, false, .func, [.val .nilFunc], [], 8⟩
 .nil) 121 ⟨1, false, .func, [.val .nilFunc], [], 8⟩
 .nil)))))) 122 ⟨1, false, .func, [.val .nilFunc], [], 8⟩
 (.node (.node (.node (.node (.node (.node (.node .nil 123 ⟨1, false, .map 5, [.val (.map none)], [], 8⟩
 .nil) 124 ⟨1, false, .func, [.val .nilFunc], [], 8⟩
 (.node .nil 125 ⟨1, false, .func, [.val .nilFunc], [], 8⟩
 .nil)) 127 ⟨1, false, .func, [.val .nilFunc], [], 8⟩
 (.node (.node .nil 129 ⟨1, false, .func, [.val .nilFunc], [], 8⟩
 .nil) 130 ⟨1, false, .int .u64, [.val (.int .u64 0)], [], 8⟩
 .nil)) 132 ⟨1, false, .func, [.val .nilFunc], [], 8⟩
 (.node (.node (.node .nil 133 ⟨1, false, .func, [.val .nilFunc], [], 8⟩
 .nil) 135 ⟨1, false, .slice 5, [.sl 0 []], [], 24⟩
 .nil) 136 ⟨2, true, .struct [(0, 134), (1, 135)], [.val (.pointer none), .sl 0 []], [], 32⟩
 (.node (.node .nil 137 ⟨2, true, .struct [(0, 134), (1, 135)], [.val (.pointer none), .sl 0 []], [], 32⟩
 .nil) 138 ⟨1, false, .func, [.val .nilFunc], [], 8⟩
 .nil))) 142 ⟨1, false, .func, [.val .nilFunc], [], 8⟩
 (.node (.node (.node (.node .nil 143 ⟨1, false, .func, [.val .nilFunc], [], 8⟩
 .nil) 144 ⟨1, false, .func, [.val .nilFunc], [], 8⟩
 (.node .nil 145 ⟨1, false, .func, [.val .nilFunc], [], 8⟩
 .nil)) 146 ⟨256, true, .array 256 4, List.replicate 256 (.val (.bool false)), [], 256⟩
 (.node (.node .nil 147 ⟨256, true, .array 256 4, List.replicate 256 (.val (.bool false)), [], 256⟩
 .nil) 149 ⟨1, false, .func, [.val .nilFunc], [], 8⟩
 .nil)) 150 ⟨1, false, .func, [.val .nilFunc], [], 8⟩
 (.node (.node (.node .nil 153 ⟨1, false, .func, [.val .nilFunc], [], 8⟩
 .nil) 154 ⟨1, false, .func, [.val .nilFunc], [], 8⟩
 .nil) 155 ⟨1, false, .func, [.val .nilFunc], [], 8⟩
 (.node (.node .nil 156 ⟨1, false, .int .u64, [.val (.int .u64 0)], [], 8⟩
 .nil) 158 ⟨1, false, .func, [.val .nilFunc], [], 8⟩
 .nil)))) 159 ⟨1, false, .func, [.val .nilFunc], [], 8⟩
 (.node (.node (.node (.node (.node .nil 160 ⟨1, false, .func, [.val .nilFunc], [], 8⟩
 .nil) 161 ⟨1, false, .func, [.val .nilFunc], [], 8⟩
 (.node .nil 163 ⟨1, false, .func, [.val .nilFunc], [], 8⟩
 .nil)) 164 ⟨1, false, .func, [.val .nilFunc], [], 8⟩
 (.node (.node .nil 165 ⟨1, false, .func, [.val .nilFunc], [], 8⟩
 .nil) 166 ⟨1, false, .func, [.val .nilFunc], [], 8⟩
 .nil)) 167 ⟨1, false, .func, [.val .nilFunc], [], 8⟩
 (.node (.node (.node .nil 168 ⟨1, false, .func, [.val .nilFunc], [], 8⟩
 .nil) 170 ⟨1, false, .func, [.val .nilFunc], [], 8⟩
 .nil) 171 ⟨1, false, .func, [.val .nilFunc], [], 8⟩
 (.node (.node .nil 172 ⟨1, false, .func, [.val .nilFunc], [], 8⟩
 .nil) 174 ⟨1, false, .func, [.val .nilFunc], [], 8⟩
 .nil))) 175 ⟨1, false, .func, [.val .nilFunc], [], 8⟩
 (.node (.node (.node (.node .nil 176 ⟨1, false, .func, [.val .nilFunc], [], 8⟩
 .nil) 177 ⟨2, true, .array 2 176, [.val .nilFunc, .val .nilFunc], [], 16⟩
 (.node .nil 178 ⟨4, true, .array 2 177, [.val .nilFunc, .val .nilFunc, .val .nilFunc, .val .nilFunc], [], 32⟩
 .nil)) 179 ⟨1, false, .func, [.val .nilFunc], [], 8⟩
 (.node (.node .nil 180 ⟨1, false, .func, [.val .nilFunc], [], 8⟩
 .nil) 181 ⟨1, false, .func, [.val .nilFunc], [], 8⟩
 .nil)) 182 ⟨1, false, .func, [.val .nilFunc], [], 8⟩
 (.node (.node (.node .nil 184 ⟨1, false, .func, [.val .nilFunc], [], 8⟩
 .nil) 186 ⟨1, false, .func, [.val .nilFunc], [], 8⟩
 .nil) 188 ⟨1, false, .func, [.val .nilFunc], [], 8⟩
 (.node (.node .nil 190 ⟨1, false, .func, [.val .nilFunc], [], 8⟩
 .nil) 191 ⟨1, false, .func, [.val .nilFunc], [], 8⟩
 .nil))))) 193 ⟨1, false, .func, [.val .nilFunc], [], 8⟩
 (.node (.node (.node (.node (.node (.node .nil 194 ⟨1, false, .func, [.val .nilFunc], [], 8⟩
 .nil) 195 ⟨1, false, .func, [.val .nilFunc], [], 8⟩
 (.node .nil 196 ⟨1, false, .func, [.val .nilFunc], [], 8⟩
 .nil)) 197 ⟨1, false, .func, [.val .nilFunc], [], 8⟩
 (.node (.node .nil 198 ⟨1, false, .func, [.val .nilFunc], [], 8⟩
 .nil) 199 ⟨1, false, .func, [.val .nilFunc], [], 8⟩
 .nil)) 200 ⟨1, false, .func, [.val .nilFunc], [], 8⟩
 (.node (.node (.node .nil 202 ⟨1, false, .func, [.val .nilFunc], [], 8⟩
 .nil) 203 ⟨1, false, .func, [.val .nilFunc], [], 8⟩
 .nil) 204 ⟨1, false, .func, [.val .nilFunc], [], 8⟩
 (.node (.node .nil 205 ⟨1, false, .func, [.val .nilFunc], [], 8⟩
 .nil) 206 ⟨1, false, .int .i64, [.val (.int .i64 0)], [], 8⟩
 .nil))) 207 ⟨1, false, .func, [.val .nilFunc], [], 8⟩
 (.node (.node (.node (.node .nil 209 ⟨1, false, .func, [.val .nilFunc], [], 8⟩
 .nil) 210 ⟨1, false, .func, [.val .nilFunc], [], 8⟩
 (.node .nil 211 ⟨24, true, .array 24 5, [.val (.int .u8 0), .val (.int .u8 0), .val (.int .u8 0), .val (.int .u8 0), .val (.int .u8 0), .val (.int .u8 0), .val (.int .u8 0), .val (.int .u8 0), .val (.int .u8 0), .val (.int .u8 0), .val (.int .u8 0), .val (.int .u8 0), .val (.int .u8 0), .val (.int .u8 0), .val (.int .u8 0), .val (.int .u8 0), .val (.int .u8 0), .val (.int .u8 0), .val (.int .u8 0), .val (.int .u8 0), .val (.int .u8 0), .val (.int .u8 0), .val (.int .u8 0), .val (.int .u8 0)], [], 24⟩
 .nil)) 212 ⟨1, false, .func, [.val .nilFunc], [], 8⟩
 (.node (.node .nil 213 ⟨1, false, .func, [.val .nilFunc], [], 8⟩
 .nil) 215 ⟨1, false, .func, [.val .nilFunc], [], 8⟩
 .nil)) 216 ⟨1, false, .func, [.val .nilFunc], [], 8⟩
 (.node (.node (.node .nil 217 ⟨1, false, .func, [.val .nilFunc], [], 8⟩
 .nil) 218 ⟨256, true, .array 256 5, List.replicate 256 (.val (.int .u8 0)), [], 256⟩
 .nil) 219 ⟨2, true, .struct [(0, 5), (1, 5)], [.val (.int .u8 0), .val (.int .u8 0)], [], 2⟩
 (.node (.node .nil 220 ⟨2, true, .struct [(0, 5), (1, 5)], [.val (.int .u8 0), .val (.int .u8 0)], [], 2⟩
 .nil) 221 ⟨32, true, .array 16 220, [.val (.int .u8 0), .val (.int .u8 0), .val (.int .u8 0), .val (.int .u8 0), .val (.int .u8 0), .val (.int .u8 0), .val (.int .u8 0), .val (.int .u8 0), .val (.int .u8 0), .val (.int .u8 0), .val (.int .u8 0), .val (.int .u8 0), .val (.int .u8 0), .val (.int .u8 0), .val (.int .u8 0), .val (.int .u8 0), .val (.int .u8 0), .val (.int .u8 0), .val (.int .u8 0), .val (.int .u8 0), .val (.int .u8 0), .val (.int .u8 0), .val (.int .u8 0), .val (.int .u8 0), .val (.int .u8 0), .val (.int .u8 0), .val (.int .u8 0), .val (.int .u8 0), .val (.int .u8 0), .val (.int .u8 0), .val (.int .u8 0), .val (.int .u8 0)], [], 32⟩
 .nil)))) 222 ⟨1, false, .func, [.val .nilFunc], [], 8⟩
 (.node (.node (.node (.node (.node .nil 223 ⟨1, false, .func, [.val .nilFunc], [], 8⟩
 .nil) 224 ⟨3, true, .struct [(0, 9), (1, 9), (2, 140)], [.val (.string ⟨#[]⟩), .val (.string ⟨#[]⟩), .val .nilIface], [], 48⟩
 (.node .nil 225 ⟨3, true, .struct [(0, 9), (1, 9), (2, 140)], [.val (.string ⟨#[]⟩), .val (.string ⟨#[]⟩), .val .nilIface], [], 48⟩
 .nil)) 226 ⟨1, false, .func, [.val .nilFunc], [], 8⟩
 (.node (.node .nil 227 ⟨20, true, .array 20 156, [.val (.int .u64 0), .val (.int .u64 0), .val (.int .u64 0), .val (.int .u64 0), .val (.int .u64 0), .val (.int .u64 0), .val (.int .u64 0), .val (.int .u64 0), .val (.int .u64 0), .val (.int .u64 0), .val (.int .u64 0), .val (.int .u64 0), .val (.int .u64 0), .val (.int .u64 0), .val (.int .u64 0), .val (.int .u64 0), .val (.int .u64 0), .val (.int .u64 0), .val (.int .u64 0), .val (.int .u64 0)], [], 160⟩
 .nil) 228 ⟨65, true, .array 65 5, List.replicate 65 (.val (.int .u8 0)), [], 65⟩
 .nil)) 229 ⟨1, false, .func, [.val .nilFunc], [], 8⟩
 (.node (.node (.node .nil 231 ⟨1, true, .struct [(0, 9)], [.val (.string ⟨#[]⟩)], [], 16⟩
 .nil) 232 ⟨1, true, .struct [(0, 9)], [.val (.string ⟨#[]⟩)], [], 16⟩
 .nil) 233 ⟨1, false, .func, [.val .nilFunc], [], 8⟩
 (.node (.node .nil 234 ⟨32, true, .array 32 5, [.val (.int .u8 0), .val (.int .u8 0), .val (.int .u8 0), .val (.int .u8 0), .val (.int .u8 0), .val (.int .u8 0), .val (.int .u8 0), .val (.int .u8 0), .val (.int .u8 0), .val (.int .u8 0), .val (.int .u8 0), .val (.int .u8 0), .val (.int .u8 0), .val (.int .u8 0), .val (.int .u8 0), .val (.int .u8 0), .val (.int .u8 0), .val (.int .u8 0), .val (.int .u8 0), .val (.int .u8 0), .val (.int .u8 0), .val (.int .u8 0), .val (.int .u8 0), .val (.int .u8 0), .val (.int .u8 0), .val (.int .u8 0), .val (.int .u8 0), .val (.int .u8 0), .val (.int .u8 0), .val (.int .u8 0), .val (.int .u8 0), .val (.int .u8 0)], [], 32⟩
 .nil) 235 ⟨64, true, .array 64 5, [.val (.int .u8 0), .val (.int .u8 0), .val (.int .u8 0), .val (.int .u8 0), .val (.int .u8 0), .val (.int .u8 0), .val (.int .u8 0), .val (.int .u8 0), .val (.int .u8 0), .val (.int .u8 0), .val (.int .u8 0), .val (.int .u8 0), .val (.int .u8 0), .val (.int .u8 0), .val (.int .u8 0), .val (.int .u8 0), .val (.int .u8 0), .val (.int .u8 0), .val (.int .u8 0), .val (.int .u8 0), .val (.int .u8 0), .val (.int .u8 0), .val (.int .u8 0), .val (.int .u8 0), .val (.int .u8 0), .val (.int .u8 0), .val (.int .u8 0), .val (.int .u8 0), .val (.int .u8 0), .val (.int .u8 0), .val (.int .u8 0), .val (.int .u8 0), .val (.int .u8 0), .val (.int .u8 0), .val (.int .u8 0), .val (.int .u8 0), .val (.int .u8 0), .val (.int .u8 0), .val (.int .u8 0), .val (.int .u8 0), .val (.int .u8 0), .val (.int .u8 0), .val (.int .u8 0), .val (.int .u8 0), .val (.int .u8 0), .val (.int .u8 0), .val (.int .u8 0), .val (.int .u8 0), .val (.int .u8 0), .val (.int .u8 0), .val (.int .u8 0), .val (.int .u8 0), .val (.int .u8 0), .val (.int .u8 0), .val (.int .u8 0), .val (.int .u8 0), .val (.int .u8 0), .val (.int .u8 0), .val (.int .u8 0), .val (.int .u8 0), .val (.int .u8 0), .val (.int .u8 0), .val (.int .u8 0), .val (.int .u8 0)], [], 64⟩
 .nil))) 236 ⟨4, true, .struct [(0, 17), (1, 17), (2, 17), (3, 9)], [.val (.pointer none), .val (.pointer none), .val (.pointer none), .val (.string ⟨#[]⟩)], [], 40⟩
 (.node (.node (.node (.node .nil 237 ⟨4, true, .struct [(0, 17), (1, 17), (2, 17), (3, 9)], [.val (.pointer none), .val (.pointer none), .val (.pointer none), .val (.string ⟨#[]⟩)], [], 40⟩
 .nil) 238 ⟨0, true, .array 0 16, [], [], 0⟩
 .nil) 239 ⟨0, true, .struct [(0, 238)], [], [], 0⟩
 (.node (.node .nil 240 ⟨0, true, .struct [(0, 238)], [], [], 0⟩
 .nil) 241 ⟨1, false, .int .u8, [.val (.int .u8 0)], [], 1⟩
 .nil)) 242 ⟨1, false, .int .u8, [.val (.int .u8 0)], [], 1⟩
 (.node (.node (.node .nil 243 ⟨1, false, .func, [.val .nilFunc], [], 8⟩
 .nil) 244 ⟨1, false, .int .i32, [.val (.int .i32 0)], [], 4⟩
 .nil) 245 ⟨1, false, .int .i32, [.val (.int .i32 0)], [], 4⟩
 (.node (.node .nil 246 ⟨11, true, .struct [(0, 12), (1, 12), (2, 92), (3, 241), (4, 5), (5, 5), (6, 242), (7, 243), (8, 187), (9, 244), (10, 245)], [.val (.int .u64 0), .val (.int .u64 0), .val (.int .u32 0), .val (.int .u8 0), .val (.int .u8 0), .val (.int .u8 0), .val (.int .u8 0), .val .nilFunc, .val (.pointer none), .val (.int .i32 0), .val (.int .i32 0)], [], 48⟩
 .nil) 247 ⟨11, true, .struct [(0, 12), (1, 12), (2, 92), (3, 241), (4, 5), (5, 5), (6, 242), (7, 243), (8, 187), (9, 244), (10, 245)], [.val (.int .u64 0), .val (.int .u64 0), .val (.int .u32 0), .val (.int .u8 0), .val (.int .u8 0), .val (.int .u8 0), .val (.int .u8 0), .val .nilFunc, .val (.pointer none), .val (.int .i32 0), .val (.int .i32 0)], [], 48⟩
 .nil)))))))
def T : Tab := tab.get
theorem tk : TOk Tryz.prog T := tOk_of (by kernel_rfl)
theorem ty :
  T 1 = some ⟨1, false, .func, [.val .nilFunc], [], 8⟩ ∧
  T 2 = some ⟨1, false, .int .i64, [.val (.int .i64 0)], [], 8⟩ ∧
  T 3 = some ⟨1, false, .int .i64, [.val (.int .i64 0)], [], 8⟩ ∧
  T 4 = some ⟨1, false, .bool, [.val (.bool false)], [], 1⟩ ∧
  T 5 = some ⟨1, false, .int .u8, [.val (.int .u8 0)], [], 1⟩ ∧
  T 6 = some ⟨1, false, .int .u8, [.val (.int .u8 0)], [], 1⟩ ∧
  T 7 = some ⟨4, true, .struct [(0, 2), (1, 3), (2, 4), (3, 6)], [.val (.int .i64 0), .val (.int .i64 0), .val (.bool false), .val (.int .u8 0)], [], 24⟩ ∧
  T 8 = some ⟨4, true, .struct [(0, 2), (1, 3), (2, 4), (3, 6)], [.val (.int .i64 0), .val (.int .i64 0), .val (.bool false), .val (.int .u8 0)], [], 24⟩ ∧
  T 9 = some ⟨1, false, .string, [.val (.string ⟨#[]⟩)], [], 16⟩ ∧
  T 10 = some ⟨1, false, .string, [.val (.string ⟨#[]⟩)], [], 16⟩ ∧
  T 11 = some ⟨1, false, .string, [.val (.string ⟨#[]⟩)], [], 16⟩ ∧
  T 12 = some ⟨1, false, .int .u64, [.val (.int .u64 0)], [], 8⟩ ∧
  T 13 = some ⟨2, true, .struct [(0, 9), (1, 12)], [.val (.string ⟨#[]⟩), .val (.int .u64 0)], [], 24⟩ ∧
  T 14 = some ⟨2, true, .struct [(0, 9), (1, 12)], [.val (.string ⟨#[]⟩), .val (.int .u64 0)], [], 24⟩ ∧
  T 18 = some ⟨1, true, .struct [(0, 17)], [.val (.pointer none)], [], 8⟩ ∧
  T 19 = some ⟨1, true, .struct [(0, 17)], [.val (.pointer none)], [], 8⟩ ∧
  T 21 = some ⟨1, false, .int .i32, [.val (.int .i32 0)], [], 4⟩ ∧
  T 22 = some ⟨1, false, .string, [.val (.string ⟨#[]⟩)], [], 16⟩ ∧
  T 23 = some ⟨1, false, .func, [.val .nilFunc], [], 8⟩ ∧
  T 24 = some ⟨1, false, .func, [.val .nilFunc], [], 8⟩ ∧
  T 25 = some ⟨1, false, .int .i64, [.val (.int .i64 0)], [], 8⟩ ∧
  T 27 = some ⟨1, false, .func, [.val .nilFunc], [], 8⟩ ∧
  T 29 = some ⟨1, false, .func, [.val .nilFunc], [], 8⟩ ∧
  T 30 = some ⟨1, false, .func, [.val .nilFunc], [], 8⟩ ∧
  T 31 = some ⟨1, false, .func, [.val .nilFunc], [], 8⟩ ∧
  T 33 = some ⟨1, false, .func, [.val .nilFunc], [], 8⟩ ∧
  T 34 = some ⟨1, false, .func, [.val .nilFunc], [], 8⟩ ∧
  T 35 = some ⟨1, false, .func, [.val .nilFunc], [], 8⟩ ∧
  T 37 = some ⟨1, false, .func, [.val .nilFunc], [], 8⟩ ∧
  T 38 = some ⟨1, false, .func, [.val .nilFunc], [], 8⟩ ∧
  T 39 = some ⟨1, false, .func, [.val .nilFunc], [], 8⟩ ∧
  T 40 = some ⟨1, false, .func, [.val .nilFunc], [], 8⟩ ∧
  T 41 = some ⟨1, false, .func, [.val .nilFunc], [], 8⟩ ∧
  T 42 = some ⟨1, false, .func, [.val .nilFunc], [], 8⟩ ∧
  T 43 = some ⟨1, false, .func, [.val .nilFunc], [], 8⟩ ∧
  T 44 = some ⟨1, false, .func, [.val .nilFunc], [], 8⟩ ∧
  T 45 = some ⟨1, false, .func, [.val .nilFunc], [], 8⟩ ∧
  T 47 = some ⟨1, false, .func, [.val .nilFunc], [], 8⟩ ∧
  T 48 = some ⟨1, false, .func, [.val .nilFunc], [], 8⟩ ∧
  T 49 = some ⟨1, false, .func, [.val .nilFunc], [], 8⟩ ∧
  T 50 = some ⟨1, false, .slice 22, [.sl 0 []], [], 24⟩ ∧
  T 51 = some ⟨1, false, .func, [.val .nilFunc], [], 8⟩ ∧
  T 53 = some ⟨1, false, .func, [.val .nilFunc], [], 8⟩ ∧
  T 54 = some ⟨2, true, .struct [(0, 9), (1, 9)], [.val (.string ⟨#[]⟩), .val (.string ⟨#[]⟩)], [], 32⟩ ∧
  T 55 = some ⟨2, true, .struct [(0, 9), (1, 9)], [.val (.string ⟨#[]⟩), .val (.string ⟨#[]⟩)], [.string, .string], 32⟩ ∧
  T 56 = some ⟨1, false, .func, [.val .nilFunc], [], 8⟩ ∧
  T 57 = some ⟨1, false, .func, [.val .nilFunc], [], 8⟩ ∧
  T 58 = some ⟨1, false, .slice 92, [.sl 0 []], [], 24⟩ ∧
  T 59 = some ⟨1, false, .slice 92, [.sl 0 []], [], 24⟩ ∧
  T 60 = some ⟨2, true, .struct [(0, 4), (1, 59)], [.val (.bool false), .sl 0 []], [], 32⟩ ∧
  T 61 = some ⟨2, true, .struct [(0, 4), (1, 59)], [.val (.bool false), .sl 0 []], [], 32⟩ ∧
  T 62 = some ⟨1, false, .func, [.val .nilFunc], [], 8⟩ ∧
  T 63 = some ⟨1, false, .func, [.val .nilFunc], [], 8⟩ ∧
  T 64 = some ⟨1, false, .func, [.val .nilFunc], [], 8⟩ ∧
  T 65 = some ⟨3, true, .struct [(0, 61), (2, 59)], [.val (.bool false), .sl 0 [], .sl 0 []], [], 56⟩ ∧
  T 66 = some ⟨3, true, .struct [(0, 61), (2, 59)], [.val (.bool false), .sl 0 [], .sl 0 []], [], 56⟩ ∧
  T 67 = some ⟨1, false, .func, [.val .nilFunc], [], 8⟩ ∧
  T 68 = some ⟨1, false, .func, [.val .nilFunc], [], 8⟩ ∧
  T 70 = some ⟨1, false, .func, [.val .nilFunc], [], 8⟩ ∧
  T 71 = some ⟨1, false, .func, [.val .nilFunc], [], 8⟩ ∧
  T 73 = some ⟨1, false, .func, [.val .nilFunc], [], 8⟩ ∧
  T 75 = some ⟨1, false, .func, [.val .nilFunc], [], 8⟩ ∧
  T 76 = some ⟨1, false, .func, [.val .nilFunc], [], 8⟩ ∧
  T 77 = some ⟨1, false, .func, [.val .nilFunc], [], 8⟩ ∧
  T 79 = some ⟨1, false, .func, [.val .nilFunc], [], 8⟩ ∧
  T 80 = some ⟨1, false, .func, [.val .nilFunc], [], 8⟩ ∧
  T 81 = some ⟨1, false, .func, [.val .nilFunc], [], 8⟩ ∧
  T 82 = some ⟨1, false, .func, [.val .nilFunc], [], 8⟩ ∧
  T 83 = some ⟨1, false, .func, [.val .nilFunc], [], 8⟩ ∧
  T 84 = some ⟨1, false, .func, [.val .nilFunc], [], 8⟩ ∧
  T 85 = some ⟨1, false, .func, [.val .nilFunc], [], 8⟩ ∧
  T 86 = some ⟨1, false, .func, [.val .nilFunc], [], 8⟩ ∧
  T 87 = some ⟨1, false, .func, [.val .nilFunc], [], 8⟩ ∧
  T 88 = some ⟨1, false, .func, [.val .nilFunc], [], 8⟩ ∧
  T 89 = some ⟨1, false, .func, [.val .nilFunc], [], 8⟩ ∧
  T 90 = some ⟨1, false, .func, [.val .nilFunc], [], 8⟩ ∧
  T 91 = some ⟨1, false, .func, [.val .nilFunc], [], 8⟩ ∧
  T 92 = some ⟨1, false, .int .u32, [.val (.int .u32 0)], [], 4⟩ ∧
  T 93 = some ⟨1, false, .func, [.val .nilFunc], [], 8⟩ ∧
  T 94 = some ⟨1, false, .func, [.val .nilFunc], [], 8⟩ ∧
  T 95 = some ⟨1, false, .func, [.val .nilFunc], [], 8⟩ ∧
  T 96 = some ⟨1, false, .func, [.val .nilFunc], [], 8⟩ ∧
  T 97 = some ⟨1, false, .func, [.val .nilFunc], [], 8⟩ ∧
  T 98 = some ⟨1, false, .func, [.val .nilFunc], [], 8⟩ ∧
  T 99 = some ⟨1, false, .func, [.val .nilFunc], [], 8⟩ ∧
  T 100 = some ⟨2, true, .struct [(0, 4), (1, 9)], [.val (.bool false), .val (.string ⟨#[]⟩)], [], 24⟩ ∧
  T 101 = some ⟨2, true, .struct [(0, 4), (1, 9)], [.val (.bool false), .val (.string ⟨#[]⟩)], [.bool, .string], 24⟩ ∧
  T 103 = some ⟨1, false, .func, [.val .nilFunc], [], 8⟩ ∧
  T 104 = some ⟨1, false, .slice 92, [.sl 0 []], [], 24⟩ ∧
  T 106 = some ⟨1, false, .func, [.val .nilFunc], [], 8⟩ ∧
  T 107 = some ⟨1, false, .func, [.val .nilFunc], [], 8⟩ ∧
  T 108 = some ⟨1, false, .func, [.val .nilFunc], [], 8⟩ ∧
  T 110 = some ⟨1, false, .func, [.val .nilFunc], [], 8⟩ ∧
  T 111 = some ⟨1, false, .func, [.val .nilFunc], [], 8⟩ ∧
  T 112 = some ⟨1, false, .func, [.val .nilFunc], [], 8⟩ ∧
  T 114 = some ⟨1, false, .func, [.val .nilFunc], [], 8⟩ ∧
  T 115 = some ⟨1, false, .func, [.val .nilFunc], [], 8⟩ ∧
  T 116 = some ⟨1, false, .func, [.val .nilFunc], [], 8⟩ ∧
  T 118 = some ⟨1, false, .func, [.val .nilFunc], [], 8⟩ ∧
  T 119 = some ⟨1, false, .func, [.val .nilFunc], [], 8⟩ ∧
  T 120 = some ⟨1, false, .func, [.val .nilFunc], [], 8⟩ ∧
  T 121 = some ⟨1, false, .func, [.val .nilFunc], [], 8⟩ ∧
  T 122 = some ⟨1, false, .func, [.val .nilFunc], [], 8⟩ ∧
  T 123 = some ⟨1, false, .map 5, [.val (.map none)], [], 8⟩ ∧
  T 124 = some ⟨1, false, .func, [.val .nilFunc], [], 8⟩ ∧
  T 125 = some ⟨1, false, .func, [.val .nilFunc], [], 8⟩ ∧
  T 127 = some ⟨1, false, .func, [.val .nilFunc], [], 8⟩ ∧
  T 129 = some ⟨1, false, .func, [.val .nilFunc], [], 8⟩ ∧
  T 130 = some ⟨1, false, .int .u64, [.val (.int .u64 0)], [], 8⟩ ∧
  T 132 = some ⟨1, false, .func, [.val .nilFunc], [], 8⟩ ∧
  T 133 = some ⟨1, false, .func, [.val .nilFunc], [], 8⟩ ∧
  T 135 = some ⟨1, false, .slice 5, [.sl 0 []], [], 24⟩ ∧
  T 136 = some ⟨2, true, .struct [(0, 134), (1, 135)], [.val (.pointer none), .sl 0 []], [], 32⟩ ∧
  T 137 = some ⟨2, true, .struct [(0, 134), (1, 135)], [.val (.pointer none), .sl 0 []], [], 32⟩ ∧
  T 138 = some ⟨1, false, .func, [.val .nilFunc], [], 8⟩ ∧
  T 142 = some ⟨1, false, .func, [.val .nilFunc], [], 8⟩ ∧
  T 143 = some ⟨1, false, .func, [.val .nilFunc], [], 8⟩ ∧
  T 144 = some ⟨1, false, .func, [.val .nilFunc], [], 8⟩ ∧
  T 145 = some ⟨1, false, .func, [.val .nilFunc], [], 8⟩ ∧
  T 146 = some ⟨256, true, .array 256 4, List.replicate 256 (.val (.bool false)), [], 256⟩ ∧
  T 147 = some ⟨256, true, .array 256 4, List.replicate 256 (.val (.bool false)), [], 256⟩ ∧
  T 149 = some ⟨1, false, .func, [.val .nilFunc], [], 8⟩ ∧
  T 150 = some ⟨1, false, .func, [.val .nilFunc], [], 8⟩ ∧
  T 153 = some ⟨1, false, .func, [.val .nilFunc], [], 8⟩ ∧
  T 154 = some ⟨1, false, .func, [.val .nilFunc], [], 8⟩ ∧
  T 155 = some ⟨1, false, .func, [.val .nilFunc], [], 8⟩ ∧
  T 156 = some ⟨1, false, .int .u64, [.val (.int .u64 0)], [], 8⟩ ∧
  T 158 = some ⟨1, false, .func, [.val .nilFunc], [], 8⟩ ∧
  T 159 = some ⟨1, false, .func, [.val .nilFunc], [], 8⟩ ∧
  T 160 = some ⟨1, false, .func, [.val .nilFunc], [], 8⟩ ∧
  T 161 = some ⟨1, false, .func, [.val .nilFunc], [], 8⟩ ∧
  T 163 = some ⟨1, false, .func, [.val .nilFunc], [], 8⟩ ∧
  T 164 = some ⟨1, false, .func, [.val .nilFunc], [], 8⟩ ∧
  T 165 = some ⟨1, false, .func, [.val .nilFunc], [], 8⟩ ∧
  T 166 = some ⟨1, false, .func, [.val .nilFunc], [], 8⟩ ∧
  T 167 = some ⟨1, false, .func, [.val .nilFunc], [], 8⟩ ∧
  T 168 = some ⟨1, false, .func, [.val .nilFunc], [], 8⟩ ∧
  T 170 = some ⟨1, false, .func, [.val .nilFunc], [], 8⟩ ∧
  T 171 = some ⟨1, false, .func, [.val .nilFunc], [], 8⟩ ∧
  T 172 = some ⟨1, false, .func, [.val .nilFunc], [], 8⟩ ∧
  T 174 = some ⟨1, false, .func, [.val .nilFunc], [], 8⟩ ∧
  T 175 = some ⟨1, false, .func, [.val .nilFunc], [], 8⟩ ∧
  T 176 = some ⟨1, false, .func, [.val .nilFunc], [], 8⟩ ∧
  T 177 = some ⟨2, true, .array 2 176, [.val .nilFunc, .val .nilFunc], [], 16⟩ ∧
  T 178 = some ⟨4, true, .array 2 177, [.val .nilFunc, .val .nilFunc, .val .nilFunc, .val .nilFunc], [], 32⟩ ∧
  T 179 = some ⟨1, false, .func, [.val .nilFunc], [], 8⟩ ∧
  T 180 = some ⟨1, false, .func, [.val .nilFunc], [], 8⟩ ∧
  T 181 = some ⟨1, false, .func, [.val .nilFunc], [], 8⟩ ∧
  T 182 = some ⟨1, false, .func, [.val .nilFunc], [], 8⟩ ∧
  T 184 = some ⟨1, false, .func, [.val .nilFunc], [], 8⟩ ∧
  T 186 = some ⟨1, false, .func, [.val .nilFunc], [], 8⟩ ∧
  T 188 = some ⟨1, false, .func, [.val .nilFunc], [], 8⟩ ∧
  T 190 = some ⟨1, false, .func, [.val .nilFunc], [], 8⟩ ∧
  T 191 = some ⟨1, false, .func, [.val .nilFunc], [], 8⟩ ∧
  T 193 = some ⟨1, false, .func, [.val .nilFunc], [], 8⟩ ∧
  T 194 = some ⟨1, false, .func, [.val .nilFunc], [], 8⟩ ∧
  T 195 = some ⟨1, false, .func, [.val .nilFunc], [], 8⟩ ∧
  T 196 = some ⟨1, false, .func, [.val .nilFunc], [], 8⟩ ∧
  T 197 = some ⟨1, false, .func, [.val .nilFunc], [], 8⟩ ∧
  T 198 = some ⟨1, false, .func, [.val .nilFunc], [], 8⟩ ∧
  T 199 = some ⟨1, false, .func, [.val .nilFunc], [], 8⟩ ∧
  T 200 = some ⟨1, false, .func, [.val .nilFunc], [], 8⟩ ∧
  T 202 = some ⟨1, false, .func, [.val .nilFunc], [], 8⟩ ∧
  T 203 = some ⟨1, false, .func, [.val .nilFunc], [], 8⟩ ∧
  T 204 = some ⟨1, false, .func, [.val .nilFunc], [], 8⟩ ∧
  T 205 = some ⟨1, false, .func, [.val .nilFunc], [], 8⟩ ∧
  T 206 = some ⟨1, false, .int .i64, [.val (.int .i64 0)], [], 8⟩ ∧
  T 207 = some ⟨1, false, .func, [.val .nilFunc], [], 8⟩ ∧
  T 209 = some ⟨1, false, .func, [.val .nilFunc], [], 8⟩ ∧
  T 210 = some ⟨1, false, .func, [.val .nilFunc], [], 8⟩ ∧
  T 211 = some ⟨24, true, .array 24 5, [.val (.int .u8 0), .val (.int .u8 0), .val (.int .u8 0), .val (.int .u8 0), .val (.int .u8 0), .val (.int .u8 0), .val (.int .u8 0), .val (.int .u8 0), .val (.int .u8 0), .val (.int .u8 0), .val (.int .u8 0), .val (.int .u8 0), .val (.int .u8 0), .val (.int .u8 0), .val (.int .u8 0), .val (.int .u8 0), .val (.int .u8 0), .val (.int .u8 0), .val (.int .u8 0), .val (.int .u8 0), .val (.int .u8 0), .val (.int .u8 0), .val (.int .u8 0), .val (.int .u8 0)], [], 24⟩ ∧
  T 212 = some ⟨1, false, .func, [.val .nilFunc], [], 8⟩ ∧
  T 213 = some ⟨1, false, .func, [.val .nilFunc], [], 8⟩ ∧
  T 215 = some ⟨1, false, .func, [.val .nilFunc], [], 8⟩ ∧
  T 216 = some ⟨1, false, .func, [.val .nilFunc], [], 8⟩ ∧
  T 217 = some ⟨1, false, .func, [.val .nilFunc], [], 8⟩ ∧
  T 218 = some ⟨256, true, .array 256 5, List.replicate 256 (.val (.int .u8 0)), [], 256⟩ ∧
  T 219 = some ⟨2, true, .struct [(0, 5), (1, 5)], [.val (.int .u8 0), .val (.int .u8 0)], [], 2⟩ ∧
  T 220 = some ⟨2, true, .struct [(0, 5), (1, 5)], [.val (.int .u8 0), .val (.int .u8 0)], [], 2⟩ ∧
  T 221 = some ⟨32, true, .array 16 220, [.val (.int .u8 0), .val (.int .u8 0), .val (.int .u8 0), .val (.int .u8 0), .val (.int .u8 0), .val (.int .u8 0), .val (.int .u8 0), .val (.int .u8 0), .val (.int .u8 0), .val (.int .u8 0), .val (.int .u8 0), .val (.int .u8 0), .val (.int .u8 0), .val (.int .u8 0), .val (.int .u8 0), .val (.int .u8 0), .val (.int .u8 0), .val (.int .u8 0), .val (.int .u8 0), .val (.int .u8 0), .val (.int .u8 0), .val (.int .u8 0), .val (.int .u8 0), .val (.int .u8 0), .val (.int .u8 0), .val (.int .u8 0), .val (.int .u8 0), .val (.int .u8 0), .val (.int .u8 0), .val (.int .u8 0), .val (.int .u8 0), .val (.int .u8 0)], [], 32⟩ ∧
  T 222 = some ⟨1, false, .func, [.val .nilFunc], [], 8⟩ ∧
  T 223 = some ⟨1, false, .func, [.val .nilFunc], [], 8⟩ ∧
  T 224 = some ⟨3, true, .struct [(0, 9), (1, 9), (2, 140)], [.val (.string ⟨#[]⟩), .val (.string ⟨#[]⟩), .val .nilIface], [], 48⟩ ∧
  T 225 = some ⟨3, true, .struct [(0, 9), (1, 9), (2, 140)], [.val (.string ⟨#[]⟩), .val (.string ⟨#[]⟩), .val .nilIface], [], 48⟩ ∧
  T 226 = some ⟨1, false, .func, [.val .nilFunc], [], 8⟩ ∧
  T 227 = some ⟨20, true, .array 20 156, [.val (.int .u64 0), .val (.int .u64 0), .val (.int .u64 0), .val (.int .u64 0), .val (.int .u64 0), .val (.int .u64 0), .val (.int .u64 0), .val (.int .u64 0), .val (.int .u64 0), .val (.int .u64 0), .val (.int .u64 0), .val (.int .u64 0), .val (.int .u64 0), .val (.int .u64 0), .val (.int .u64 0), .val (.int .u64 0), .val (.int .u64 0), .val (.int .u64 0), .val (.int .u64 0), .val (.int .u64 0)], [], 160⟩ ∧
  T 228 = some ⟨65, true, .array 65 5, List.replicate 65 (.val (.int .u8 0)), [], 65⟩ ∧
  T 229 = some ⟨1, false, .func, [.val .nilFunc], [], 8⟩ ∧
  T 231 = some ⟨1, true, .struct [(0, 9)], [.val (.string ⟨#[]⟩)], [], 16⟩ ∧
  T 232 = some ⟨1, true, .struct [(0, 9)], [.val (.string ⟨#[]⟩)], [], 16⟩ ∧
  T 233 = some ⟨1, false, .func, [.val .nilFunc], [], 8⟩ ∧
  T 234 = some ⟨32, true, .array 32 5, [.val (.int .u8 0), .val (.int .u8 0), .val (.int .u8 0), .val (.int .u8 0), .val (.int .u8 0), .val (.int .u8 0), .val (.int .u8 0), .val (.int .u8 0), .val (.int .u8 0), .val (.int .u8 0), .val (.int .u8 0), .val (.int .u8 0), .val (.int .u8 0), .val (.int .u8 0), .val (.int .u8 0), .val (.int .u8 0), .val (.int .u8 0), .val (.int .u8 0), .val (.int .u8 0), .val (.int .u8 0), .val (.int .u8 0), .val (.int .u8 0), .val (.int .u8 0), .val (.int .u8 0), .val (.int .u8 0), .val (.int .u8 0), .val (.int .u8 0), .val (.int .u8 0), .val (.int .u8 0), .val (.int .u8 0), .val (.int .u8 0), .val (.int .u8 0)], [], 32⟩ ∧
  T 235 = some ⟨64, true, .array 64 5, [.val (.int .u8 0), .val (.int .u8 0), .val (.int .u8 0), .val (.int .u8 0), .val (.int .u8 0), .val (.int .u8 0), .val (.int .u8 0), .val (.int .u8 0), .val (.int .u8 0), .val (.int .u8 0), .val (.int .u8 0), .val (.int .u8 0), .val (.int .u8 0), .val (.int .u8 0), .val (.int .u8 0), .val (.int .u8 0), .val (.int .u8 0), .val (.int .u8 0), .val (.int .u8 0), .val (.int .u8 0), .val (.int .u8 0), .val (.int .u8 0), .val (.int .u8 0), .val (.int .u8 0), .val (.int .u8 0), .val (.int .u8 0), .val (.int .u8 0), .val (.int .u8 0), .val (.int .u8 0), .val (.int .u8 0), .val (.int .u8 0), .val (.int .u8 0), .val (.int .u8 0), .val (.int .u8 0), .val (.int .u8 0), .val (.int .u8 0), .val (.int .u8 0), .val (.int .u8 0), .val (.int .u8 0), .val (.int .u8 0), .val (.int .u8 0), .val (.int .u8 0), .val (.int .u8 0), .val (.int .u8 0), .val (.int .u8 0), .val (.int .u8 0), .val (.int .u8 0), .val (.int .u8 0), .val (.int .u8 0), .val (.int .u8 0), .val (.int .u8 0), .val (.int .u8 0), .val (.int .u8 0), .val (.int .u8 0), .val (.int .u8 0), .val (.int .u8 0), .val (.int .u8 0), .val (.int .u8 0), .val (.int .u8 0), .val (.int .u8 0), .val (.int .u8 0), .val (.int .u8 0), .val (.int .u8 0), .val (.int .u8 0)], [], 64⟩ ∧
  T 236 = some ⟨4, true, .struct [(0, 17), (1, 17), (2, 17), (3, 9)], [.val (.pointer none), .val (.pointer none), .val (.pointer none), .val (.string ⟨#[]⟩)], [], 40⟩ ∧
  T 237 = some ⟨4, true, .struct [(0, 17), (1, 17), (2, 17), (3, 9)], [.val (.pointer none), .val (.pointer none), .val (.pointer none), .val (.string ⟨#[]⟩)], [], 40⟩ ∧
  T 238 = some ⟨0, true, .array 0 16, [], [], 0⟩ ∧
  T 239 = some ⟨0, true, .struct [(0, 238)], [], [], 0⟩ ∧
  T 240 = some ⟨0, true, .struct [(0, 238)], [], [], 0⟩ ∧
  T 241 = some ⟨1, false, .int .u8, [.val (.int .u8 0)], [], 1⟩ ∧
  T 242 = some ⟨1, false, .int .u8, [.val (.int .u8 0)], [], 1⟩ ∧
  T 243 = some ⟨1, false, .func, [.val .nilFunc], [], 8⟩ ∧
  T 244 = some ⟨1, false, .int .i32, [.val (.int .i32 0)], [], 4⟩ ∧
  T 245 = some ⟨1, false, .int .i32, [.val (.int .i32 0)], [], 4⟩ ∧
  T 246 = some ⟨11, true, .struct [(0, 12), (1, 12), (2, 92), (3, 241), (4, 5), (5, 5), (6, 242), (7, 243), (8, 187), (9, 244), (10, 245)], [.val (.int .u64 0), .val (.int .u64 0), .val (.int .u32 0), .val (.int .u8 0), .val (.int .u8 0), .val (.int .u8 0), .val (.int .u8 0), .val .nilFunc, .val (.pointer none), .val (.int .i32 0), .val (.int .i32 0)], [], 48⟩ ∧
  T 247 = some ⟨11, true, .struct [(0, 12), (1, 12), (2, 92), (3, 241), (4, 5), (5, 5), (6, 242), (7, 243), (8, 187), (9, 244), (10, 245)], [.val (.int .u64 0), .val (.int .u64 0), .val (.int .u32 0), .val (.int .u8 0), .val (.int .u8 0), .val (.int .u8 0), .val (.int .u8 0), .val .nilFunc, .val (.pointer none), .val (.int .i32 0), .val (.int .i32 0)], [], 48⟩ :=
  ⟨rfl, rfl, rfl, rfl, rfl, rfl, rfl, rfl, rfl, rfl, rfl, rfl, rfl, rfl, rfl, rfl, rfl, rfl, rfl, rfl, rfl, rfl, rfl, rfl, rfl, rfl, rfl, rfl, rfl, rfl, rfl, rfl, rfl, rfl, rfl, rfl, rfl, rfl, rfl, rfl, rfl, rfl, rfl, rfl, rfl, rfl, rfl, rfl, rfl, rfl, rfl, rfl, rfl, rfl, rfl, rfl, rfl, rfl, rfl, rfl, rfl, rfl, rfl, rfl, rfl, rfl, rfl, rfl, rfl, rfl, rfl, rfl, rfl, rfl, rfl, rfl, rfl, rfl, rfl, rfl, rfl, rfl, rfl, rfl, rfl, rfl, rfl, rfl, rfl, rfl, rfl, rfl, rfl, rfl, rfl, rfl, rfl, rfl, rfl, rfl, rfl, rfl, rfl, rfl, rfl, rfl, rfl, rfl, rfl, rfl, rfl, rfl, rfl, rfl, rfl, rfl, rfl, rfl, rfl, rfl, rfl, rfl, rfl, rfl, rfl, rfl, rfl, rfl, rfl, rfl, rfl, rfl, rfl, rfl, rfl, rfl, rfl, rfl, rfl, rfl, rfl, rfl, rfl, rfl, rfl, rfl, rfl, rfl, rfl, rfl, rfl, rfl, rfl, rfl, rfl, rfl, rfl, rfl, rfl, rfl, rfl, rfl, rfl, rfl, rfl, rfl, rfl, rfl, rfl, rfl, rfl, rfl, rfl, rfl, rfl, rfl, rfl, rfl, rfl, rfl, rfl, rfl, rfl, rfl, rfl, rfl, rfl, rfl, rfl, rfl, rfl, rfl, rfl, rfl, rfl, rfl, rfl, rfl, rfl, rfl, rfl, rfl, rfl, rfl, rfl⟩
theorem mix : Tryz.prog.follows .mixedOrders = true := by kernel_rfl
end Go.Proofs.YtfbmphbmidlijaaGreatDoor.S
namespace Gb
open Go Go.RowKit
def val : List Int → Int
  | [] => 0
  | x :: xs => x + 1000000000 * val xs
def Dig (l : List Int) : Prop := ∀ x, x ∈ l → 0 ≤ x ∧ x < 1000000000
theorem Dig.nil : Dig [] := fun _ h => by cases h
theorem Dig.cons {x : Int} {l : List Int} (h0 : 0 ≤ x) (h1 : x < 1000000000) (h : Dig l) : Dig (x :: l) := by
  intro y hy
  rcases List.mem_cons.1 hy with rfl | hy
  · exact ⟨h0, h1⟩
  · exact h y hy
theorem Dig.head {x : Int} {l : List Int} (h : Dig (x :: l)) : 0 ≤ x ∧ x < 1000000000 := h x (List.mem_cons_self ..)
theorem Dig.tail {x : Int} {l : List Int} (h : Dig (x :: l)) : Dig l := fun y hy => h y (List.mem_cons_of_mem _ hy)
theorem Dig.append {a b : List Int} (ha : Dig a) (hb : Dig b) : Dig (a ++ b) := by
  intro y hy
  rcases List.mem_append.1 hy with h | h
  · exact ha y h
  · exact hb y h
theorem Dig.left {a b : List Int} (h : Dig (a ++ b)) : Dig a := fun y hy => h y (List.mem_append_left _ hy)
theorem Dig.right {a b : List Int} (h : Dig (a ++ b)) : Dig b := fun y hy => h y (List.mem_append_right _ hy)
theorem Dig.take {a : List Int} (h : Dig a) (n : Nat) : Dig (a.take n) := fun y hy => h y (List.mem_of_mem_take hy)
theorem Dig.drop {a : List Int} (h : Dig a) (n : Nat) : Dig (a.drop n) := fun y hy => h y (List.mem_of_mem_drop hy)
theorem Dig.replicate (n : Nat) : Dig (List.replicate n 0) := by
  intro y hy
  rw [List.mem_replicate] at hy
  omega
theorem Dig.set {l : List Int} (h : Dig l) (i : Nat) {v : Int} (h0 : 0 ≤ v) (h1 : v < 1000000000) : Dig (l.set i v) := by
  intro y hy
  rcases List.mem_or_eq_of_mem_set hy with hy | rfl
  · exact h y hy
  · exact ⟨h0, h1⟩
theorem Dig.getD {l : List Int} (h : Dig l) (i : Nat) : 0 ≤ l.getD i 0 ∧ l.getD i 0 < 1000000000 := by
  rw [List.getD_eq_getElem?_getD]
  by_cases hi : i < l.length
  · rw [List.getElem?_eq_getElem hi]; exact h _ (List.getElem_mem hi)
  · rw [List.getElem?_eq_none (by omega)]; simp
theorem val_nil : val [] = 0 := rfl
theorem val_cons (x : Int) (l : List Int) : val (x :: l) = x + 1000000000 * val l := rfl
theorem val_append (a b : List Int) : val (a ++ b) = val a + 1000000000 ^ a.length * val b := by
  induction a with
  | nil => simp [val]
  | cons x a ih => simp only [List.cons_append, val_cons, ih, List.length_cons, Int.pow_succ]; grind
theorem val_replicate (n : Nat) : val (List.replicate n 0) = 0 := by
  induction n with
  | zero => rfl
  | succ n ih => simp [List.replicate_succ, val_cons, ih]
theorem val_bounds {l : List Int} (h : Dig l) : 0 ≤ val l ∧ val l < 1000000000 ^ l.length := by
  induction l with
  | nil => simp [val]
  | cons x l ih =>
    have := h.head
    have := ih h.tail
    simp only [val_cons, List.length_cons, Int.pow_succ]
    omega
theorem val_nonneg {l : List Int} (h : Dig l) : 0 ≤ val l := (val_bounds h).1
theorem pow_pos (n : Nat) : (0 : Int) < 1000000000 ^ n := Int.pow_pos (by decide)
theorem val_set (l : List Int) (i : Nat) (v : Int) (hi : i < l.length) : val (l.set i v) = val l + (v - l.getD i 0) * 1000000000 ^ i := by
  induction l generalizing i with
  | nil => simp at hi
  | cons x l ih =>
    cases i with
    | zero => simp [val_cons]; omega
    | succ i =>
      simp only [List.length_cons] at hi
      simp only [List.set_cons_succ, val_cons, ih i (by omega), List.getD_cons_succ, Int.pow_succ]
      grind
theorem val_drop (l : List Int) (i : Nat) (hi : i < l.length) : val (l.drop i) = l.getD i 0 + 1000000000 * val (l.drop (i + 1)) := by
  rw [List.drop_eq_getElem_cons hi, val_cons, List.getD_eq_getElem?_getD, List.getElem?_eq_getElem hi]
  rfl
theorem val_take_drop (l : List Int) (i : Nat) (hi : i ≤ l.length) : val l = val (l.take i) + 1000000000 ^ i * val (l.drop i) := by
  conv => lhs; rw [← List.take_append_drop i l]
  rw [val_append, List.length_take, Nat.min_eq_left hi]
theorem val_take_succ (l : List Int) (i : Nat) (hi : i < l.length) : val (l.take (i + 1)) = val (l.take i) + l.getD i 0 * 1000000000 ^ i := by
  rw [List.take_succ_eq_append_getElem hi, val_append, List.length_take, Nat.min_eq_left (by omega), val_cons, val_nil, List.getD_eq_getElem?_getD, List.getElem?_eq_getElem hi]
  simp
  grind
def Zf (l : List Int) (i : Nat) : Prop := ∀ j, i ≤ j → l.getD j 0 = 0
theorem Zf.set {l : List Int} {i : Nat} (h : Zf l i) (j : Nat) (v : Int) (hj : j < i) : Zf (l.set j v) i := by
  intro q hq
  have := h q hq
  rw [List.getD_eq_getElem?_getD] at this ⊢
  rw [List.getElem?_set_ne (by omega)]
  exact this
theorem Zf.mono {l : List Int} {i j : Nat} (h : Zf l i) (hij : i ≤ j) : Zf l j := fun q hq => h q (by omega)
theorem Zf.replicate (n i : Nat) : Zf (List.replicate n 0) i := by
  intro j _
  rw [List.getD_eq_getElem?_getD, List.getElem?_replicate]
  split <;> rfl
theorem getD_set_same (l : List Int) (i : Nat) (v : Int) (hi : i < l.length) : (l.set i v).getD i 0 = v := by
  rw [List.getD_eq_getElem?_getD, List.getElem?_set_self hi]; rfl
theorem getD_set_ne (l : List Int) (i j : Nat) (v : Int) (h : i ≠ j) : (l.set i v).getD j 0 = l.getD j 0 := by
  rw [List.getD_eq_getElem?_getD, List.getElem?_set_ne h, ← List.getD_eq_getElem?_getD]
def Norm (l : List Int) : Prop := Dig l ∧ (l ≠ [] → l.getD (l.length - 1) 0 ≠ 0)
theorem Norm.nil : Norm [] := ⟨Dig.nil, fun h => absurd rfl h⟩
theorem Norm.lo {l : List Int} (h : Norm l) (hl : l ≠ []) : 1000000000 ^ (l.length - 1) ≤ val l := by
  have h1 : 0 < l.length := List.length_pos_iff.2 hl
  have h2 := h.2 hl
  have h3 := h.1.getD (l.length - 1)
  have h4 := val_take_drop l (l.length - 1) (by omega)
  rw [val_drop l (l.length - 1) (by omega), show l.length - 1 + 1 = l.length by omega, List.drop_length, val_nil] at h4
  have h5 := val_nonneg (h.1.take (l.length - 1))
  have h6 := pow_pos (l.length - 1)
  generalize l.getD (l.length - 1) 0 = d at *
  have h7 : 1000000000 ^ (l.length - 1) * 1 ≤ (1000000000 : Int) ^ (l.length - 1) * d := Int.mul_le_mul_of_nonneg_left (by omega) (by omega)
  have h8 : (1000000000 : Int) ^ (l.length - 1) * (d + 1000000000 * 0) = 1000000000 ^ (l.length - 1) * d := by grind
  omega
theorem Norm.pos {l : List Int} (h : Norm l) (hl : l ≠ []) : 0 < val l := by
  have := h.lo hl
  have := pow_pos (l.length - 1)
  omega
theorem pow_mono {a b : Nat} (h : a ≤ b) : (1000000000 : Int) ^ a ≤ 1000000000 ^ b := by
  obtain ⟨c, rfl⟩ := Nat.exists_eq_add_of_le h
  rw [Int.pow_add]
  have := pow_pos a
  have := pow_pos c
  have : (1000000000 : Int) ^ a * 1 ≤ 1000000000 ^ a * 1000000000 ^ c := Int.mul_le_mul_of_nonneg_left (by omega) (by omega)
  omega
theorem Norm.len_le {l m : List Int} (hl : Norm l) (hm : Dig m) (h : val l ≤ val m) : l.length ≤ m.length := by
  by_cases h0 : l = []
  · subst h0; simp
  · have h1 := hl.lo h0
    have h2 := (val_bounds hm).2
    by_cases h3 : l.length ≤ m.length
    · exact h3
    · have := pow_mono (show m.length ≤ l.length - 1 by omega)
      omega
theorem Norm.len_lt {l m : List Int} (hm : Norm m) (hl : Dig l) (h : l.length < m.length) : val l < val m := by
  by_cases h1 : val l < val m
  · exact h1
  · have := hm.len_le hl (by omega)
    omega
theorem Dig.inj : ∀ {l m : List Int}, Dig l → Dig m → l.length = m.length → val l = val m → l = m
  | [], [], _, _, _, _ => rfl
  | [], _ :: _, _, _, h, _ => by simp at h
  | _ :: _, [], _, _, h, _ => by simp at h
  | x :: l, y :: m, hl, hm, h, hv => by
    have := hl.head; have := hm.head
    simp only [val_cons] at hv
    obtain rfl : x = y := by omega
    rw [Dig.inj hl.tail hm.tail (by simpa using h) (by omega)]
theorem Norm.inj {l m : List Int} (hl : Norm l) (hm : Norm m) (h : val l = val m) : l = m :=
  Dig.inj hl.1 hm.1 (Nat.le_antisymm (hl.len_le hm.1 (by omega)) (hm.len_le hl.1 (by omega))) h
def trimL (l : List Int) : List Int := if h : l = [] then [] else if l.getD (l.length - 1) 0 = 0 then trimL l.dropLast else l
termination_by l.length
decreasing_by
  have := List.length_pos_iff.2 h
  simp; omega
theorem trimL_norm (l : List Int) (h : Dig l) : Norm (trimL l) ∧ val (trimL l) = val l ∧ (trimL l).length ≤ l.length := by
  induction hn : l.length using Nat.strongRecOn generalizing l with
  | _ n ih =>
    rw [trimL]
    split
    · rename_i h0; subst h0; exact ⟨Norm.nil, rfl, by simp⟩
    · rename_i h0
      have hp := List.length_pos_iff.2 h0
      split
      · rename_i hz
        have h1 := ih (l.length - 1) (by omega) l.dropLast (by rw [List.dropLast_eq_take]; exact h.take _) (by simp)
        refine ⟨h1.1, ?_, by omega⟩
        rw [h1.2.1, List.dropLast_eq_take]
        have h2 := val_take_succ l (l.length - 1) (by omega)
        rw [show l.length - 1 + 1 = l.length by omega, List.take_length, hz] at h2
        omega
      · rename_i hz
        exact ⟨⟨h, fun _ => hz⟩, rfl, by omega⟩
theorem tmod_pos {x y : Int} (h : 0 ≤ x) : Int.tmod x y = x % y := Int.tmod_eq_emod_of_nonneg h
theorem tdiv_pos {x y : Int} (h : 0 ≤ x) : Int.tdiv x y = x / y := Int.tdiv_eq_ediv_of_nonneg h
theorem mul_step {o x y c : Int} (ho : 0 ≤ o ∧ o < 1000000000) (hx : 0 ≤ x ∧ x < 1000000000) (hy : 0 ≤ y ∧ y < 1000000000) (hc : 0 ≤ c ∧ c < 1000000000) :
    0 ≤ x * y ∧ x * y ≤ 999999998000000001 := by
  constructor
  · exact Int.mul_nonneg hx.1 hy.1
  · exact Int.mul_le_mul (a := x) (b := y) (c := 999999999) (d := 999999999) (by omega) (by omega) (by omega) (by omega)
theorem getD_out {l : List Int} {i : Nat} (h : l.length ≤ i) : l.getD i 0 = 0 := by
  rw [List.getD_eq_getElem?_getD, List.getElem?_eq_none h]; rfl
theorem val_drop' (l : List Int) (i : Nat) : val (l.drop i) = l.getD i 0 + 1000000000 * val (l.drop (i + 1)) := by
  by_cases h : i < l.length
  · exact val_drop l i h
  · rw [getD_out (by omega), List.drop_eq_nil_of_le (by omega), List.drop_eq_nil_of_le (by omega), val_nil]; omega
theorem val_snoc (l : List Int) (x : Int) : val (l ++ [x]) = val l + 1000000000 ^ l.length * x := by
  rw [val_append, val_cons, val_nil]; grind
theorem Dig.snoc {l : List Int} (h : Dig l) {x : Int} (h0 : 0 ≤ x) (h1 : x < 1000000000) : Dig (l ++ [x]) := h.append (Dig.cons h0 h1 Dig.nil)
def cmpI (x y : Int) : Int := if x < y then -1 else if y < x then 1 else 0
theorem cmp_drop (a b : List Int) (ha : Dig a) (hb : Dig b) (i : Nat) (h : val (a.drop (i + 1)) = val (b.drop (i + 1))) (hlt : a.getD i 0 < b.getD i 0) (hia : i ≤ a.length) (hib : i ≤ b.length) : val a < val b := by
  have h1 := val_take_drop a i hia
  have h2 := val_take_drop b i hib
  rw [val_drop' a i] at h1
  rw [val_drop' b i] at h2
  have h3 := val_bounds (ha.take i)
  have h4 := val_nonneg (hb.take i)
  rw [List.length_take, Nat.min_eq_left hia] at h3
  have hp := pow_pos i
  rw [h] at h1
  generalize val (b.drop (i + 1)) = q at *
  have h5 : (1000000000 : Int) ^ i * (a.getD i 0 + 1000000000 * q + 1) ≤ 1000000000 ^ i * (b.getD i 0 + 1000000000 * q) := Int.mul_le_mul_of_nonneg_left (by omega) (by omega)
  have h6 : (1000000000 : Int) ^ i * (a.getD i 0 + 1000000000 * q + 1) = 1000000000 ^ i * (a.getD i 0 + 1000000000 * q) + 1000000000 ^ i := by grind
  omega
theorem by_step {r x w : Int} (hr : 0 ≤ r ∧ r < w) (hx : 0 ≤ x ∧ x < 1000000000) (hw : 0 < w ∧ w < 1000000000) :
    0 ≤ r * 1000000000 + x ∧ r * 1000000000 + x < 1000000000000000000 ∧ 0 ≤ (r * 1000000000 + x) / w ∧ (r * 1000000000 + x) / w < 1000000000 ∧ 0 ≤ (r * 1000000000 + x) % w ∧ (r * 1000000000 + x) % w < w ∧
      r * 1000000000 + x = w * ((r * 1000000000 + x) / w) + (r * 1000000000 + x) % w := by
  have h1 := Int.emod_nonneg (r * 1000000000 + x) (show w ≠ 0 by omega)
  have h2 := Int.emod_lt_of_pos (r * 1000000000 + x) hw.1
  have h3 := (Int.mul_ediv_add_emod (r * 1000000000 + x) w).symm
  refine ⟨by omega, by omega, Int.ediv_nonneg (by omega) (by omega), ?_, h1, h2, h3⟩
  apply Int.ediv_lt_of_lt_mul hw.1
  omega
def wl (n : Nat) : List Int := if n = 0 then [] else ((n % 1000000000 : Nat) : Int) :: wl (n / 1000000000)
theorem wl_zero : wl 0 = [] := by rw [wl]; rfl
theorem wl_pos {n : Nat} (h : n ≠ 0) : wl n = ((n % 1000000000 : Nat) : Int) :: wl (n / 1000000000) := by rw [wl, if_neg h]
theorem wl_spec (n : Nat) : Norm (wl n) ∧ val (wl n) = n := by
  induction n using Nat.strongRecOn with
  | _ n ih =>
    by_cases h : n = 0
    · subst h; rw [wl_zero]; exact ⟨Norm.nil, rfl⟩
    · obtain ⟨h1, h2⟩ := ih (n / 1000000000) (by omega)
      rw [wl_pos h]
      refine ⟨⟨Dig.cons (by omega) (by omega) h1.1, fun _ => ?_⟩, ?_⟩
      · by_cases h3 : wl (n / 1000000000) = []
        · rw [h3] at h2 ⊢
          simp [val] at h2
          simp
          omega
        · have h4 := h1.2 h3
          have h5 := List.length_pos_iff.2 h3
          rw [List.length_cons, show (wl (n / 1000000000)).length + 1 - 1 = (wl (n / 1000000000)).length - 1 + 1 by omega, List.getD_cons_succ]
          exact h4
      · rw [val_cons, h2]; omega
theorem wl_norm (n : Nat) : Norm (wl n) := (wl_spec n).1
theorem wl_dig (n : Nat) : Dig (wl n) := (wl_norm n).1
theorem wl_val (n : Nat) : val (wl n) = n := (wl_spec n).2
theorem eq_wl {l : List Int} (h : Norm l) {n : Nat} (hv : val l = n) : l = wl n := h.inj (wl_norm n) (by rw [hv, wl_val])
theorem trimL_wl {l : List Int} (h : Dig l) {n : Nat} (hv : val l = n) : trimL l = wl n := by
  obtain ⟨h1, h2, _⟩ := trimL_norm l h
  exact eq_wl h1 (by rw [h2, hv])
theorem cast_pow (k : Nat) : ((1000000000 ^ k : Nat) : Int) = (1000000000 : Int) ^ k := by
  induction k with
  | zero => rfl
  | succ k ih => rw [Nat.pow_succ, Int.pow_succ, ← ih, Int.natCast_mul]; rfl
def Lw (n : Nat) : Nat := (wl n).length
theorem Lw_le {n k : Nat} (h : n < 1000000000 ^ k) : Lw n ≤ k := by
  unfold Lw
  by_cases h0 : wl n = []
  · rw [h0]; simp
  · have h1 := (wl_norm n).lo h0
    rw [wl_val] at h1
    by_cases h2 : (wl n).length ≤ k
    · exact h2
    · have h3 := pow_mono (show k ≤ (wl n).length - 1 by omega)
      have h4 := Int.ofNat_lt.2 h
      rw [cast_pow] at h4
      omega
theorem lt_Lw (n : Nat) : n < 1000000000 ^ Lw n := by
  have := (val_bounds (wl_dig n)).2
  rw [wl_val, ← cast_pow] at this
  exact Int.ofNat_lt.1 this
theorem Lw_mono {a b : Nat} (h : a ≤ b) : Lw a ≤ Lw b := Lw_le (Nat.lt_of_le_of_lt h (lt_Lw b))
theorem Lw_mul (a b : Nat) : Lw (a * b) ≤ Lw a + Lw b := by
  refine Lw_le ?_
  rw [Nat.pow_add]
  exact Nat.mul_lt_mul'' (lt_Lw a) (lt_Lw b)
theorem Lw_add (a b : Nat) : Lw (a + b) ≤ max (Lw a) (Lw b) + 1 := by
  refine Lw_le ?_
  have h1 : 1000000000 ^ Lw a ≤ 1000000000 ^ max (Lw a) (Lw b) := Nat.pow_le_pow_right (by omega) (by omega)
  have h2 : 1000000000 ^ Lw b ≤ 1000000000 ^ max (Lw a) (Lw b) := Nat.pow_le_pow_right (by omega) (by omega)
  have := lt_Lw a
  have := lt_Lw b
  rw [Nat.pow_succ]
  omega
open Go.Sx
def wv (n : Int) : PV := .val (.int .u32 n)
theorem wv_c (n : Int) : wv n = .val (.int .u32 n) := rfl
def wsP (l : List Int) : PV := .sl l.length (l.map wv)
theorem wsP_c (l : List Int) : wsP l = .sl l.length (l.map wv) := rfl
def nP (n : Nat) : PV := wsP (wl n)
theorem nP_c (n : Nat) : nP n = .sl (wl n).length ((wl n).map wv) := rfl
def iP (n : Int) : PV := .val (.int .i64 n)
theorem iP_c (n : Int) : iP n = .val (.int .i64 n) := rfl
theorem rep_wv (n : Nat) : rep n [.val (.int .u32 0)] = (List.replicate n (0 : Int)).map wv := by
  induction n with
  | zero => rfl
  | succ n ih => rw [rep, List.replicate_succ, List.flatten_cons, List.replicate_succ, List.map_cons, ← ih]; rfl
theorem set_wv (l : List Int) (i : Nat) (x : Int) (hi : i < l.length) : (l.take i).map wv ++ [.val (.int .u32 x)] ++ (l.drop (i + 1)).map wv = (l.set i x).map wv := by
  rw [List.set_eq_take_append_cons_drop, if_pos hi, List.map_append, List.map_cons, wv_c, List.append_assoc]; rfl
theorem wv_leaf (l : List Int) : (l.map wv).all leafP = true := by
  induction l with
  | nil => rfl
  | cons x l ih => simp only [List.map_cons, List.all_cons, ih, Bool.and_true]; rfl
end Gb
namespace Go.Proofs.YtfbmphbmidlijaaGreatDoor.S
open Go Go.Sx Go.RowKit Gb
variable {G : World → Prop} (hG : ∀ w w', G w → Below w.heap.size w w' → G w')
include hG
set_option maxRecDepth 100000 in
set_option maxHeartbeats 8000000 in
theorem trim_c (l0 : List Int) (hl0 : l0.length < 1000000000000) : Meets Tryz.prog G 130 [.sl l0.length (l0.map wv)] (wsP (trimL l0)) := by
  refine meets_of_vc (Y := {}) (N := 21) (rs := [.tmp 2]) mix tk hG Tryz.func130 rfl (by kernel_rfl) rfl rfl (by simp) (by kernel_rfl) ?_
  simp (maxSteps := 10000000) only [↓sx, sx, ↓ty, wsP_c]
  refine loopK_of (fun l : List Int => [(0, .p (.sl l.length (l.map wv)))]) (fun _ => []) (fun _ => []) (fun l => l.length < 1000000000000 ∧ trimL l = trimL l0) (fun l => l.length) l0 ⟨hl0, rfl⟩ ?_ ?_
  · simp (maxSteps := 10000000) only [isE_nil, is_cons, bo_p, all_nil', ↓sx, sx, ↓reduceIte, Nat.reduceEqDiff]
  · rintro l ⟨hl, ht⟩
    simp (maxSteps := 10000000) only [↓sx, sx, ↓ty, ↓reduceIte, Nat.reduceEqDiff, Nat.reduceLT, wv_c]
    refine vcIf_dec (fun h => ?_) (fun h => ?_)
    · have hw : IntKind.i64.wrap (l.length - 1 : Int) = ((l.length - 1 : Nat) : Int) := by rw [i64_id] <;> omega
      rw [hw]
      simp only [Int.toNat_natCast]
      refine ⟨⟨by omega, by omega, by omega⟩, by omega, ?_⟩
      rw [trimL, dif_neg (by intro h0; rw [h0] at h; simp at h)] at ht
      refine vcIf_b (fun hz => ?_) (fun hz => ?_)
      · rw [beq_iff_eq] at hz
        rw [if_pos hz, List.dropLast_eq_take] at ht
        refine ⟨⟨by omega, by omega, by omega⟩, NextK.mk (l.take (l.length - 1)) ?_ ⟨?_, ht⟩ ?_⟩
        · simp; omega
        · simp; omega
        · simp (maxSteps := 10000000) only [isE_nil, is_cons, bo_p, all_nil', ↓sx, sx, ↓reduceIte]
          simp [hw]
      · rw [beq_eq_false_iff_ne] at hz
        rw [if_neg hz] at ht
        rw [← ht]
    · have h0 : l = [] := List.eq_nil_of_length_eq_zero (by omega)
      subst h0
      rw [trimL, dif_pos rfl] at ht
      rw [← ht]
theorem trim_n (l : List Int) (hl : l.length < 1000000000000) (hd : Dig l) (n : Nat) (hv : val l = n) : Meets Tryz.prog G 130 [.sl l.length (l.map wv)] (nP n) := by
  have := trim_c hG l hl
  rwa [trimL_wl hd hv] at this
set_option maxRecDepth 100000 in
set_option maxHeartbeats 8000000 in
theorem small_n (n : Nat) (hn : n < 4294967296) : Meets Tryz.prog G 79 [.val (.int .u32 n)] (nP n) := by
  refine meets_of_vc (Y := {}) (N := 9) (rs := [.tmp 2]) mix tk hG Tryz.func79 rfl (by kernel_rfl) rfl rfl (by simp) (by kernel_rfl) ?_
  simp (maxSteps := 10000000) only [↓sx, sx, ↓ty, ↓reduceIte, Nat.reduceEqDiff, Nat.reduceAdd, Nat.reduceLeDiff, Int.reduceEq, ne_eq, not_false_eq_true]
  have e1 : (n : Int).tmod 1000000000 = (n : Int) % 1000000000 := tmod_pos (by omega)
  have e2 : IntKind.u32.wrap ((n : Int).tdiv 1000000000) = (n : Int) / 1000000000 := by rw [tdiv_pos (by omega), u32_id (by omega) (by omega)]
  refine CallT.to (trim_n hG [(n : Int) % 1000000000, (n : Int) / 1000000000] (by simp) (Dig.cons (by omega) (by omega) (Dig.cons (by omega) (by omega) Dig.nil)) n (by simp [val]; omega)) (by rw [e1, e2]; rfl) ?_
  simp (maxSteps := 10000000) only [↓sx, sx, ↓reduceIte]
def plusInv (A B : List Int) (s : List Int × Int × Nat) : Prop :=
  s.1.length = s.2.2 ∧ Dig s.1 ∧ 0 ≤ s.2.1 ∧ s.2.1 ≤ 1 ∧ (s.2.2 ≤ max A.length B.length ∨ s.2.2 = max A.length B.length + 1 ∧ s.2.1 = 0) ∧ val s.1 + 1000000000 ^ s.2.2 * (val (A.drop s.2.2) + val (B.drop s.2.2) + s.2.1) = val A + val B
set_option maxRecDepth 100000 in
set_option maxHeartbeats 8000000 in
theorem plus_n (a b : Nat) (ha : Lw a < 1000000) (hb : Lw b < 1000000) : Meets Tryz.prog G 162 [nP a, nP b] (nP (a + b)) := by
  refine meets_of_vc (Y := {}) (N := 55) (rs := [.tmp 4]) mix tk hG Tryz.func162 rfl (by kernel_rfl) rfl rfl (by simp) (by kernel_rfl) ?_
  unfold Lw at ha hb
  rw [show nP a = .sl (wl a).length ((wl a).map wv) from rfl, show nP b = .sl (wl b).length ((wl b).map wv) from rfl]
  have hA := wl_dig a
  have hB := wl_dig b
  have hva := wl_val a
  have hvb := wl_val b
  generalize wl a = A at *
  generalize wl b = B at *
  simp (maxSteps := 10000000) only [↓sx, sx, ↓ty, ↓reduceIte, Nat.reduceEqDiff]
  refine loopK_of (fun s : List Int × Int × Nat => [(0, .p (.sl A.length (A.map wv))), (1, .p (.sl B.length (B.map wv))), (5, .orow 5), (6, .p (.val (.int .u32 s.2.1))), (7, .p (.val (.int .i64 (s.2.2 : Nat))))]) (fun _ => []) (fun s => [(5, ⟨92, 1, s.1.length, s.1.map wv, false⟩)]) (plusInv A B) (fun s => max A.length B.length + 2 - s.2.2) ([], 0, 0) ?_ ?_ ?_
  · refine ⟨rfl, Dig.nil, Int.le_refl _, by decide, .inl (Nat.zero_le _), ?_⟩
    simp [val_nil]
  · simp (maxSteps := 10000000) only [isE_nil, is_cons, bo_p, bo_orow, any_cons', all_cons', all_nil', Bool.true_or, ↓sx, sx, ↓reduceIte, Nat.reduceEqDiff]
    rfl
  · rintro ⟨out, c, i⟩ ⟨h1, h2, h3, h4, h5, h6⟩
    dsimp only at h1 h2 h3 h4 h5 h6 ⊢
    simp (maxSteps := 10000000) only [↓sx, sx, ↓ty, ↓reduceIte, Nat.reduceEqDiff, Nat.reduceAdd, Nat.reduceLeDiff, Nat.reduceLT, Int.reduceEq, ne_eq, not_false_eq_true, wv_c]
    have hx : 0 ≤ A.getD i 0 ∧ A.getD i 0 < 1000000000 := hA.getD i
    have hy : 0 ≤ B.getD i 0 ∧ B.getD i 0 < 1000000000 := hB.getD i
    have fin : ∀ {e : Env} {h : Hp} {ρ : Rws} {t : Tag (plusInv A B, (fun s : List Int × Int × Nat => max A.length B.length + 2 - s.2.2), e, h, ρ)} (s : Int), s = c + A.getD i 0 + B.getD i 0 → (i < max A.length B.length ∨ 0 < c) →
        e 0 = .p (.sl A.length (A.map wv)) → e 1 = .p (.sl B.length (B.map wv)) → e 5 = .orow 5 → e 6 = .p (.val (.int .u32 (IntKind.u32.wrap (s.tdiv 1000000000)))) → e 7 = .p (.val (.int .i64 (IntKind.i64.wrap ((i : Int) + 1)))) → ρ 5 = some ⟨92, 1, out.length + 1, out.map wv ++ [.val (.int .u32 (s.tmod 1000000000))], false⟩ →
        (out.length + 1 ≤ maxLen ∧ (out.length + 1) * 4 ≤ 140737488355328) ∧ NextK (fun s : List Int × Int × Nat => [(0, .p (.sl A.length (A.map wv))), (1, .p (.sl B.length (B.map wv))), (5, .orow 5), (6, .p (.val (.int .u32 s.2.1))), (7, .p (.val (.int .i64 (s.2.2 : Nat))))]) (fun _ => []) (fun s => [(5, ⟨92, 1, s.1.length, s.1.map wv, false⟩)]) (plusInv A B) (fun s => max A.length B.length + 2 - s.2.2) (out, c, i) e h ρ t := by
      intro e h ρ t s hs hgo e0 e1 e5 e6 e7 r5
      have hs0 : 0 ≤ s ∧ s < 2000000000 := by omega
      rw [tdiv_pos hs0.1, u32_id (by omega) (by omega)] at e6
      rw [tmod_pos hs0.1] at r5
      rw [i64_id (by omega) (by omega)] at e7
      refine ⟨⟨by simp only [maxLen]; omega, by omega⟩, NextK.mk (out ++ [s % 1000000000], s / 1000000000, i + 1) (by dsimp only; omega) ?_ ?_⟩
      · refine ⟨by simp [h1], h2.snoc (by omega) (by omega), by dsimp only; omega, by dsimp only; omega, ?_, ?_⟩
        · dsimp only
          rcases h5 with h5 | h5
          · rcases Nat.lt_or_ge i (max A.length B.length) with hi | hi
            · exact .inl hi
            · right
              have h7 : A.getD i 0 = 0 := getD_out (by omega)
              have h8 : B.getD i 0 = 0 := getD_out (by omega)
              omega
          · omega
        · dsimp only
          rw [val_snoc, h1]
          rw [val_drop' A i, val_drop' B i] at h6
          rw [← h6, Int.pow_succ]
          have : s = 1000000000 * (s / 1000000000) + s % 1000000000 := by omega
          generalize s / 1000000000 = q at *
          generalize s % 1000000000 = r at *
          generalize val (A.drop (i + 1)) = p1 at *
          generalize val (B.drop (i + 1)) = p2 at *
          grind
      · simp (maxSteps := 10000000) only [isE_nil, is_cons, bo_p, bo_orow, any_cons', all_cons', all_nil', Bool.true_or, ↓sx, sx, e0, e1, e5, e6, e7, r5]
        simp [wv_c]
    refine vcIf_dec (fun ha => ?_) (fun ha => ?_)
    · simp only [ha, decide_true, vcIf_true]
      refine ⟨⟨by omega, by omega, by omega⟩, by omega, ?_⟩
      refine vcIf_dec (fun hb => ?_) (fun hb => ?_)
      · refine ⟨⟨by omega, by omega, by omega⟩, by omega, ?_⟩
        rw [u32_id (x := c + A.getD i 0) (by omega) (by omega), u32_id (x := c + A.getD i 0 + B.getD i 0) (by omega) (by omega)]
        refine fin (c + A.getD i 0 + B.getD i 0) rfl (by omega) ?_ ?_ ?_ ?_ ?_ ?_
        all_goals (simp (maxSteps := 10000000) only [↓sx, sx, ↓reduceIte, Nat.reduceEqDiff]; done)
      · have h8 : B.getD i 0 = 0 := getD_out (by omega)
        rw [u32_id (x := c + A.getD i 0) (by omega) (by omega)]
        refine fin (c + A.getD i 0) (by omega) (by omega) ?_ ?_ ?_ ?_ ?_ ?_
        all_goals (simp (maxSteps := 10000000) only [↓sx, sx, ↓reduceIte, Nat.reduceEqDiff]; done)
    · have h7 : A.getD i 0 = 0 := getD_out (by omega)
      simp only [ha, decide_false, vcIf_false]
      refine vcIf_dec (fun hb => ?_) (fun hb => ?_)
      · simp only [hb, decide_true, vcIf_true]
        refine ⟨⟨by omega, by omega, by omega⟩, by omega, ?_⟩
        rw [u32_id (x := c + B.getD i 0) (by omega) (by omega)]
        refine fin (c + B.getD i 0) (by omega) (by omega) ?_ ?_ ?_ ?_ ?_ ?_
        all_goals (simp (maxSteps := 10000000) only [↓sx, sx, ↓reduceIte, Nat.reduceEqDiff]; done)
      · have h8 : B.getD i 0 = 0 := getD_out (by omega)
        simp only [hb, decide_false, vcIf_false]
        refine vcIf_dec (fun hc => ?_) (fun hc => ?_)
        · refine fin c (by omega) (by omega) ?_ ?_ ?_ ?_ ?_ ?_
          all_goals (simp (maxSteps := 10000000) only [↓sx, sx, ↓reduceIte, Nat.reduceEqDiff]; done)
        · obtain rfl : c = 0 := by omega
          rw [List.drop_eq_nil_of_le (show A.length ≤ i by omega), List.drop_eq_nil_of_le (show B.length ≤ i by omega)] at h6
          simp only [val_nil, Int.add_zero, Int.mul_zero] at h6
          refine CallT.mk (trim_n hG out (by omega) h2 (a + b) (by omega)) ?_
          simp (maxSteps := 10000000) only [↓sx, sx, ↓reduceIte]
end Go.Proofs.YtfbmphbmidlijaaGreatDoor.S
namespace Go.Proofs.YtfbmphbmidlijaaGreatDoor.S
open Go Go.Sx Go.RowKit Gb
variable {G : World → Prop} (hG : ∀ w w', G w → Below w.heap.size w w' → G w')
include hG
set_option maxRecDepth 100000 in
set_option maxHeartbeats 8000000 in
theorem cmp_n (a b : Nat) (ha : Lw a < 1000000000) (hb : Lw b < 1000000000) : Meets Tryz.prog G 111 [nP a, nP b] (iP (cmpI a b)) := by
  refine meets_of_vc (Y := {}) (N := 41) (rs := [.tmp 4]) mix tk hG Tryz.func111 rfl (by kernel_rfl) rfl rfl (by simp) (by kernel_rfl) ?_
  unfold Lw at ha hb
  rw [show nP a = .sl (wl a).length ((wl a).map wv) from rfl, show nP b = .sl (wl b).length ((wl b).map wv) from rfl]
  have hA := wl_norm a
  have hB := wl_norm b
  have hva := wl_val a
  have hvb := wl_val b
  generalize wl a = A at *
  generalize wl b = B at *
  simp (maxSteps := 10000000) only [↓sx, sx, ↓ty, ↓reduceIte, Nat.reduceEqDiff, iP_c]
  refine vcIf_b (fun hl => ?_) (fun hl => ?_)
  · rw [bne_iff_ne] at hl
    refine vcIf_dec (fun h => ?_) (fun h => ?_)
    · have := hB.len_lt hA.1 (by omega)
      rw [cmpI, if_pos (by omega)]
    · have := hA.len_lt hB.1 (by omega)
      rw [cmpI, if_neg (by omega), if_pos (by omega)]
  · have hl : A.length = B.length := by simp at hl; omega
    have hw : IntKind.i64.wrap ((A.length : Int) - 1) = (A.length : Int) - 1 := i64_id (by omega) (by omega)
    rw [hw]
    refine loopK_of (fun n : Nat => [(0, .p (.sl A.length (A.map wv))), (1, .p (.sl B.length (B.map wv))), (5, .p (.val (.int .i64 ((n : Int) - 1))))]) (fun _ => []) (fun _ => []) (fun n => n ≤ A.length ∧ val (A.drop n) = val (B.drop n)) (fun n => n) A.length ⟨Nat.le_refl _, ?_⟩ ?_ ?_
    · rw [List.drop_length, hl, List.drop_length]
    · simp (maxSteps := 10000000) only [isE_nil, is_cons, bo_p, all_nil', ↓sx, sx, ↓reduceIte, Nat.reduceEqDiff]
    · rintro n ⟨h1, h2⟩
      simp (maxSteps := 10000000) only [↓sx, sx, ↓ty, ↓reduceIte, Nat.reduceEqDiff, wv_c]
      refine vcIf_dec (fun h => ?_) (fun h => ?_)
      · obtain ⟨m, rfl⟩ : ∃ m, n = m + 1 := ⟨n - 1, by omega⟩
        rw [show (((m + 1 : Nat) : Int) - 1) = (m : Int) by omega]
        simp only [Int.toNat_natCast]
        refine ⟨by omega, by omega, by omega, by omega, ?_⟩
        have hx := hA.1.getD m
        have hy := hB.1.getD m
        refine vcIf_dec (fun h3 => ?_) (fun h3 => ?_)
        · have := cmp_drop A B hA.1 hB.1 m h2 h3 (by omega) (by omega)
          rw [cmpI, if_pos (by omega)]
        · refine ⟨by omega, by omega, by omega, by omega, ?_⟩
          refine vcIf_dec (fun h4 => ?_) (fun h4 => ?_)
          · have := cmp_drop B A hB.1 hA.1 m h2.symm h4 (by omega) (by omega)
            rw [cmpI, if_neg (by omega), if_pos (by omega)]
          · refine NextK.mk m (by omega) ⟨by omega, ?_⟩ ?_
            · rw [val_drop' A m, val_drop' B m, h2]; omega
            · simp (maxSteps := 10000000) only [isE_nil, is_cons, bo_p, all_nil', ↓sx, sx, ↓reduceIte, Nat.reduceEqDiff, i64_id (x := (m : Int) - 1) (by omega) (by omega)]
      · obtain rfl : n = 0 := by omega
        simp only [List.drop_zero] at h2
        rw [cmpI, if_neg (by omega), if_neg (by omega)]
def minusInv (A B : List Int) (s : List Int × Int × Nat) : Prop :=
  s.1.length = s.2.2 ∧ Dig s.1 ∧ 0 ≤ s.2.1 ∧ s.2.1 ≤ 1 ∧ s.2.2 ≤ A.length ∧ s.2.1 + val (B.drop s.2.2) ≤ val (A.drop s.2.2) ∧ val s.1 + 1000000000 ^ s.2.2 * (val (A.drop s.2.2) - val (B.drop s.2.2) - s.2.1) = val A - val B
set_option maxRecDepth 100000 in
set_option maxHeartbeats 8000000 in
theorem minus_n (a b : Nat) (ha : Lw a < 1000000) (hb : Lw b < 1000000) (hle : b ≤ a) : Meets Tryz.prog G 163 [nP a, nP b] (nP (a - b)) := by
  refine meets_of_vc (Y := {}) (N := 44) (rs := [.tmp 4]) mix tk hG Tryz.func163 rfl (by kernel_rfl) rfl rfl (by simp) (by kernel_rfl) ?_
  unfold Lw at ha hb
  rw [show nP a = .sl (wl a).length ((wl a).map wv) from rfl, show nP b = .sl (wl b).length ((wl b).map wv) from rfl]
  have hA := wl_norm a
  have hB := wl_norm b
  have hva := wl_val a
  have hvb := wl_val b
  generalize wl a = A at *
  generalize wl b = B at *
  simp (maxSteps := 10000000) only [↓sx, sx, ↓ty, ↓reduceIte, Nat.reduceEqDiff]
  refine loopK_of (fun s : List Int × Int × Nat => [(0, .p (.sl A.length (A.map wv))), (1, .p (.sl B.length (B.map wv))), (5, .orow 5), (6, .p (.val (.int .i64 s.2.1))), (7, .p (.val (.int .i64 (s.2.2 : Nat))))]) (fun _ => []) (fun s => [(5, ⟨92, 1, s.1.length, s.1.map wv, false⟩)]) (minusInv A B) (fun s => A.length - s.2.2) ([], 0, 0) ?_ ?_ ?_
  · refine ⟨rfl, Dig.nil, Int.le_refl _, by decide, Nat.zero_le _, ?_, ?_⟩
    · simp only [List.drop_zero]; omega
    · simp [val_nil]
  · simp (maxSteps := 10000000) only [isE_nil, is_cons, bo_p, bo_orow, any_cons', all_cons', all_nil', Bool.true_or, ↓sx, sx, ↓reduceIte, Nat.reduceEqDiff]
    rfl
  · rintro ⟨out, c, i⟩ ⟨h1, h2, h3, h4, h5, h5b, h6⟩
    dsimp only at h1 h2 h3 h4 h5 h5b h6 ⊢
    simp (maxSteps := 10000000) only [↓sx, sx, ↓ty, ↓reduceIte, Nat.reduceEqDiff, Nat.reduceAdd, Nat.reduceLeDiff, Nat.reduceLT, ne_eq, not_false_eq_true, wv_c]
    have hx : 0 ≤ A.getD i 0 ∧ A.getD i 0 < 1000000000 := hA.1.getD i
    have hy : 0 ≤ B.getD i 0 ∧ B.getD i 0 < 1000000000 := hB.1.getD i
    refine vcIf_dec (fun hi => ?_) (fun hi => ?_)
    · have fin : ∀ {e : Env} {h : Hp} {ρ : Rws} {t : Tag (minusInv A B, (fun s : List Int × Int × Nat => A.length - s.2.2), e, h, ρ)} (s c' : Int), s = A.getD i 0 - c - B.getD i 0 + 1000000000 * c' → 0 ≤ s → s < 1000000000 → 0 ≤ c' → c' ≤ 1 →
        e 0 = .p (.sl A.length (A.map wv)) → e 1 = .p (.sl B.length (B.map wv)) → e 5 = .orow 5 → e 6 = .p (.val (.int .i64 c')) → e 7 = .p (.val (.int .i64 (IntKind.i64.wrap ((i : Int) + 1)))) → ρ 5 = some ⟨92, 1, out.length + 1, out.map wv ++ [.val (.int .u32 s)], false⟩ →
        (out.length + 1 ≤ maxLen ∧ (out.length + 1) * 4 ≤ 140737488355328) ∧ NextK (fun s : List Int × Int × Nat => [(0, .p (.sl A.length (A.map wv))), (1, .p (.sl B.length (B.map wv))), (5, .orow 5), (6, .p (.val (.int .i64 s.2.1))), (7, .p (.val (.int .i64 (s.2.2 : Nat))))]) (fun _ => []) (fun s => [(5, ⟨92, 1, s.1.length, s.1.map wv, false⟩)]) (minusInv A B) (fun s => A.length - s.2.2) (out, c, i) e h ρ t := by
        intro e h ρ t s c' hs hs0 hs1 hc0 hc1 e0 e1 e5 e6 e7 r5
        rw [i64_id (by omega) (by omega)] at e7
        rw [val_drop' A i, val_drop' B i] at h5b h6
        refine ⟨⟨by simp only [maxLen]; omega, by omega⟩, NextK.mk (out ++ [s], c', i + 1) (by dsimp only; omega) ?_ ?_⟩
        · refine ⟨by simp [h1], h2.snoc (by omega) (by omega), hc0, hc1, by dsimp only; omega, by dsimp only; omega, ?_⟩
          dsimp only
          rw [val_snoc, h1, ← h6, Int.pow_succ]
          generalize val (A.drop (i + 1)) = p1 at *
          generalize val (B.drop (i + 1)) = p2 at *
          subst hs
          grind
        · simp (maxSteps := 10000000) only [isE_nil, is_cons, bo_p, bo_orow, any_cons', all_cons', all_nil', Bool.true_or, ↓sx, sx, e0, e1, e5, e6, e7, r5]
          simp [wv_c]
      rw [i64_id (x := A.getD i 0) (by omega) (by omega), i64_id (x := A.getD i 0 - c) (by omega) (by omega)]
      refine ⟨by omega, by omega, ?_⟩
      refine vcIf_dec (fun hb => ?_) (fun hb => ?_)
      · rw [i64_id (x := B.getD i 0) (by omega) (by omega), i64_id (x := A.getD i 0 - c - B.getD i 0) (by omega) (by omega)]
        refine ⟨by omega, by omega, ?_⟩
        refine vcIf_dec (fun hn => ?_) (fun hn => ?_)
        · rw [i64_id (x := A.getD i 0 - c - B.getD i 0 + 1000000000) (by omega) (by omega), u32_id (x := A.getD i 0 - c - B.getD i 0 + 1000000000) (by omega) (by omega)]
          refine fin (A.getD i 0 - c - B.getD i 0 + 1000000000) 1 (by omega) (by omega) (by omega) (by omega) (by omega) ?_ ?_ ?_ ?_ ?_ ?_
          all_goals (simp (maxSteps := 10000000) only [↓sx, sx, ↓reduceIte, Nat.reduceEqDiff]; done)
        · rw [u32_id (x := A.getD i 0 - c - B.getD i 0) (by omega) (by omega)]
          refine fin (A.getD i 0 - c - B.getD i 0) 0 (by omega) (by omega) (by omega) (by omega) (by omega) ?_ ?_ ?_ ?_ ?_ ?_
          all_goals (simp (maxSteps := 10000000) only [↓sx, sx, ↓reduceIte, Nat.reduceEqDiff]; done)
      · have h8 : B.getD i 0 = 0 := getD_out (by omega)
        refine vcIf_dec (fun hn => ?_) (fun hn => ?_)
        · rw [i64_id (x := A.getD i 0 - c + 1000000000) (by omega) (by omega), u32_id (x := A.getD i 0 - c + 1000000000) (by omega) (by omega)]
          refine fin (A.getD i 0 - c + 1000000000) 1 (by omega) (by omega) (by omega) (by omega) (by omega) ?_ ?_ ?_ ?_ ?_ ?_
          all_goals (simp (maxSteps := 10000000) only [↓sx, sx, ↓reduceIte, Nat.reduceEqDiff]; done)
        · rw [u32_id (x := A.getD i 0 - c) (by omega) (by omega)]
          refine fin (A.getD i 0 - c) 0 (by omega) (by omega) (by omega) (by omega) (by omega) ?_ ?_ ?_ ?_ ?_ ?_
          all_goals (simp (maxSteps := 10000000) only [↓sx, sx, ↓reduceIte, Nat.reduceEqDiff]; done)
    · obtain rfl : i = A.length := by omega
      rw [List.drop_length, val_nil] at h5b h6
      have := val_nonneg (hB.1.drop A.length)
      have h9 : c = 0 := by omega
      have h10 : val (B.drop A.length) = 0 := by omega
      rw [h9, h10] at h6
      simp only [Int.sub_zero, Int.mul_zero, Int.add_zero] at h6
      refine CallT.mk (trim_n hG out (by omega) h2 (a - b) (by omega)) ?_
      simp (maxSteps := 10000000) only [↓sx, sx, ↓reduceIte]
end Go.Proofs.YtfbmphbmidlijaaGreatDoor.S
namespace Go.Proofs.YtfbmphbmidlijaaGreatDoor.S
open Go Go.Sx Go.RowKit Gb
variable {G : World → Prop} (hG : ∀ w w', G w → Below w.heap.size w w' → G w')
include hG
set_option maxRecDepth 100000 in
set_option maxHeartbeats 8000000 in
theorem word_n (a : Nat) (ha : Lw a ≤ 2) : Meets Tryz.prog G 153 [nP a] (.val (.int .u64 a)) := by
  refine meets_of_vc (Y := {}) (N := 21) (rs := [.tmp 2]) mix tk hG Tryz.func153 rfl (by kernel_rfl) rfl rfl (by simp) (by kernel_rfl) ?_
  unfold Lw at ha
  rw [show nP a = .sl (wl a).length ((wl a).map wv) from rfl]
  have hA := wl_norm a
  have hva := wl_val a
  generalize wl a = A at *
  simp (maxSteps := 10000000) only [↓sx, sx, ↓ty, ↓reduceIte, Nat.reduceEqDiff]
  have hw : IntKind.i64.wrap ((A.length : Int) - 1) = (A.length : Int) - 1 := i64_id (by omega) (by omega)
  rw [hw]
  refine loopK_of (fun n : Nat => [(0, .p (.sl A.length (A.map wv))), (3, .p (.val (.int .u64 (val (A.drop n))))), (4, .p (.val (.int .i64 ((n : Int) - 1))))]) (fun _ => []) (fun _ => []) (fun n => n ≤ A.length) (fun n => n) A.length (Nat.le_refl _) ?_ ?_
  · simp (maxSteps := 10000000) only [isE_nil, is_cons, bo_p, all_nil', ↓sx, sx, ↓reduceIte, Nat.reduceEqDiff]
    rw [List.drop_length]; rfl
  · intro n h1
    simp (maxSteps := 10000000) only [↓sx, sx, ↓ty, ↓reduceIte, Nat.reduceEqDiff, wv_c]
    refine vcIf_dec (fun h => ?_) (fun h => ?_)
    · obtain ⟨m, rfl⟩ : ∃ m, n = m + 1 := ⟨n - 1, by omega⟩
      rw [show (((m + 1 : Nat) : Int) - 1) = (m : Int) by omega]
      simp only [Int.toNat_natCast]
      have hx := hA.1.getD m
      have hd := val_bounds (hA.1.drop (m + 1))
      have hl : (A.drop (m + 1)).length ≤ 1 := by rw [List.length_drop]; omega
      have hp := pow_mono hl
      have h9 : val (A.drop (m + 1)) < 1000000000 := by omega
      refine ⟨by omega, by omega, NextK.mk m (by omega) (by omega) ?_⟩
      simp (maxSteps := 10000000) only [isE_nil, is_cons, bo_p, all_nil', ↓sx, sx, ↓reduceIte, Nat.reduceEqDiff, i64_id (x := (m : Int) - 1) (by omega) (by omega), u64_id (x := A.getD m 0) (by omega) (by omega), u64_id (x := val (A.drop (m + 1)) * 1000000000) (by omega) (by omega), u64_id (x := val (A.drop (m + 1)) * 1000000000 + A.getD m 0) (by omega) (by omega)]
      rw [val_drop' A m, show val (A.drop (m + 1)) * 1000000000 + A.getD m 0 = A.getD m 0 + 1000000000 * val (A.drop (m + 1)) by omega]
    · obtain rfl : n = 0 := by omega
      rw [List.drop_zero, hva]
set_option maxRecDepth 100000 in
set_option maxHeartbeats 8000000 in
theorem wide_n (n : Nat) (hn : n < 1000000000000000000) : Meets Tryz.prog G 154 [.val (.int .u64 n)] (nP n) := by
  refine meets_of_vc (Y := {}) (N := 16) (rs := [.tmp 2]) mix tk hG Tryz.func154 rfl (by kernel_rfl) rfl rfl (by simp) (by kernel_rfl) ?_
  simp (maxSteps := 10000000) only [↓sx, sx, ↓ty, ↓reduceIte, Nat.reduceEqDiff, Nat.reduceAdd, Nat.reduceLeDiff, Int.reduceEq, ne_eq, not_false_eq_true]
  have e1 : IntKind.u32.wrap ((n : Int).tmod 1000000000) = (n : Int) % 1000000000 := by rw [tmod_pos (by omega), u32_id (by omega) (by omega)]
  have e2 : IntKind.u64.wrap ((n : Int).tdiv 1000000000) = (n : Int) / 1000000000 := by rw [tdiv_pos (by omega), u64_id (by omega) (by omega)]
  have e3 : IntKind.u32.wrap (((n : Int) / 1000000000).tmod 1000000000) = (n : Int) / 1000000000 := by rw [tmod_pos (by omega), u32_id (by omega) (by omega)]; omega
  have e4 : IntKind.u32.wrap (IntKind.u64.wrap (((n : Int) / 1000000000).tdiv 1000000000)) = 0 := by rw [tdiv_pos (by omega), u64_id (by omega) (by omega), u32_id (by omega) (by omega)]; omega
  refine CallT.to (trim_n hG [(n : Int) % 1000000000, (n : Int) / 1000000000, 0] (by simp) (Dig.cons (by omega) (by omega) (Dig.cons (by omega) (by omega) (Dig.cons (by omega) (by omega) Dig.nil))) n (by simp [val]; omega)) (by rw [e1, e2, e3, e4]; rfl) ?_
  simp (maxSteps := 10000000) only [↓sx, sx, ↓reduceIte]
def timesInv (A B : List Int) (s : List Int × Nat) : Prop :=
  Dig s.1 ∧ s.1.length = A.length + B.length ∧ Zf s.1 (s.2 + B.length) ∧ s.2 ≤ A.length ∧ val s.1 + 1000000000 ^ s.2 * val (A.drop s.2) * val B = val A * val B
def timesInv2 (A B : List Int) (i : Nat) (s : List Int × Int × Nat) : Prop :=
  Dig s.1 ∧ s.1.length = A.length + B.length ∧ Zf s.1 (i + B.length) ∧ 0 ≤ s.2.1 ∧ s.2.1 < 1000000000 ∧ s.2.2 ≤ B.length ∧
    val s.1 + s.2.1 * 1000000000 ^ (i + s.2.2) + A.getD i 0 * 1000000000 ^ (i + s.2.2) * val (B.drop s.2.2) + 1000000000 ^ (i + 1) * val (A.drop (i + 1)) * val B = val A * val B
set_option maxRecDepth 100000 in
set_option maxHeartbeats 8000000 in
theorem times_n (a b : Nat) (ha : Lw a < 1000000) (hb : Lw b < 1000000) : Meets Tryz.prog G 115 [nP a, nP b] (nP (a * b)) := by
  refine meets_of_vc (Y := {}) (N := 77) (rs := [.tmp 4]) mix tk hG Tryz.func115 rfl (by kernel_rfl) rfl rfl (by simp) (by kernel_rfl) ?_
  unfold Lw at ha hb
  rw [show nP a = .sl (wl a).length ((wl a).map wv) from rfl, show nP b = .sl (wl b).length ((wl b).map wv) from rfl]
  have hA := wl_norm a
  have hB := wl_norm b
  have hva := wl_val a
  have hvb := wl_val b
  generalize wl a = A at *
  generalize wl b = B at *
  simp (maxSteps := 10000000) only [↓sx, sx, ↓ty, ↓reduceIte, Nat.reduceEqDiff, Nat.reduceAdd, Nat.reduceLT]
  refine vcIf_b (fun h0 => ?_) (fun h0 => ?_)
  · have : A = [] := by simpa using h0
    subst this
    rw [show a * b = 0 by rw [show a = 0 by simp [val] at hva; omega, Nat.zero_mul]]
    rw [nP_c, wl_zero]; rfl
  refine vcIf_b (fun h1 => ?_) (fun h1 => ?_)
  · have : B = [] := by simpa using h1
    subst this
    rw [show a * b = 0 by rw [show b = 0 by simp [val] at hvb; omega, Nat.mul_zero]]
    rw [nP_c, wl_zero]; rfl
  have hw : IntKind.i64.wrap ((A.length : Int) + (B.length : Int)) = ((A.length + B.length : Nat) : Int) := by rw [i64_id] <;> omega
  rw [hw]
  refine ⟨by omega, ?_⟩
  refine loopK_of (fun s : List Int × Nat => [(0, .p (.sl A.length (A.map wv))), (1, .p (.sl B.length (B.map wv))), (5, .orow 23), (6, .p (.val (.int .i64 (s.2 : Nat))))]) (fun _ => []) (fun s => [(23, ⟨92, 1, s.1.length, s.1.map wv, false⟩)]) (timesInv A B) (fun s => A.length - s.2) (List.replicate (A.length + B.length) 0, 0) ?_ ?_ ?_
  · refine ⟨Dig.replicate _, by simp, Zf.replicate _ _, Nat.zero_le _, ?_⟩
    simp [val_replicate]
  · simp (maxSteps := 10000000) only [isE_nil, is_cons, bo_p, bo_orow, any_cons', all_cons', all_nil', Bool.true_or, ↓sx, sx, ↓reduceIte, Nat.reduceEqDiff]
    simp [rep_wv, hw]
  · rintro ⟨out, i⟩ ⟨h2, h3, h4, h5, h6⟩
    dsimp only at h2 h3 h4 h5 h6 ⊢
    simp (maxSteps := 10000000) only [↓sx, sx, ↓ty, ↓reduceIte, Nat.reduceEqDiff]
    refine vcIf_dec (fun hi => ?_) (fun hi => ?_)
    · refine loopK_of (fun s : List Int × Int × Nat => [(0, .p (.sl A.length (A.map wv))), (1, .p (.sl B.length (B.map wv))), (5, .orow 23), (6, .p (.val (.int .i64 (i : Nat)))), (7, .p (.val (.int .u64 s.2.1))), (8, .p (.val (.int .i64 (s.2.2 : Nat))))]) (fun _ => []) (fun s => [(23, ⟨92, 1, s.1.length, s.1.map wv, false⟩)]) (timesInv2 A B i) (fun s => B.length - s.2.2) (out, 0, 0) ?_ ?_ ?_
      · refine ⟨h2, h3, h4, Int.le_refl _, by dsimp only; omega, Nat.zero_le _, ?_⟩
        dsimp only
        rw [← h6, val_drop' A i, List.drop_zero, Int.pow_succ]
        simp only [Nat.add_zero]
        generalize val (A.drop (i + 1)) = p
        grind
      · simp (maxSteps := 10000000) only [isE_nil, is_cons, bo_p, bo_orow, any_cons', all_cons', all_nil', Bool.true_or, ↓sx, sx, ↓reduceIte, Nat.reduceEqDiff]
        rfl
      · rintro ⟨o, c, j⟩ ⟨g1, g2, g3, g4, g4b, g5, g6⟩
        dsimp only at g1 g2 g3 g4 g4b g5 g6 ⊢
        simp (maxSteps := 10000000) only [↓sx, sx, ↓ty, ↓reduceIte, Nat.reduceEqDiff, Nat.reduceAdd, Int.reduceEq, wv_c]
        refine vcIf_dec (fun hj => ?_) (fun hj => ?_)
        · have hx := hA.1.getD i
          have hy := hB.1.getD j
          have ho := g1.getD (i + j)
          have hs := mul_step ho hx hy ⟨g4, g4b⟩
          have e1 : IntKind.i64.wrap ((i : Int) + (j : Int)) = ((i + j : Nat) : Int) := by rw [i64_id] <;> omega
          rw [e1]
          simp only [Int.toNat_natCast]
          rw [u64_id (x := o.getD (i + j) 0) (by omega) (by omega), u64_id (x := A.getD i 0) (by omega) (by omega), u64_id (x := B.getD j 0) (by omega) (by omega), u64_id (x := A.getD i 0 * B.getD j 0) (by omega) (by omega), u64_id (x := o.getD (i + j) 0 + A.getD i 0 * B.getD j 0) (by omega) (by omega), u64_id (x := o.getD (i + j) 0 + A.getD i 0 * B.getD j 0 + c) (by omega) (by omega)]
          generalize hs' : o.getD (i + j) 0 + A.getD i 0 * B.getD j 0 + c = s at *
          have hs0 : 0 ≤ s ∧ s < 1000000000000000000 := by omega
          rw [tmod_pos hs0.1, tdiv_pos hs0.1, u32_id (x := s % 1000000000) (by omega) (by omega), u64_id (x := s / 1000000000) (by omega) (by omega)]
          refine ⟨by omega, by omega, by omega, by omega, by omega, by omega, by omega, by omega, ?_⟩
          refine NextK.mk (o.set (i + j) (s % 1000000000), s / 1000000000, j + 1) (by dsimp only; omega) ⟨g1.set _ (by omega) (by omega), by simp [g2], g3.set _ _ (by omega), by dsimp only; omega, by dsimp only; omega, by dsimp only; omega, ?_⟩ ?_
          · dsimp only
            rw [val_set _ _ _ (by omega), ← g6, val_drop B j (by omega), ← Nat.add_assoc, Int.pow_succ]
            have : s = 1000000000 * (s / 1000000000) + s % 1000000000 := by omega
            generalize s / 1000000000 = q at *
            generalize s % 1000000000 = t at *
            subst this
            generalize val (A.drop (i + 1)) = p1 at *
            generalize val (B.drop (j + 1)) = p2 at *
            grind
          · simp (maxSteps := 10000000) only [isE_nil, is_cons, bo_p, bo_orow, any_cons', all_cons', all_nil', Bool.true_or, ↓sx, sx, ↓reduceIte, Nat.reduceEqDiff]
            rw [set_wv _ _ _ (by omega), i64_id (by omega) (by omega)]
            simp
        · obtain rfl : j = B.length := by omega
          have e1 : IntKind.i64.wrap ((i : Int) + (B.length : Int)) = ((i + B.length : Nat) : Int) := by rw [i64_id] <;> omega
          rw [e1]
          simp only [Int.toNat_natCast]
          rw [u32_id (x := c) (by omega) (by omega)]
          refine ⟨by omega, by omega, ?_⟩
          have hz := g3 (i + B.length) (Nat.le_refl _)
          refine NextK.mk (o.set (i + B.length) c, i + 1) (by dsimp only; omega) ⟨g1.set _ g4 g4b, by simp [g2], (Zf.mono g3 (by omega)).set _ _ (by dsimp only; omega), by dsimp only; omega, ?_⟩ ?_
          · dsimp only
            rw [val_set _ _ _ (by omega), ← g6, hz, List.drop_length, val_nil]
            grind
          · simp (maxSteps := 10000000) only [isE_nil, is_cons, bo_p, bo_orow, any_cons', all_cons', all_nil', Bool.true_or, ↓sx, sx, ↓reduceIte, Nat.reduceEqDiff]
            rw [set_wv _ _ _ (by omega), i64_id (by omega) (by omega)]
            simp
    · obtain rfl : i = A.length := by omega
      rw [List.drop_length, val_nil] at h6
      refine CallT.mk (trim_n hG out (by omega) h2 (a * b) (by rw [Int.natCast_mul]; grind)) ?_
      simp (maxSteps := 10000000) only [↓sx, sx, ↓reduceIte]
end Go.Proofs.YtfbmphbmidlijaaGreatDoor.S
namespace Go.Proofs.YtfbmphbmidlijaaGreatDoor.S
open Go Go.Sx Go.RowKit Gb
variable {G : World → Prop} (hG : ∀ w w', G w → Below w.heap.size w w' → G w')
include hG
def smallInv (A : List Int) (w : Int) (s : List Int × Int × Nat) : Prop :=
  s.2.2 ≤ A.length ∧ Dig s.1 ∧ s.1.length = A.length ∧ (∀ j, j < s.2.2 → s.1.getD j 0 = 0) ∧ 0 ≤ s.2.1 ∧ s.2.1 < w ∧ s.2.1 * 1000000000 ^ s.2.2 + val (A.take s.2.2) + w * val s.1 = val A
set_option maxRecDepth 100000 in
set_option maxHeartbeats 8000000 in
theorem smal_n (a w : Nat) (ha : Lw a < 1000000) (hw0 : 0 < w) (hw1 : w < 1000000000) : Meets Tryz.prog G 155 [nP a, .val (.int .u32 w)] (.tup [nP (a / w), .val (.int .u32 ((a % w : Nat) : Int))]) := by
  refine meets_of_vc (Y := {}) (N := 44) (rs := [.tmp 4, .tmp 5]) mix tk hG Tryz.func155 rfl (by kernel_rfl) rfl rfl (by simp) (by kernel_rfl) ?_
  unfold Lw at ha
  rw [show nP a = .sl (wl a).length ((wl a).map wv) from rfl]
  have hA := wl_norm a
  have hva := wl_val a
  generalize wl a = A at *
  simp (maxSteps := 10000000) only [↓sx, sx, ↓ty, ↓reduceIte, Nat.reduceEqDiff]
  have hw : IntKind.i64.wrap ((A.length : Int) - 1) = (A.length : Int) - 1 := i64_id (by omega) (by omega)
  rw [hw]
  refine ⟨by omega, ?_⟩
  refine loopK_of (fun s : List Int × Int × Nat => [(0, .p (.sl A.length (A.map wv))), (1, .p (.val (.int .u32 w))), (6, .orow 12), (7, .p (.val (.int .u64 s.2.1))), (8, .p (.val (.int .i64 ((s.2.2 : Int) - 1))))]) (fun _ => []) (fun s => [(12, ⟨92, 1, s.1.length, s.1.map wv, false⟩)]) (smallInv A w) (fun s => s.2.2) (List.replicate A.length 0, 0, A.length) ?_ ?_ ?_
  · refine ⟨Nat.le_refl _, Dig.replicate _, by simp, fun j _ => Zf.replicate _ 0 j (Nat.zero_le _), Int.le_refl _, by dsimp only; omega, ?_⟩
    simp [val_replicate]
  · simp (maxSteps := 10000000) only [isE_nil, is_cons, bo_p, bo_orow, any_cons', all_cons', all_nil', Bool.true_or, ↓sx, sx, ↓reduceIte, Nat.reduceEqDiff]
    simp [rep_wv]
  · rintro ⟨out, r, n⟩ ⟨h1, h2, h3, h4, h5, h5b, h6⟩
    dsimp only at h1 h2 h3 h4 h5 h5b h6 ⊢
    simp (maxSteps := 10000000) only [↓sx, sx, ↓ty, ↓reduceIte, Nat.reduceEqDiff, Nat.reduceAdd, wv_c]
    refine vcIf_dec (fun h => ?_) (fun h => ?_)
    · obtain ⟨m, rfl⟩ : ∃ m, n = m + 1 := ⟨n - 1, by omega⟩
      rw [show (((m + 1 : Nat) : Int) - 1) = (m : Int) by omega]
      simp only [Int.toNat_natCast]
      have hx := hA.1.getD m
      obtain ⟨s0, s1, s2, s3, s4, s5, s6⟩ := by_step (r := r) (x := A.getD m 0) (w := (w : Int)) ⟨h5, h5b⟩ hx (by omega)
      rw [u64_id (x := A.getD m 0) (by omega) (by omega), u64_id (x := r * 1000000000) (by omega) (by omega), u64_id (x := r * 1000000000 + A.getD m 0) (by omega) (by omega), u64_id (x := (w : Int)) (by omega) (by omega), tdiv_pos s0, tmod_pos s0, u64_id (x := (r * 1000000000 + A.getD m 0) / w) (by omega) (by omega), u32_id (x := (r * 1000000000 + A.getD m 0) / w) (by omega) (by omega)]
      refine ⟨by omega, by omega, by omega, by omega, by omega, by omega, ?_⟩
      refine NextK.mk (out.set m ((r * 1000000000 + A.getD m 0) / w), (r * 1000000000 + A.getD m 0) % w, m) (by dsimp only; omega) ⟨by dsimp only; omega, h2.set _ s2 s3, by simp [h3], (fun j hj => by dsimp only at hj ⊢; rw [Gb.getD_set_ne _ _ _ _ (by omega)]; exact h4 j (by omega)), s4, s5, ?_⟩ ?_
      · dsimp only
        rw [← h6, val_set _ _ _ (by omega), h4 m (by omega), val_take_succ _ _ (by omega), Int.pow_succ]
        generalize A.getD m 0 = x at *
        generalize (r * 1000000000 + x) / (w : Int) = sq at *
        generalize (r * 1000000000 + x) % (w : Int) = sr at *
        grind
      · simp (maxSteps := 10000000) only [isE_nil, is_cons, bo_p, bo_orow, any_cons', all_cons', all_nil', Bool.true_or, ↓sx, sx, ↓reduceIte, Nat.reduceEqDiff]
        rw [set_wv _ _ _ (by omega), i64_id (by omega) (by omega)]
        simp
    · obtain rfl : n = 0 := by omega
      rw [List.take_zero, val_nil, Int.pow_zero] at h6
      have hvo := val_nonneg h2
      have hq : val out = ((a / w : Nat) : Int) := by
        rw [Int.natCast_ediv, ← hva, ← h6, show r * 1 + 0 + (w : Int) * val out = r + w * val out by omega, Int.add_mul_ediv_left _ _ (by omega), Int.ediv_eq_zero_of_lt h5 h5b]; omega
      have hr : r = ((a % w : Nat) : Int) := by
        rw [Int.natCast_emod, ← hva, ← h6, show r * 1 + 0 + (w : Int) * val out = r + w * val out by omega, Int.add_mul_emod_self_left, Int.emod_eq_of_lt h5 h5b]
      refine CallT.mk (trim_n hG out (by omega) h2 (a / w) hq) ?_
      simp (maxSteps := 10000000) only [↓sx, sx, ↓ty, ↓reduceIte, Nat.reduceEqDiff]
      rw [u32_id (x := r) (by omega) (by omega), hr]
end Go.Proofs.YtfbmphbmidlijaaGreatDoor.S
namespace Gb
open Go Go.RowKit
def dg : Nat → Nat → List Int
  | 0, _ => []
  | k + 1, n => ((n % 1000000000 : Nat) : Int) :: dg k (n / 1000000000)
theorem dg_spec : ∀ (k n : Nat), Dig (dg k n) ∧ (dg k n).length = k ∧ (n < 1000000000 ^ k → val (dg k n) = n)
  | 0, n => ⟨Dig.nil, rfl, fun h => by simp at h; subst h; rfl⟩
  | k + 1, n => by
    obtain ⟨h1, h2, h3⟩ := dg_spec k (n / 1000000000)
    refine ⟨Dig.cons (by omega) (by omega) h1, by simp [dg, h2], fun h => ?_⟩
    rw [Nat.pow_succ] at h
    rw [dg, val_cons, h3 (Nat.div_lt_of_lt_mul (by omega))]
    omega
theorem take_set_of_le (l : List Int) (i j : Nat) (v : Int) (h : i ≤ j) : (l.set j v).take i = l.take i := by
  rw [List.take_set_of_le (h := h)]
theorem zf_val {l : List Int} (h : Zf l 0) : val l = 0 := by
  induction l with
  | nil => rfl
  | cons x l ih =>
    have h0 := h 0 (Nat.le_refl _)
    simp at h0
    rw [val_cons, h0, ih (fun j _ => by have := h (j + 1) (by omega); simpa using this)]; omega
theorem zf_drop {l : List Int} {n : Nat} (h : Zf l n) : val (l.drop n) = 0 := by
  apply zf_val
  intro j _
  rw [List.getD_eq_getElem?_getD, List.getElem?_drop, ← List.getD_eq_getElem?_getD]
  exact h _ (by omega)
def redU (u v : List Int) (at_ : Nat) : List Int := u.take at_ ++ dg (u.length - at_) (val (u.drop at_) % val v).toNat
theorem redU_of {u v x : List Int} {at_ : Nat} (hv : Dig v) (hV : 0 < val v) (hat : at_ + v.length < u.length) (hx : Dig x) (hl : x.length = u.length) (ht : x.take at_ = u.take at_) (hm : val (x.drop at_) = val (u.drop at_) % val v) : x = redU u v at_ := by
  have h0 := Int.emod_nonneg (val (u.drop at_)) (show val v ≠ 0 by omega)
  have h1 := Int.emod_lt_of_pos (val (u.drop at_)) hV
  have h2 := (val_bounds hv).2
  have h3 := pow_mono (show v.length ≤ u.length - at_ by omega)
  obtain ⟨d1, d2, d3⟩ := dg_spec (u.length - at_) (val (u.drop at_) % val v).toNat
  have h4 : (val (u.drop at_) % val v).toNat < 1000000000 ^ (u.length - at_) := by
    have : ((val (u.drop at_) % val v).toNat : Int) < ((1000000000 ^ (u.length - at_) : Nat) : Int) := by rw [cast_pow]; omega
    exact Int.ofNat_lt.1 this
  have h5 := d3 h4
  unfold redU
  rw [← ht]
  conv => lhs; rw [← List.take_append_drop at_ x]
  congr 1
  refine Dig.inj (hx.drop _) d1 (by rw [List.length_drop, d2, hl]) ?_
  rw [h5, hm]; omega
theorem redU_len {u v : List Int} {at_ : Nat} (h : at_ ≤ u.length) : (redU u v at_).length = u.length := by
  unfold redU
  rw [List.length_append, (dg_spec _ _).2.1, List.length_take]; omega
theorem redU_take {u v : List Int} {at_ : Nat} (h : at_ ≤ u.length) : (redU u v at_).take at_ = u.take at_ := by
  unfold redU
  rw [List.take_append_of_le_length (by rw [List.length_take]; omega), List.take_take, Nat.min_self]
theorem redU_dig {u v : List Int} {at_ : Nat} (hu : Dig u) : Dig (redU u v at_) := (hu.take _).append (dg_spec _ _).1
theorem redU_val {u v : List Int} {at_ : Nat} (hv : Dig v) (hV : 0 < val v) (hat : at_ + v.length < u.length) : val ((redU u v at_).drop at_) = val (u.drop at_) % val v := by
  have h0 := Int.emod_nonneg (val (u.drop at_)) (show val v ≠ 0 by omega)
  have h1 := Int.emod_lt_of_pos (val (u.drop at_)) hV
  have h2 := (val_bounds hv).2
  have h3 := pow_mono (show v.length ≤ u.length - at_ by omega)
  obtain ⟨d1, d2, d3⟩ := dg_spec (u.length - at_) (val (u.drop at_) % val v).toNat
  have h4 : (val (u.drop at_) % val v).toNat < 1000000000 ^ (u.length - at_) := by
    have : ((val (u.drop at_) % val v).toNat : Int) < ((1000000000 ^ (u.length - at_) : Nat) : Int) := by rw [cast_pow]; omega
    exact Int.ofNat_lt.1 this
  have h5 := d3 h4
  unfold redU
  rw [List.drop_append, List.length_take, List.drop_eq_nil_of_le (by rw [List.length_take]; omega), show at_ - min at_ u.length = 0 by omega, List.drop_zero, List.nil_append, h5]
  omega
structure Red (u v u1 : List Int) (at_ : Nat) (t b1 c1 : Int) : Prop where
  du : Dig u
  dv : Dig v
  hat : at_ + v.length < u.length
  ht : 0 ≤ t ∧ t < 1000000000
  lo : (t - 1) * val v ≤ val (u.drop at_)
  hi : val (u.drop at_) < (t + 1) * val v
  hV : 0 < val v
  hz : Zf u (at_ + v.length + 1)
  g1 : Dig u1
  g2 : u1.length = u.length
  g3 : u1.take at_ = u.take at_
  g4 : ∀ j, at_ + v.length ≤ j → u1.getD j 0 = u.getD j 0
  g5 : 0 ≤ b1 ∧ b1 ≤ 1
  g6 : 0 ≤ c1 ∧ c1 < 1000000000
  g7 : val u1 + 1000000000 ^ at_ * (t * val v) = val u + 1000000000 ^ (at_ + v.length) * (c1 + b1)
section
variable {u v u1 : List Int} {at_ : Nat} {t b1 c1 : Int}
theorem Red.facts (r : Red u v u1 at_ t b1 c1) : val (u1.drop at_) + t * val v = val (u.drop at_) + 1000000000 ^ v.length * (c1 + b1) ∧
    (0 ≤ val ((u1.drop at_).take v.length) ∧ val ((u1.drop at_).take v.length) < 1000000000 ^ v.length) ∧
    val (u1.drop at_) = val ((u1.drop at_).take v.length) + 1000000000 ^ v.length * u.getD (at_ + v.length) 0 ∧
    val ((u1.drop at_).take v.length) + 1000000000 ^ v.length * (u.getD (at_ + v.length) 0 - c1 - b1) = val (u.drop at_) - t * val v := by
  have hat := r.hat
  have g2 := r.g2
  have hPa := pow_pos at_
  have e0 := val_take_drop u at_ (by omega)
  have e1 := val_take_drop u1 at_ (by omega)
  rw [r.g3] at e1
  have g7 := r.g7
  have hU1 : val (u1.drop at_) + t * val v = val (u.drop at_) + 1000000000 ^ v.length * (c1 + b1) := by
    rw [Int.pow_add] at g7
    have : (1000000000 : Int) ^ at_ * (val (u1.drop at_) + t * val v) = 1000000000 ^ at_ * (val (u.drop at_) + 1000000000 ^ v.length * (c1 + b1)) := by grind
    exact Int.eq_of_mul_eq_mul_left (by omega) this
  have hlow1 := val_bounds ((r.g1.drop at_).take v.length)
  rw [List.length_take, List.length_drop, Nat.min_eq_left (by omega)] at hlow1
  have hz1 : Zf u1 (at_ + v.length + 1) := fun j hj => by rw [r.g4 j (by omega)]; exact r.hz j hj
  have hU1s : val (u1.drop at_) = val ((u1.drop at_).take v.length) + 1000000000 ^ v.length * u.getD (at_ + v.length) 0 := by
    have := val_take_drop (u1.drop at_) v.length (by simp; omega)
    rw [List.drop_drop, val_drop' u1 (at_ + v.length), zf_drop hz1, r.g4 _ (Nat.le_refl _)] at this
    rw [this]; simp
  refine ⟨hU1, hlow1, hU1s, ?_⟩
  generalize (1000000000 : Int) ^ v.length = P at *
  generalize val ((u1.drop at_).take v.length) = low at *
  generalize val (u.drop at_) = U at *
  generalize val (u1.drop at_) = U1 at *
  generalize u.getD (at_ + v.length) 0 = dw at *
  grind
theorem Red.pos (r : Red u v u1 at_ t b1 c1) (hn : 0 ≤ u.getD (at_ + v.length) 0 - c1 - b1) : u.getD (at_ + v.length) 0 - c1 - b1 < 1000000000 ∧ t = val (u.drop at_) / val v ∧ u1.set (at_ + v.length) (u.getD (at_ + v.length) 0 - c1 - b1) = redU u v at_ := by
  obtain ⟨f1, f2, f3, f4⟩ := r.facts
  have hat := r.hat
  have g2 := r.g2
  have hdig := r.du.getD (at_ + v.length)
  have g5 := r.g5; have g6 := r.g6; have hV := r.hV; have hhi := r.hi
  have hw := r.g4 (at_ + v.length) (Nat.le_refl _)
  have hP := pow_pos v.length
  have hle : t * val v ≤ val (u.drop at_) := by
    have : 0 ≤ 1000000000 ^ v.length * (u.getD (at_ + v.length) 0 - c1 - b1) := Int.mul_nonneg (by omega) hn
    omega
  have hfin := val_set u1 (at_ + v.length) (u.getD (at_ + v.length) 0 - c1 - b1) (by omega)
  have e1 := val_take_drop u1 at_ (by omega)
  have e3 := val_take_drop (u1.set (at_ + v.length) (u.getD (at_ + v.length) 0 - c1 - b1)) at_ (by simp; omega)
  rw [take_set_of_le _ _ _ _ (by omega), hfin, hw, Int.pow_add, e1] at e3
  have hPa := pow_pos at_
  have hU3 : val ((u1.set (at_ + v.length) (u.getD (at_ + v.length) 0 - c1 - b1)).drop at_) = val (u.drop at_) - t * val v := by
    have : (1000000000 : Int) ^ at_ * (val ((u1.set (at_ + v.length) (u.getD (at_ + v.length) 0 - c1 - b1)).drop at_)) = 1000000000 ^ at_ * (val (u.drop at_) - t * val v) := by
      generalize val ((u1.set (at_ + v.length) (u.getD (at_ + v.length) 0 - c1 - b1)).drop at_) = X at *
      generalize val (u1.drop at_) = U1 at *
      generalize val ((u1.drop at_).take v.length) = low at *
      generalize val (u.drop at_) = U at *
      generalize u.getD (at_ + v.length) 0 = dw at *
      generalize val v = V at *
      grind
    exact Int.eq_of_mul_eq_mul_left (by omega) this
  have h2 : (t + 1) * val v = t * val v + val v := by grind
  have hq : t = val (u.drop at_) / val v := by
    have : val (u.drop at_) = val v * t + (val (u.drop at_) - t * val v) := by rw [Int.mul_comm (val v) t]; omega
    rw [this, Int.add_comm, Int.add_mul_ediv_left _ _ (by omega), Int.ediv_eq_zero_of_lt (by omega) (by omega)]; omega
  have hr : val (u.drop at_) - t * val v = val (u.drop at_) % val v := by
    have : val (u.drop at_) = val v * t + (val (u.drop at_) - t * val v) := by rw [Int.mul_comm (val v) t]; omega
    conv => rhs; rw [this, Int.add_comm, Int.add_mul_emod_self_left]
    rw [Int.emod_eq_of_lt (by omega) (by omega)]
  exact ⟨by omega, hq, redU_of r.dv hV hat (r.g1.set _ (by omega) (by omega)) (by simp [g2]) (by rw [take_set_of_le _ _ _ _ (by omega), r.g3]) (by rw [hU3, hr])⟩
theorem Red.neg (r : Red u v u1 at_ t b1 c1) (hn : u.getD (at_ + v.length) 0 - c1 - b1 < 0) : 1 ≤ t ∧ u.getD (at_ + v.length) 0 - c1 - b1 = -1 ∧
    ∀ (u2 : List Int) (c2 : Int), Dig u2 → u2.length = u.length → u2.take at_ = (u1.set (at_ + v.length) 999999999).take at_ → (∀ j, at_ + v.length ≤ j → u2.getD j 0 = (u1.set (at_ + v.length) 999999999).getD j 0) → 0 ≤ c2 → c2 ≤ 1 →
      val u2 + 1000000000 ^ (at_ + v.length) * c2 = val (u1.set (at_ + v.length) 999999999) + 1000000000 ^ at_ * val v → c2 = 1 ∧ t - 1 = val (u.drop at_) / val v ∧ u2.getD (at_ + v.length) 0 = 999999999 ∧ u2.set (at_ + v.length) 0 = redU u v at_ := by
  obtain ⟨f1, f2, f3, f4⟩ := r.facts
  have hat := r.hat
  have g2 := r.g2
  have hdig := r.du.getD (at_ + v.length)
  have g5 := r.g5; have g6 := r.g6; have hV := r.hV; have hhi := r.hi; have hlo := r.lo; have ht := r.ht
  have hw := r.g4 (at_ + v.length) (Nat.le_refl _)
  have hP := pow_pos v.length
  have hPa := pow_pos at_
  have hVn := (val_bounds r.dv).2
  have hU0 := val_nonneg (r.du.drop at_)
  have hlt : val (u.drop at_) < t * val v := by
    have : (1000000000 : Int) ^ v.length * (u.getD (at_ + v.length) 0 - c1 - b1) ≤ 1000000000 ^ v.length * (-1) := Int.mul_le_mul_of_nonneg_left (by omega) (by omega)
    omega
  have htp : 1 ≤ t := by
    by_cases h : t = 0
    · subst h; omega
    · omega
  have h2 : (t - 1) * val v = t * val v - val v := by grind
  have hm1 : u.getD (at_ + v.length) 0 - c1 - b1 = -1 := by
    by_cases h : u.getD (at_ + v.length) 0 - c1 - b1 = -1
    · exact h
    · have h1 : (1000000000 : Int) ^ v.length * (u.getD (at_ + v.length) 0 - c1 - b1) ≤ 1000000000 ^ v.length * (-2) := Int.mul_le_mul_of_nonneg_left (by omega) (by omega)
      omega
  refine ⟨htp, hm1, ?_⟩
  intro u2 c2 k1 k2 k3 k4 k5 k5b k7
  rw [Int.pow_add, val_set _ _ _ (by omega), hw, Int.pow_add] at k7
  rw [take_set_of_le _ _ _ _ (by omega), r.g3] at k3
  have k4w := k4 (at_ + v.length) (Nat.le_refl _)
  rw [getD_set_same _ _ _ (by omega)] at k4w
  have hz1 : Zf u1 (at_ + v.length + 1) := fun j hj => by rw [r.g4 j (by omega)]; exact r.hz j hj
  have hz2 : Zf u2 (at_ + v.length + 1) := fun j hj => by rw [k4 j (by omega), getD_set_ne _ _ _ _ (by omega)]; exact hz1 j hj
  have e1 := val_take_drop u1 at_ (by omega)
  rw [r.g3] at e1
  have e2 := val_take_drop u2 at_ (by omega)
  rw [k3] at e2
  have hlow2 := val_bounds ((k1.drop at_).take v.length)
  rw [List.length_take, List.length_drop, Nat.min_eq_left (by omega)] at hlow2
  have hU2s : val (u2.drop at_) = val ((u2.drop at_).take v.length) + 1000000000 ^ v.length * 999999999 := by
    have := val_take_drop (u2.drop at_) v.length (by simp; omega)
    rw [List.drop_drop, val_drop' u2 (at_ + v.length), zf_drop hz2, k4w] at this
    rw [this]; simp
  generalize hP' : (1000000000 : Int) ^ v.length = P at *
  generalize hlw : val ((u1.drop at_).take v.length) = low at *
  generalize hUU : val (u.drop at_) = U at *
  generalize hdw : u.getD (at_ + v.length) 0 = dw at *
  have hU2 : val (u2.drop at_) + P * c2 = val (u1.drop at_) + P * (999999999 - dw) + val v := by
    have : (1000000000 : Int) ^ at_ * (val (u2.drop at_) + P * c2) = 1000000000 ^ at_ * (val (u1.drop at_) + P * (999999999 - dw) + val v) := by grind
    exact Int.eq_of_mul_eq_mul_left (by omega) this
  generalize hl2 : val ((u2.drop at_).take v.length) = low2 at *
  have hsum : low2 + P * c2 = low + val v := by grind
  have hUq : low + val v = U - (t - 1) * val v + P := by
    rw [hm1] at f4
    omega
  have hc2 : c2 = 1 := by
    by_cases h : c2 = 1
    · exact h
    · obtain rfl : c2 = 0 := by omega
      simp at hsum
      omega
  subst hc2
  have hfin := val_set u2 (at_ + v.length) 0 (by omega)
  have e3 := val_take_drop (u2.set (at_ + v.length) 0) at_ (by simp; omega)
  rw [take_set_of_le _ _ _ _ (by omega), k3, hfin, k4w, Int.pow_add, hP', e2] at e3
  have hU3 : val ((u2.set (at_ + v.length) 0).drop at_) = low2 := by
    have : (1000000000 : Int) ^ at_ * (val ((u2.set (at_ + v.length) 0).drop at_)) = 1000000000 ^ at_ * low2 := by grind
    exact Int.eq_of_mul_eq_mul_left (by omega) this
  have hres : low2 = U - (t - 1) * val v := by omega
  have hq : t - 1 = U / val v := by
    have : U = val v * (t - 1) + (U - (t - 1) * val v) := by rw [Int.mul_comm (val v) (t - 1)]; omega
    rw [this, Int.add_comm, Int.add_mul_ediv_left _ _ (by omega), Int.ediv_eq_zero_of_lt (by omega) (by omega)]; omega
  have hr : U - (t - 1) * val v = U % val v := by
    have : U = val v * (t - 1) + (U - (t - 1) * val v) := by rw [Int.mul_comm (val v) (t - 1)]; omega
    conv => rhs; rw [this, Int.add_comm, Int.add_mul_emod_self_left]
    rw [Int.emod_eq_of_lt (by omega) (by omega)]
  exact ⟨rfl, hq, k4w, redU_of r.dv hV hat (k1.set _ (by omega) (by omega)) (by simp [k2]) (by rw [take_set_of_le _ _ _ _ (by omega), k3]) (by rw [hU3, hres, hUU, hr])⟩
end
end Gb
namespace Gb
open Go Go.RowKit
theorem k_start {U V P top u2 U0 v1 v2 V0 t ρ : Int} (hP : 0 < P) (hU : U = (top * 1000000000 + u2) * P + U0) (hV : V = (v1 * 1000000000 + v2) * P + V0)
    (hu2 : u2 < 1000000000) (hU0 : U0 < P) (hv2 : 0 ≤ v2) (hV0 : 0 ≤ V0) (hv1 : 0 < v1) (ht : 0 ≤ t) (e : t * v1 + ρ = top) (hρ : ρ < v1) : U < (t + 1) * V := by
  have h1 : (top * 1000000000 + u2 + 1) * P ≤ ((t + 1) * (v1 * 1000000000)) * P := by
    apply Int.mul_le_mul_of_nonneg_right _ (by omega)
    have : (t + 1) * (v1 * 1000000000) = (t * v1 + v1) * 1000000000 := by grind
    rw [this]; omega
  have h2 : (t + 1) * ((v1 * 1000000000) * P) ≤ (t + 1) * V := by
    apply Int.mul_le_mul_of_nonneg_left _ (by omega)
    rw [hV]
    have : 0 ≤ v2 * P := Int.mul_nonneg hv2 (by omega)
    grind
  have h3 : (top * 1000000000 + u2 + 1) * P = (top * 1000000000 + u2) * P + P := by grind
  have h4 : ((t + 1) * (v1 * 1000000000)) * P = (t + 1) * ((v1 * 1000000000) * P) := by grind
  omega
theorem k_less {U V P top u2 U0 v1 v2 V0 t ρ : Int} (hP : 0 < P) (hU : U = (top * 1000000000 + u2) * P + U0) (hV : V = (v1 * 1000000000 + v2) * P + V0)
    (hU0 : U0 < P) (hV0 : 0 ≤ V0) (ht : 0 ≤ t) (e : t * v1 + ρ = top) (h : ρ * 1000000000 + u2 < t * v2) : U < t * V := by
  have h1 : (top * 1000000000 + u2 + 1) * P ≤ (t * (v1 * 1000000000 + v2)) * P := by
    apply Int.mul_le_mul_of_nonneg_right _ (by omega)
    have : t * (v1 * 1000000000 + v2) = (t * v1) * 1000000000 + t * v2 := by grind
    rw [this]; omega
  have h2 : 0 ≤ t * V0 := Int.mul_nonneg ht hV0
  have h3 : t * V = (t * (v1 * 1000000000 + v2)) * P + t * V0 := by rw [hV]; grind
  have h4 : (top * 1000000000 + u2 + 1) * P = (top * 1000000000 + u2) * P + P := by grind
  omega
theorem k_most {U V P top u2 U0 v1 v2 V0 t ρ : Int} (hP : 0 < P) (hU : U = (top * 1000000000 + u2) * P + U0) (hV : V = (v1 * 1000000000 + v2) * P + V0)
    (hU0 : 0 ≤ U0) (hV0 : V0 < P) (hv2 : 0 ≤ v2) (hV00 : 0 ≤ V0) (hv1 : 0 < v1) (ht : 0 ≤ t) (ht2 : t ≤ 1000000000) (e : t * v1 + ρ = top) (h : t * v2 ≤ ρ * 1000000000 + u2) : (t - 1) * V ≤ U := by
  have h1 : (t * (v1 * 1000000000 + v2)) * P ≤ (top * 1000000000 + u2) * P := by
    apply Int.mul_le_mul_of_nonneg_right _ (by omega)
    have : t * (v1 * 1000000000 + v2) = (t * v1) * 1000000000 + t * v2 := by grind
    rw [this]; omega
  have h2 : t * V0 ≤ 1000000000 * P := Int.mul_le_mul (by omega) (by omega) (by omega) (by omega)
  have h3 : t * V = (t * (v1 * 1000000000 + v2)) * P + t * V0 := by rw [hV]; grind
  have h4 : 1000000000 * P ≤ V := by
    have a1 : 1000000000 * P ≤ (v1 * 1000000000) * P := Int.mul_le_mul_of_nonneg_right (by omega) (by omega)
    have a2 : 0 ≤ v2 * P := Int.mul_nonneg hv2 (by omega)
    have a3 : (v1 * 1000000000 + v2) * P = (v1 * 1000000000) * P + v2 * P := by grind
    omega
  have h5 : (t - 1) * V = t * V - V := by grind
  omega
theorem seg_top (u : List Int) (at_ n : Nat) (hu : Dig u) (hn : 2 ≤ n) (hl : at_ + n < u.length) (hz : Zf u (at_ + n + 1)) :
    ∃ U0, 0 ≤ U0 ∧ U0 < 1000000000 ^ (n - 2) ∧ val (u.drop at_) = ((u.getD (at_ + n) 0 * 1000000000 + u.getD (at_ + n - 1) 0) * 1000000000 + u.getD (at_ + n - 2) 0) * 1000000000 ^ (n - 2) + U0 := by
  refine ⟨val ((u.drop at_).take (n - 2)), (val_bounds ((hu.drop _).take _)).1, ?_, ?_⟩
  · have := (val_bounds ((hu.drop at_).take (n - 2))).2
    rw [List.length_take, List.length_drop, Nat.min_eq_left (by omega)] at this
    exact this
  · have h1 := val_take_drop (u.drop at_) (n - 2) (by simp; omega)
    rw [List.drop_drop, val_drop' u (at_ + (n - 2)), val_drop' u (at_ + (n - 2) + 1), val_drop' u (at_ + (n - 2) + 1 + 1)] at h1
    have h2 : val (u.drop (at_ + (n - 2) + 1 + 1 + 1)) = 0 := by
      have : ∀ (l : List Int), Zf l 0 → val l = 0 := by
        intro l
        induction l with
        | nil => intro _; rfl
        | cons x l ih =>
          intro h
          have h0 := h 0 (Nat.le_refl _)
          simp at h0
          rw [val_cons, h0, ih (fun j _ => by have := h (j + 1) (by omega); simpa using this)]; omega
      apply this
      intro j _
      rw [List.getD_eq_getElem?_getD, List.getElem?_drop, ← List.getD_eq_getElem?_getD]
      exact hz _ (by omega)
    rw [h2] at h1
    rw [h1, show at_ + (n - 2) + 1 + 1 = at_ + n by omega, show at_ + (n - 2) + 1 = at_ + n - 1 by omega, show at_ + (n - 2) = at_ + n - 2 by omega]
    generalize (1000000000 : Int) ^ (n - 2) = P
    grind
theorem div_top (v : List Int) (hv : Dig v) (hn : 2 ≤ v.length) :
    ∃ V0, 0 ≤ V0 ∧ V0 < 1000000000 ^ (v.length - 2) ∧ val v = (v.getD (v.length - 1) 0 * 1000000000 + v.getD (v.length - 2) 0) * 1000000000 ^ (v.length - 2) + V0 := by
  refine ⟨val (v.take (v.length - 2)), (val_bounds (hv.take _)).1, ?_, ?_⟩
  · have := (val_bounds (hv.take (v.length - 2))).2
    rw [List.length_take, Nat.min_eq_left (by omega)] at this
    exact this
  · have h1 := val_take_drop v (v.length - 2) (by omega)
    rw [val_drop' v (v.length - 2), val_drop' v (v.length - 2 + 1), show v.length - 2 + 1 + 1 = v.length by omega, List.drop_length, val_nil, show v.length - 2 + 1 = v.length - 1 by omega] at h1
    rw [h1]
    generalize (1000000000 : Int) ^ (v.length - 2) = P
    grind
theorem zf_of_lt (u : List Int) (hu : Dig u) (i n : Nat) (h : val (u.drop i) < 1000000000 ^ n) : Zf u (i + n) := by
  induction n generalizing i with
  | zero =>
    have h0 := val_nonneg (hu.drop i)
    have hz : val (u.drop i) = 0 := by simp at h; omega
    have : ∀ (l : List Int), Dig l → val l = 0 → Zf l 0 := by
      intro l
      induction l with
      | nil => intro _ _ j _; rfl
      | cons x l ih =>
        intro hd hv j _
        have := hd.head
        have := val_nonneg hd.tail
        rw [val_cons] at hv
        cases j with
        | zero => simp; omega
        | succ j => rw [List.getD_cons_succ]; exact ih hd.tail (by omega) j (Nat.zero_le _)
    have h1 := this _ (hu.drop i) hz
    intro j hj
    have h2 := h1 (j - i) (Nat.zero_le _)
    rw [List.getD_eq_getElem?_getD, List.getElem?_drop, ← List.getD_eq_getElem?_getD, show i + (j - i) = j by omega] at h2
    exact h2
  | succ n ih =>
    have h1 := val_drop' u i
    have h2 := hu.getD i
    have h3 : val (u.drop (i + 1)) < 1000000000 ^ n := by
      rw [h1, Int.pow_succ] at h
      generalize val (u.drop (i + 1)) = x at *
      generalize (1000000000 : Int) ^ n = P at *
      omega
    have := ih (i + 1) h3
    rwa [show i + 1 + n = i + (n + 1) by omega] at this
theorem guess_top {U V P top uh ul u2 U0 v1 v2 V0 : Int} (hP : 0 < P) (hU : U = (top * 1000000000 + u2) * P + U0) (hV : V = (v1 * 1000000000 + v2) * P + V0) (ht : top = uh * 1000000000 + ul)
    (hu2 : 0 ≤ u2) (hU0 : 0 ≤ U0) (hul : 0 ≤ ul) (hv2 : v2 < 1000000000) (hV0 : V0 < P) (h : U < 1000000000 * V) : uh ≤ v1 := by
  have h1 : (uh * 1000000000 * 1000000000) * P ≤ (top * 1000000000 + u2) * P := Int.mul_le_mul_of_nonneg_right (by omega) (by omega)
  have h2 : (v1 * 1000000000 + v2) * P + V0 < (v1 * 1000000000 + v2 + 1) * P := by
    have : (v1 * 1000000000 + v2 + 1) * P = (v1 * 1000000000 + v2) * P + P := by grind
    omega
  have h3 : (v1 * 1000000000 + v2 + 1) * P ≤ ((v1 + 1) * 1000000000) * P := Int.mul_le_mul_of_nonneg_right (by omega) (by omega)
  have h4 : (uh * 1000000000 * 1000000000) * P < ((v1 + 1) * 1000000000 * 1000000000) * P := by
    have : ((v1 + 1) * 1000000000 * 1000000000) * P = 1000000000 * (((v1 + 1) * 1000000000) * P) := by grind
    omega
  have := Int.lt_of_mul_lt_mul_right h4 (by omega)
  omega
structure Guess (u v : List Int) (at_ : Nat) : Prop where
  du : Dig u
  dv : Dig v
  n2 : 2 ≤ v.length
  lu : u.length ≤ 35184372088800
  la : at_ + v.length < u.length
  top : v.getD (v.length - 1) 0 ≠ 0
  lt : val (u.drop (at_ + 1)) < val v
theorem Guess.v1 {u v : List Int} {at_ : Nat} (g : Guess u v at_) : 1 ≤ v.getD (v.length - 1) 0 ∧ v.getD (v.length - 1) 0 < 1000000000 := by
  have := g.dv.getD (v.length - 1)
  have := g.top
  omega
theorem Guess.vpos {u v : List Int} {at_ : Nat} (g : Guess u v at_) : 0 < val v := Norm.pos ⟨g.dv, fun _ => g.top⟩ (by intro h; have := g.n2; rw [h] at this; simp at this)
theorem Guess.zf {u v : List Int} {at_ : Nat} (g : Guess u v at_) : Zf u (at_ + v.length + 1) := by
  have := zf_of_lt u g.du (at_ + 1) v.length (by have := g.lt; have := (val_bounds g.dv).2; omega)
  rwa [show at_ + 1 + v.length = at_ + v.length + 1 by omega] at this
theorem Guess.ltB {u v : List Int} {at_ : Nat} (g : Guess u v at_) : val (u.drop at_) < 1000000000 * val v := by
  have h1 := val_drop' u at_
  have h2 := g.du.getD at_
  have := g.lt
  omega
theorem val_zero_of_zf : ∀ (l : List Int), Zf l 0 → val l = 0 := by
  intro l
  induction l with
  | nil => intro _; rfl
  | cons x l ih =>
    intro h
    have h0 := h 0 (Nat.le_refl _)
    simp at h0
    rw [val_cons, h0, ih (fun j _ => by have := h (j + 1) (by omega); simpa using this)]; omega
theorem val_take_zf (l : List Int) (n : Nat) (hn : n ≤ l.length) (h : Zf l n) : val (l.take n) = val l := by
  have h1 := val_take_drop l n hn
  have h2 : val (l.drop n) = 0 := by
    apply val_zero_of_zf
    intro j _
    rw [List.getD_eq_getElem?_getD, List.getElem?_drop, ← List.getD_eq_getElem?_getD]
    exact h _ (by omega)
  rw [h2] at h1
  omega
theorem guess_begin {u v : List Int} {at_ : Nat} (g : Guess u v at_) (T : Int) (hT : T = u.getD (at_ + v.length) 0 * 1000000000 + u.getD (at_ + v.length - 1) 0) :
    0 ≤ T ∧ T < 1000000000000000000 ∧ 0 ≤ T / v.getD (v.length - 1) 0 ∧ T / v.getD (v.length - 1) 0 < 2000000000 ∧ 0 ≤ T % v.getD (v.length - 1) 0 ∧ T % v.getD (v.length - 1) 0 < 1000000000 ∧
      T / v.getD (v.length - 1) 0 * v.getD (v.length - 1) 0 + T % v.getD (v.length - 1) 0 = T ∧ val (u.drop at_) < (T / v.getD (v.length - 1) 0 + 1) * val v := by
  have hv1 := g.v1
  have hv2 := g.dv.getD (v.length - 2)
  have hu2 := g.du.getD (at_ + v.length - 2)
  have hul := g.du.getD (at_ + v.length - 1)
  have huh := g.du.getD (at_ + v.length)
  obtain ⟨U0, a1, a2, a3⟩ := seg_top u at_ v.length g.du g.n2 g.la g.zf
  obtain ⟨V0, c1, c2, c3⟩ := div_top v g.dv g.n2
  have hP := pow_pos (v.length - 2)
  have huv := guess_top hP a3 c3 rfl hu2.1 a1 hul.1 hv2.2 c2 g.ltB
  have hT0 : 0 ≤ T := by omega
  have e1 := Int.ediv_nonneg hT0 (show 0 ≤ v.getD (v.length - 1) 0 by omega)
  have e2 := Int.emod_nonneg T (show v.getD (v.length - 1) 0 ≠ 0 by omega)
  have e3 := Int.emod_lt_of_pos T (show 0 < v.getD (v.length - 1) 0 by omega)
  have e4 := Int.mul_ediv_add_emod T (v.getD (v.length - 1) 0)
  have e5 : T / v.getD (v.length - 1) 0 * v.getD (v.length - 1) 0 + T % v.getD (v.length - 1) 0 = T := by rw [Int.mul_comm]; exact e4
  refine ⟨hT0, by omega, e1, ?_, e2, by omega, e5, ?_⟩
  · apply Int.ediv_lt_of_lt_mul (by omega)
    omega
  · rw [← hT] at a3
    exact k_start hP a3 c3 hu2.2 a2 hv2.1 c1 (by omega) e1 e5 e3
theorem pow_le_mul {a b : Int} {n : Nat} (h : a ≤ b) : a * 1000000000 ^ n ≤ b * 1000000000 ^ n := Int.mul_le_mul_of_nonneg_right h (by have := pow_pos n; omega)
theorem scaled_len {b v : List Int} (hb : Norm b) (hne : b ≠ []) (hv : Norm v) (s : Int) (hs : 1 ≤ s) (hsb : s * (b.getD (b.length - 1) 0 + 1) ≤ 1000000000) (he : val v = val b * s) : v.length = b.length := by
  have hp := List.length_pos_iff.2 hne
  have h1 := hb.lo hne
  have hpos := hb.pos hne
  have h2 : val b < (b.getD (b.length - 1) 0 + 1) * 1000000000 ^ (b.length - 1) := by
    have e := val_take_drop b (b.length - 1) (by omega)
    rw [val_drop' b (b.length - 1), show b.length - 1 + 1 = b.length by omega, List.drop_length, val_nil] at e
    have := (val_bounds (hb.1.take (b.length - 1))).2
    rw [List.length_take, Nat.min_eq_left (by omega)] at this
    have e2 : (b.getD (b.length - 1) 0 + 1) * 1000000000 ^ (b.length - 1) = 1000000000 ^ (b.length - 1) * (b.getD (b.length - 1) 0 + 1000000000 * 0) + 1000000000 ^ (b.length - 1) := by grind
    omega
  have h3 : val b ≤ val v := by
    rw [he]
    have : val b * 1 ≤ val b * s := Int.mul_le_mul_of_nonneg_left hs (by omega)
    omega
  have hle := hb.len_le hv.1 h3
  have h4 : val v < 1000000000 ^ b.length := by
    rw [he]
    have e1 : val b * s < ((b.getD (b.length - 1) 0 + 1) * 1000000000 ^ (b.length - 1)) * s := Int.mul_lt_mul_of_pos_right h2 (by omega)
    have e2 : ((b.getD (b.length - 1) 0 + 1) * 1000000000 ^ (b.length - 1)) * s = (s * (b.getD (b.length - 1) 0 + 1)) * 1000000000 ^ (b.length - 1) := by grind
    have e3 : (s * (b.getD (b.length - 1) 0 + 1)) * 1000000000 ^ (b.length - 1) ≤ 1000000000 * 1000000000 ^ (b.length - 1) := pow_le_mul hsb
    have e4 : (1000000000 : Int) ^ b.length = 1000000000 * 1000000000 ^ (b.length - 1) := by
      conv => lhs; rw [show b.length = (b.length - 1) + 1 by omega, Int.pow_succ]
      grind
    omega
  by_cases h : v.length ≤ b.length
  · omega
  · have hvne : v ≠ [] := by intro h0; subst h0; simp at h
    have := hv.lo hvne
    have := pow_mono (show b.length ≤ v.length - 1 by omega)
    omega
theorem scale_ok {x : Int} (h : 1 ≤ x ∧ x < 1000000000) : 1 ≤ 1000000000 / (x + 1) ∧ 1000000000 / (x + 1) < 1000000000 ∧ 1000000000 / (x + 1) * (x + 1) ≤ 1000000000 := by
  have h1 := Int.mul_ediv_add_emod 1000000000 (x + 1)
  have h2 := Int.emod_nonneg 1000000000 (show x + 1 ≠ 0 by omega)
  have h3 := Int.emod_lt_of_pos 1000000000 (show 0 < x + 1 by omega)
  have h4 : 1000000000 / (x + 1) * (x + 1) = (x + 1) * (1000000000 / (x + 1)) := Int.mul_comm _ _
  refine ⟨?_, ?_, by omega⟩
  · exact Int.le_ediv_of_mul_le (by omega) (by omega)
  · apply Int.ediv_lt_of_lt_mul (by omega)
    omega
theorem scaled_head {a b u : List Int} (ha : Dig a) (hb : Norm b) (hne : b ≠ []) (hu : Dig u) (s : Int) (hs : 1 ≤ s) (he : val u = val a * s) (hl : a.length + 1 ≤ u.length) (hbu : b.length ≤ u.length) (V : Int) (hV : V = val b * s) :
    val (u.drop (u.length - b.length)) < V := by
  have hp := List.length_pos_iff.2 hne
  have h1 := hb.lo hne
  have h2 := (val_bounds ha).2
  have e := val_take_drop u (u.length - b.length) (by omega)
  have h3 := val_nonneg (hu.take (u.length - b.length))
  have hP := pow_pos (u.length - b.length)
  have h4 : val a * s < 1000000000 ^ a.length * s := Int.mul_lt_mul_of_pos_right h2 (by omega)
  have h5 : (1000000000 : Int) ^ a.length * s ≤ 1000000000 ^ (u.length - 1) * s := Int.mul_le_mul_of_nonneg_right (pow_mono (by omega)) (by omega)
  have h6 : (1000000000 : Int) ^ (u.length - 1) * s = 1000000000 ^ (u.length - b.length) * (1000000000 ^ (b.length - 1) * s) := by
    rw [show u.length - 1 = (u.length - b.length) + (b.length - 1) by omega, Int.pow_add]; grind
  have h7 : (1000000000 : Int) ^ (b.length - 1) * s ≤ V := by rw [hV]; exact Int.mul_le_mul_of_nonneg_right h1 (by omega)
  have h8 : 1000000000 ^ (u.length - b.length) * val (u.drop (u.length - b.length)) < 1000000000 ^ (u.length - b.length) * (1000000000 ^ (b.length - 1) * s) := by omega
  have := Int.lt_of_mul_lt_mul_left h8 (by omega)
  omega
theorem quot_of {a b s Q rem : Int} (hs : 0 < s) (hb : 0 < b) (h : a * s = b * s * Q + rem) (h0 : 0 ≤ rem) (h1 : rem < b * s) : Q = a / b ∧ rem / s = a % b := by
  have e : rem = (a - b * Q) * s := by grind
  have h2 : 0 ≤ a - b * Q := by
    by_cases h : 0 ≤ a - b * Q
    · exact h
    · have : (a - b * Q) * s ≤ (-1) * s := Int.mul_le_mul_of_nonneg_right (by omega) (by omega)
      omega
  have h3 : a - b * Q < b := by
    rw [e] at h1
    exact Int.lt_of_mul_lt_mul_right h1 (by omega)
  have h4 : a = (a - b * Q) + b * Q := by omega
  constructor
  · rw [h4, Int.add_mul_ediv_left _ _ (by omega), Int.ediv_eq_zero_of_lt h2 h3]; omega
  · rw [e, Int.mul_ediv_cancel _ (by omega)]
    conv => rhs; rw [h4]
    rw [Int.add_mul_emod_self_left, Int.emod_eq_of_lt h2 h3]
theorem zf_snoc2 (w : List Int) : Zf (w ++ [0, 0]) w.length := by
  intro j hj
  obtain ⟨d, rfl⟩ := Nat.exists_eq_add_of_le hj
  rw [List.getD_eq_getElem?_getD, List.getElem?_append_right (by omega), Nat.add_sub_cancel_left]
  match d with
  | 0 => rfl
  | 1 => rfl
  | d + 2 => rfl
theorem len2 (w : List Int) : (w ++ [0, 0]).length = w.length + 2 := by
  rw [List.length_append]; rfl
theorem len2_le (w a : List Int) (h2 : a.length ≤ w.length) : a.length + 1 ≤ (w ++ [0, 0]).length := by
  rw [len2]; omega
theorem take_len2 (w a : List Int) (h : w.length ≤ a.length + 1) (h2 : a.length ≤ w.length) : ((w ++ [0, 0]).take (a.length + 1)).length = a.length + 1 := by
  rw [List.length_take, List.length_append]; simp only [List.length_cons, List.length_nil]; omega
section
variable {u v : List Int} {at_ : Nat} {t ρ : Int}
theorem Guess.down (g : Guess u v at_) (h0 : 0 ≤ t) (he : t * v.getD (v.length - 1) 0 + ρ = u.getD (at_ + v.length) 0 * 1000000000 + u.getD (at_ + v.length - 1) 0) (h2 : 0 ≤ ρ)
    (h : 1000000000 ≤ t ∨ ρ * 1000000000 + u.getD (at_ + v.length - 2) 0 < t * v.getD (v.length - 2) 0) : 1 ≤ t ∧ val (u.drop at_) < t * val v := by
  have hVp := g.vpos
  have hB := g.ltB
  have hu2 := g.du.getD (at_ + v.length - 2)
  obtain ⟨U0, a1, a2, a3⟩ := seg_top u at_ v.length g.du g.n2 g.la g.zf
  obtain ⟨V0, c1, c2, c3⟩ := div_top v g.dv g.n2
  have hP := pow_pos (v.length - 2)
  rcases h with h | h
  · have : 1000000000 * val v ≤ t * val v := Int.mul_le_mul_of_nonneg_right h (by omega)
    exact ⟨by omega, by omega⟩
  · refine ⟨?_, k_less hP a3 c3 a2 c1 h0 he h⟩
    by_cases h4 : t = 0
    · subst h4; omega
    · omega
theorem Guess.stay (g : Guess u v at_) (h0 : 0 ≤ t) (he : t * v.getD (v.length - 1) 0 + ρ = u.getD (at_ + v.length) 0 * 1000000000 + u.getD (at_ + v.length - 1) 0) (h2 : 0 ≤ ρ)
    (h : 1000000000 ≤ ρ ∨ t < 1000000000 ∧ t * v.getD (v.length - 2) 0 ≤ ρ * 1000000000 + u.getD (at_ + v.length - 2) 0) : t < 1000000000 ∧ (t - 1) * val v ≤ val (u.drop at_) := by
  have hv1 := g.v1
  have hv2 := g.dv.getD (v.length - 2)
  have hu2 := g.du.getD (at_ + v.length - 2)
  have hul := g.du.getD (at_ + v.length - 1)
  have huh := g.du.getD (at_ + v.length)
  obtain ⟨U0, a1, a2, a3⟩ := seg_top u at_ v.length g.du g.n2 g.la g.zf
  obtain ⟨V0, c1, c2, c3⟩ := div_top v g.dv g.n2
  have hP := pow_pos (v.length - 2)
  have huv := guess_top hP a3 c3 rfl hu2.1 a1 hul.1 hv2.2 c2 g.ltB
  rcases h with h | ⟨h, h3⟩
  · have htB : t < 1000000000 := by
      by_cases h : t < 1000000000
      · exact h
      · have : 1000000000 * v.getD (v.length - 1) 0 ≤ t * v.getD (v.length - 1) 0 := Int.mul_le_mul_of_nonneg_right (by omega) (by omega)
        omega
    have htv : 0 ≤ t * v.getD (v.length - 2) 0 ∧ t * v.getD (v.length - 2) 0 ≤ 999999998000000001 := mul_step (o := 0) (c := 0) (by omega) (by omega) hv2 (by omega)
    exact ⟨htB, k_most hP a3 c3 a1 c2 hv2.1 c1 (by omega) h0 (by omega) he (by omega)⟩
  · exact ⟨h, k_most hP a3 c3 a1 c2 hv2.1 c1 (by omega) h0 (by omega) he h3⟩
end
end Gb
namespace Gb
open Go Go.RowKit
def isD (c : UInt8) : Bool := decide (48 ≤ c.toNat) && decide (c.toNat ≤ 57)
def natOf (l : List UInt8) : Nat := l.foldl (fun n c => 10 * n + (c.toNat - 48)) 0
def isNat (l : List UInt8) : Bool := !l.isEmpty && l.all isD && (l.length == 1 || l.head? != some 48)
theorem isD_iff {c : UInt8} : isD c = true ↔ 48 ≤ c.toNat ∧ c.toNat ≤ 57 := by simp [isD]
theorem foldl_from (l : List UInt8) (n : Nat) : l.foldl (fun n (c : UInt8) => 10 * n + (c.toNat - 48)) n = n * 10 ^ l.length + natOf l := by
  unfold natOf
  induction l generalizing n with
  | nil => simp
  | cons c l ih =>
    simp only [List.foldl_cons, List.length_cons]
    rw [ih, ih (10 * 0 + (c.toNat - 48)), Nat.pow_succ]
    simp only [Nat.mul_zero, Nat.zero_add]
    rw [Nat.add_mul, Nat.add_assoc]
    congr 1
    rw [Nat.mul_comm 10 n, Nat.mul_assoc, Nat.mul_comm 10]
theorem natOf_nil : natOf [] = 0 := rfl
theorem natOf_append (a b : List UInt8) : natOf (a ++ b) = natOf a * 10 ^ b.length + natOf b := by
  conv => lhs; unfold natOf
  rw [List.foldl_append, foldl_from]
  rfl
theorem natOf_snoc (a : List UInt8) (c : UInt8) : natOf (a ++ [c]) = 10 * natOf a + (c.toNat - 48) := by
  rw [natOf_append]; simp [natOf]; omega
theorem natOf_lt (l : List UInt8) (h : ∀ c ∈ l, isD c = true) : natOf l < 10 ^ l.length := by
  induction l with
  | nil => simp [natOf]
  | cons c l ih =>
    have h1 := isD_iff.1 (h c (List.mem_cons_self ..))
    have h2 := ih fun x hx => h x (List.mem_cons_of_mem _ hx)
    rw [show c :: l = [c] ++ l from rfl, natOf_append]
    simp only [List.length_append, List.length_cons, List.length_nil, Nat.pow_add, Nat.zero_add, Nat.pow_one]
    have : natOf [c] = c.toNat - 48 := by simp [natOf]
    rw [this]
    have h4 : (c.toNat - 48) * 10 ^ l.length ≤ 9 * 10 ^ l.length := Nat.mul_le_mul_right _ (by omega)
    omega
theorem dec_isD (n : Nat) : ∀ c ∈ Lib.decDigits n, isD c = true := by
  induction n using Nat.strongRecOn with
  | _ n ih =>
    rw [Lib.decDigits]
    split
    · rename_i h
      intro c hc
      obtain rfl := List.mem_singleton.1 hc
      rw [isD_iff]
      have : (UInt8.ofNat (48 + n)).toNat = 48 + n := by rw [UInt8.toNat_ofNat']; omega
      omega
    · intro c hc
      rcases List.mem_append.1 hc with hc | hc
      · exact ih (n / 10) (by omega) c hc
      · obtain rfl := List.mem_singleton.1 hc
        rw [isD_iff]
        have : (UInt8.ofNat (48 + n % 10)).toNat = 48 + n % 10 := by rw [UInt8.toNat_ofNat']; omega
        omega
theorem natOf_dec (n : Nat) : natOf (Lib.decDigits n) = n := by
  induction n using Nat.strongRecOn with
  | _ n ih =>
    rw [Lib.decDigits]
    split
    · rename_i h
      simp only [natOf, List.foldl_cons, List.foldl_nil, UInt8.toNat_ofNat']
      omega
    · rw [natOf_snoc, ih (n / 10) (by omega), UInt8.toNat_ofNat']
      omega
theorem dec_ne (n : Nat) : Lib.decDigits n ≠ [] := by
  have := Lib.decDigits_length n
  have h := Lib.nDigits_pos n
  intro h0
  rw [h0] at this
  simp at this
  omega
theorem dec_head (n : Nat) : (Lib.decDigits n).length = 1 ∨ (Lib.decDigits n).head? ≠ some 48 := by
  induction n using Nat.strongRecOn with
  | _ n ih =>
    rw [Lib.decDigits]
    split
    · left; rfl
    · rename_i h
      right
      rcases ih (n / 10) (by omega) with h1 | h1
      · obtain ⟨c, hc⟩ := List.length_eq_one_iff.1 h1
        rw [hc]
        simp
        rintro rfl
        have := natOf_dec (n / 10)
        rw [hc] at this
        simp [natOf] at this
        omega
      · cases he : Lib.decDigits (n / 10) with
        | nil => exact absurd he (dec_ne _)
        | cons x l => rw [he] at h1; simpa using h1
theorem isNat_dec (n : Nat) : isNat (Lib.decDigits n) = true := by
  unfold isNat
  have h1 := dec_ne n
  have h2 := dec_isD n
  have h3 := dec_head n
  simp only [Bool.and_eq_true, Bool.not_eq_true', List.isEmpty_eq_false_iff, List.all_eq_true, Bool.or_eq_true, beq_iff_eq, bne_iff_ne]
  exact ⟨⟨h1, h2⟩, h3⟩
theorem isNat_iff {l : List UInt8} : isNat l = true ↔ l ≠ [] ∧ (∀ c ∈ l, isD c = true) ∧ (l.length = 1 ∨ l.head? ≠ some 48) := by
  unfold isNat
  simp only [Bool.and_eq_true, Bool.not_eq_true', List.isEmpty_eq_false_iff, List.all_eq_true, Bool.or_eq_true, beq_iff_eq, bne_iff_ne]
  constructor
  · rintro ⟨⟨a, b⟩, c⟩; exact ⟨a, b, c⟩
  · rintro ⟨a, b, c⟩; exact ⟨⟨a, b⟩, c⟩
theorem natOf_ge {l : List UInt8} (h : isNat l = true) (h2 : 2 ≤ l.length) : 10 ^ (l.length - 1) ≤ natOf l := by
  obtain ⟨_, hd, hh⟩ := isNat_iff.1 h
  cases l with
  | nil => simp at h2
  | cons c l =>
    have h1 := isD_iff.1 (hd c (List.mem_cons_self ..))
    have h3 : c ≠ 48 := by
      rcases hh with hh | hh
      · rw [hh] at h2; omega
      · intro he; subst he; simp at hh
    have h4 : c.toNat ≠ 48 := by
      intro he
      apply h3
      apply UInt8.toNat_inj.1
      rw [he]; rfl
    rw [show c :: l = [c] ++ l from rfl, natOf_append]
    have : natOf [c] = c.toNat - 48 := by simp [natOf]
    rw [this]
    have h5 : 1 * 10 ^ l.length ≤ (c.toNat - 48) * 10 ^ l.length := Nat.mul_le_mul_right _ (by omega)
    simp only [List.length_append, List.length_cons, List.length_nil]
    rw [show 0 + 1 + l.length - 1 = l.length by omega]
    omega
theorem digits_inj : ∀ (l m : List UInt8), (∀ c ∈ l, isD c = true) → (∀ c ∈ m, isD c = true) → l.length = m.length → natOf l = natOf m → l = m
  | [], [], _, _, _, _ => rfl
  | [], _ :: _, _, _, h, _ => by simp at h
  | _ :: _, [], _, _, h, _ => by simp at h
  | c :: l, d :: m, hl, hm, h, hv => by
    have h1 := isD_iff.1 (hl c (List.mem_cons_self ..))
    have h2 := isD_iff.1 (hm d (List.mem_cons_self ..))
    have h3 := natOf_lt l fun x hx => hl x (List.mem_cons_of_mem _ hx)
    have h4 := natOf_lt m fun x hx => hm x (List.mem_cons_of_mem _ hx)
    have hlen : l.length = m.length := by simpa using h
    rw [show c :: l = [c] ++ l from rfl, show d :: m = [d] ++ m from rfl, natOf_append, natOf_append] at hv
    have e1 : natOf [c] = c.toNat - 48 := by simp [natOf]
    have e2 : natOf [d] = d.toNat - 48 := by simp [natOf]
    rw [e1, e2, hlen] at hv
    rw [hlen] at h3
    generalize 10 ^ m.length = P at *
    have hcd : c.toNat - 48 = d.toNat - 48 := by
      rcases Nat.lt_trichotomy (c.toNat - 48) (d.toNat - 48) with h | h | h
      · have : (c.toNat - 48 + 1) * P ≤ (d.toNat - 48) * P := Nat.mul_le_mul_right _ h
        rw [Nat.add_mul] at this; omega
      · exact h
      · have : (d.toNat - 48 + 1) * P ≤ (c.toNat - 48) * P := Nat.mul_le_mul_right _ h
        rw [Nat.add_mul] at this; omega
    rw [hcd] at hv
    obtain rfl : c = d := UInt8.toNat_inj.1 (by omega)
    rw [digits_inj l m (fun x hx => hl x (List.mem_cons_of_mem _ hx)) (fun x hx => hm x (List.mem_cons_of_mem _ hx)) hlen (by omega)]
theorem dec_natOf {l : List UInt8} (h : isNat l = true) : Lib.decDigits (natOf l) = l := by
  have hN := isNat_dec (natOf l)
  obtain ⟨hne, hd, hh⟩ := isNat_iff.1 h
  obtain ⟨hne2, hd2, hh2⟩ := isNat_iff.1 hN
  apply digits_inj _ _ hd2 hd _ (natOf_dec _)
  have h1 := natOf_lt l hd
  have h2 := natOf_lt _ hd2
  rw [natOf_dec] at h2
  have hp1 := List.length_pos_iff.2 hne
  have hp2 := List.length_pos_iff.2 hne2
  rcases Nat.lt_trichotomy (Lib.decDigits (natOf l)).length l.length with hlt | he | hlt
  · have := natOf_ge h (by omega)
    have := Nat.pow_le_pow_right (show 0 < 10 by omega) (show (Lib.decDigits (natOf l)).length ≤ l.length - 1 by omega)
    omega
  · exact he
  · have := natOf_ge hN (by omega)
    rw [natOf_dec] at this
    have := Nat.pow_le_pow_right (show 0 < 10 by omega) (show l.length ≤ (Lib.decDigits (natOf l)).length - 1 by omega)
    omega
theorem take_succ_getD (l : List UInt8) (i : Nat) (h : i < l.length) : l.take (i + 1) = l.take i ++ [l.getD i 0] := by
  rw [List.take_succ_eq_append_getElem h, List.getD_eq_getElem?_getD, List.getElem?_eq_getElem h]; rfl
theorem isD_getD {l : List UInt8} (h : ∀ c ∈ l, isD c = true) (i : Nat) (hi : i < l.length) : 48 ≤ (l.getD i 0).toNat ∧ (l.getD i 0).toNat ≤ 57 := by
  rw [List.getD_eq_getElem?_getD, List.getElem?_eq_getElem hi]
  exact isD_iff.1 (h _ (List.getElem_mem hi))
def strP (l : List UInt8) : Go.Sx.PV := .val (.string ⟨l.toArray⟩)
theorem strP_c (l : List UInt8) : strP l = .val (.string ⟨l.toArray⟩) := rfl
theorem getD_get (l : List UInt8) (i : Nat) : l[i]?.getD 0 = l.getD i 0 := by rw [List.getD_eq_getElem?_getD]
end Gb
namespace Go.Proofs.YtfbmphbmidlijaaGreatDoor.S
open Go Go.Sx Go.RowKit Gb
variable {G : World → Prop} (hG : ∀ w w', G w → Below w.heap.size w w' → G w')
include hG
set_option maxRecDepth 100000 in
set_option maxHeartbeats 8000000 in
theorem ntrim_c (l0 : List Int) (hl0 : l0.length < 1000000000000) : Meets Tryz.prog G 148 [.sl l0.length (l0.map wv)] (wsP (trimL l0)) := by
  refine meets_of_vc (Y := {}) (N := 21) (rs := [.tmp 2]) mix tk hG Tryz.func148 rfl (by kernel_rfl) rfl rfl (by simp) (by kernel_rfl) ?_
  simp (maxSteps := 10000000) only [↓sx, sx, ↓ty, wsP_c]
  refine loopK_of (fun l : List Int => [(0, .p (.sl l.length (l.map wv)))]) (fun _ => []) (fun _ => []) (fun l => l.length < 1000000000000 ∧ trimL l = trimL l0) (fun l => l.length) l0 ⟨hl0, rfl⟩ ?_ ?_
  · simp (maxSteps := 10000000) only [isE_nil, is_cons, bo_p, all_nil', ↓sx, sx, ↓reduceIte, Nat.reduceEqDiff]
  · rintro l ⟨hl, ht⟩
    simp (maxSteps := 10000000) only [↓sx, sx, ↓ty, ↓reduceIte, Nat.reduceEqDiff, Nat.reduceLT, wv_c]
    refine vcIf_dec (fun h => ?_) (fun h => ?_)
    · have hw : IntKind.i64.wrap (l.length - 1 : Int) = ((l.length - 1 : Nat) : Int) := by rw [i64_id] <;> omega
      rw [hw]
      simp only [Int.toNat_natCast]
      refine ⟨⟨by omega, by omega, by omega⟩, by omega, ?_⟩
      rw [trimL, dif_neg (by intro h0; rw [h0] at h; simp at h)] at ht
      refine vcIf_b (fun hz => ?_) (fun hz => ?_)
      · rw [beq_iff_eq] at hz
        rw [if_pos hz, List.dropLast_eq_take] at ht
        refine ⟨⟨by omega, by omega, by omega⟩, NextK.mk (l.take (l.length - 1)) ?_ ⟨?_, ht⟩ ?_⟩
        · simp; omega
        · simp; omega
        · simp (maxSteps := 10000000) only [isE_nil, is_cons, bo_p, all_nil', ↓sx, sx, ↓reduceIte]
          simp [hw]
      · rw [beq_eq_false_iff_ne] at hz
        rw [if_neg hz] at ht
        rw [← ht]
    · have h0 : l = [] := List.eq_nil_of_length_eq_zero (by omega)
      subst h0
      rw [trimL, dif_pos rfl] at ht
      rw [← ht]
theorem ntrim_n (l : List Int) (hl : l.length < 1000000000000) (hd : Dig l) (n : Nat) (hv : val l = n) : Meets Tryz.prog G 148 [.sl l.length (l.map wv)] (nP n) := by
  have := ntrim_c hG l hl
  rwa [trimL_wl hd hv] at this
set_option maxRecDepth 100000 in
set_option maxHeartbeats 8000000 in
theorem isNaNi_n (n : Int) : Meets Tryz.prog G 214 [.val (.int .i64 n)] (.val (.bool false)) := by
  refine meets_of_vc (Y := {}) (N := 6) (rs := [.tmp 2]) mix tk hG Tryz.func214 rfl (by kernel_rfl) rfl rfl (by simp) (by kernel_rfl) ?_
  simp (maxSteps := 10000000) only [↓sx, sx, ↓reduceIte, Nat.reduceEqDiff]
  simp
set_option maxRecDepth 100000 in
set_option maxHeartbeats 8000000 in
theorem isNaNu_n (n : Int) : Meets Tryz.prog G 215 [.val (.int .u32 n)] (.val (.bool false)) := by
  refine meets_of_vc (Y := {}) (N := 6) (rs := [.tmp 2]) mix tk hG Tryz.func215 rfl (by kernel_rfl) rfl rfl (by simp) (by kernel_rfl) ?_
  simp (maxSteps := 10000000) only [↓sx, sx, ↓reduceIte, Nat.reduceEqDiff]
  simp
set_option maxRecDepth 100000 in
set_option maxHeartbeats 8000000 in
theorem cmpi_n (x y : Int) : Meets Tryz.prog G 192 [.val (.int .i64 x), .val (.int .i64 y)] (iP (cmpI x y)) := by
  refine meets_of_vc (Y := {}) (N := 20) (rs := [.tmp 4]) mix tk hG Tryz.func192 rfl (by kernel_rfl) rfl rfl (by simp) (by kernel_rfl) ?_
  simp (maxSteps := 10000000) only [↓sx, sx, ↓reduceIte, Nat.reduceEqDiff, iP_c]
  refine CallT.mk (isNaNi_n hG x) ?_
  simp (maxSteps := 10000000) only [↓sx, sx, ↓reduceIte, Nat.reduceEqDiff]
  refine CallT.mk (isNaNi_n hG y) ?_
  simp (maxSteps := 10000000) only [↓sx, sx, ↓reduceIte, Nat.reduceEqDiff]
  refine vcIf_dec (fun h => ?_) (fun h => ?_)
  · rw [cmpI, if_pos h]
  · refine vcIf_dec (fun h2 => ?_) (fun h2 => ?_)
    · rw [cmpI, if_neg h, if_pos h2]
    · rw [cmpI, if_neg h, if_neg h2]
set_option maxRecDepth 100000 in
set_option maxHeartbeats 8000000 in
theorem cmpu_n (x y : Int) : Meets Tryz.prog G 193 [.val (.int .u32 x), .val (.int .u32 y)] (iP (cmpI x y)) := by
  refine meets_of_vc (Y := {}) (N := 20) (rs := [.tmp 4]) mix tk hG Tryz.func193 rfl (by kernel_rfl) rfl rfl (by simp) (by kernel_rfl) ?_
  simp (maxSteps := 10000000) only [↓sx, sx, ↓reduceIte, Nat.reduceEqDiff, iP_c]
  refine CallT.mk (isNaNu_n hG x) ?_
  simp (maxSteps := 10000000) only [↓sx, sx, ↓reduceIte, Nat.reduceEqDiff]
  refine CallT.mk (isNaNu_n hG y) ?_
  simp (maxSteps := 10000000) only [↓sx, sx, ↓reduceIte, Nat.reduceEqDiff]
  refine vcIf_dec (fun h => ?_) (fun h => ?_)
  · rw [cmpI, if_pos h]
  · refine vcIf_dec (fun h2 => ?_) (fun h2 => ?_)
    · rw [cmpI, if_neg h, if_pos h2]
    · rw [cmpI, if_neg h, if_neg h2]
set_option maxRecDepth 100000 in
set_option maxHeartbeats 8000000 in
theorem ncmp_n (a b : Nat) (ha : Lw a < 1000000000) (hb : Lw b < 1000000000) : Meets Tryz.prog G 165 [nP a, nP b] (iP (cmpI a b)) := by
  refine meets_of_vc (Y := {}) (N := 41) (rs := [.tmp 4]) mix tk hG Tryz.func165 rfl (by kernel_rfl) rfl rfl (by simp) (by kernel_rfl) ?_
  unfold Lw at ha hb
  rw [show nP a = .sl (wl a).length ((wl a).map wv) from rfl, show nP b = .sl (wl b).length ((wl b).map wv) from rfl]
  have hA := wl_norm a
  have hB := wl_norm b
  have hva := wl_val a
  have hvb := wl_val b
  generalize wl a = A at *
  generalize wl b = B at *
  simp (maxSteps := 10000000) only [↓sx, sx, ↓ty, ↓reduceIte, Nat.reduceEqDiff, iP_c]
  refine vcIf_b (fun hl => ?_) (fun hl => ?_)
  · rw [bne_iff_ne] at hl
    refine CallT.mk (cmpi_n hG _ _) ?_
    simp (maxSteps := 10000000) only [↓sx, sx, ↓reduceIte, iP_c]
    have : cmpI (A.length : Int) (B.length : Int) = cmpI a b := by
      by_cases h : A.length < B.length
      · have := hB.len_lt hA.1 (by omega)
        unfold cmpI
        rw [if_pos (by omega), if_pos (by omega)]
      · have := hA.len_lt hB.1 (by omega)
        unfold cmpI
        rw [if_neg (by omega), if_pos (by omega), if_neg (by omega), if_pos (by omega)]
    rw [this]
  · have hl : A.length = B.length := by simp at hl; omega
    have hw : IntKind.i64.wrap ((A.length : Int) - 1) = (A.length : Int) - 1 := i64_id (by omega) (by omega)
    rw [hw]
    refine loopK_of (fun n : Nat => [(0, .p (.sl A.length (A.map wv))), (1, .p (.sl B.length (B.map wv))), (5, .p (.val (.int .i64 ((n : Int) - 1))))]) (fun _ => []) (fun _ => []) (fun n => n ≤ A.length ∧ val (A.drop n) = val (B.drop n)) (fun n => n) A.length ⟨Nat.le_refl _, ?_⟩ ?_ ?_
    · rw [List.drop_length, hl, List.drop_length]
    · simp (maxSteps := 10000000) only [isE_nil, is_cons, bo_p, all_nil', ↓sx, sx, ↓reduceIte, Nat.reduceEqDiff]
    · rintro n ⟨h1, h2⟩
      simp (maxSteps := 10000000) only [↓sx, sx, ↓ty, ↓reduceIte, Nat.reduceEqDiff, wv_c]
      refine vcIf_dec (fun h => ?_) (fun h => ?_)
      · obtain ⟨m, rfl⟩ : ∃ m, n = m + 1 := ⟨n - 1, by omega⟩
        rw [show (((m + 1 : Nat) : Int) - 1) = (m : Int) by omega]
        simp only [Int.toNat_natCast]
        refine ⟨by omega, by omega, by omega, by omega, ?_⟩
        have hx := hA.1.getD m
        have hy := hB.1.getD m
        refine vcIf_b (fun h3 => ?_) (fun h3 => ?_)
        · rw [bne_iff_ne] at h3
          refine ⟨by omega, by omega, by omega, by omega, CallT.mk (cmpu_n hG _ _) ?_⟩
          simp (maxSteps := 10000000) only [↓sx, sx, ↓reduceIte, iP_c]
          have : cmpI (A.getD m 0) (B.getD m 0) = cmpI a b := by
            by_cases h4 : A.getD m 0 < B.getD m 0
            · have := cmp_drop A B hA.1 hB.1 m h2 h4 (by omega) (by omega)
              unfold cmpI
              rw [if_pos (by omega), if_pos (by omega)]
            · have := cmp_drop B A hB.1 hA.1 m h2.symm (by omega) (by omega) (by omega)
              unfold cmpI
              rw [if_neg (by omega), if_pos (by omega), if_neg (by omega), if_pos (by omega)]
          rw [this]
        · have h3 : A.getD m 0 = B.getD m 0 := by simpa using h3
          refine NextK.mk m (by omega) ⟨by omega, ?_⟩ ?_
          · rw [val_drop' A m, val_drop' B m, h2]; omega
          · simp (maxSteps := 10000000) only [isE_nil, is_cons, bo_p, all_nil', ↓sx, sx, ↓reduceIte, Nat.reduceEqDiff, i64_id (x := (m : Int) - 1) (by omega) (by omega)]
      · obtain rfl : n = 0 := by omega
        simp only [List.drop_zero] at h2
        rw [cmpI, if_neg (by omega), if_neg (by omega)]
set_option maxRecDepth 100000 in
set_option maxHeartbeats 8000000 in
theorem nsmall_n (a : Nat) (ha : Lw a < 1000000000) : Meets Tryz.prog G 142 [nP a] (.tup [.val (.int .u64 (if Lw a ≤ 2 then a else 0 : Nat)), .val (.bool (decide (Lw a ≤ 2)))]) := by
  refine meets_of_vc (Y := {}) (N := 26) (rs := [.tmp 2, .tmp 3]) mix tk hG Tryz.func142 rfl (by kernel_rfl) rfl rfl (by simp) (by kernel_rfl) ?_
  unfold Lw at *
  rw [show nP a = .sl (wl a).length ((wl a).map wv) from rfl]
  have hA := wl_norm a
  have hva := wl_val a
  generalize wl a = A at *
  simp (maxSteps := 10000000) only [↓sx, sx, ↓ty, ↓reduceIte, Nat.reduceEqDiff, wv_c]
  refine vcIf_b (fun h0 => ?_) (fun h0 => ?_)
  · have h0 : A.length = 0 := by simp at h0; simpa using h0
    have : A = [] := List.eq_nil_of_length_eq_zero h0
    subst this
    rw [val_nil] at hva
    obtain rfl : a = 0 := by omega
    rfl
  · have h0 : A.length ≠ 0 := by simp at h0; simpa using h0
    refine vcIf_b (fun h1 => ?_) (fun h1 => ?_)
    · have h1 : A.length = 1 := by rw [beq_iff_eq] at h1; omega
      refine ⟨by omega, ?_⟩
      obtain ⟨x, rfl⟩ := List.length_eq_one_iff.1 h1
      have hx := hA.1.head
      simp [val] at hva
      rw [u64_id (by simpa using hx.1) (by simp; omega)]
      simp
      omega
    · have h1 : A.length ≠ 1 := by intro h; rw [h] at h1; simp at h1
      refine vcIf_b (fun h2 => ?_) (fun h2 => ?_)
      · have h2 : A.length = 2 := by rw [beq_iff_eq] at h2; omega
        obtain ⟨x, y, rfl⟩ : ∃ x y, A = [x, y] := by
          match A, h2 with
          | [x, y], _ => exact ⟨x, y, rfl⟩
        have hx := hA.1.head
        have hy := hA.1.tail.head
        simp [val] at hva
        refine ⟨by simp, by simp, ?_⟩
        simp only [List.getD_cons_zero, show Int.toNat 1 = 1 from rfl, List.getD_cons_succ, List.length_cons, List.length_nil]
        refine ⟨⟨by omega, by omega, by omega⟩, by omega, ?_⟩
        rw [u64_id (x := y) (by omega) (by omega), u64_id (x := x) (by omega) (by omega), u64_id (x := 1000000000 * y) (by omega) (by omega), u64_id (x := x + 1000000000 * y) (by omega) (by omega)]
        simp
        omega
      · have h2 : A.length ≠ 2 := by intro h; rw [h] at h2; simp at h2
        rw [if_neg (by omega), decide_eq_false (by omega)]
        rfl
set_option maxRecDepth 100000 in
set_option maxHeartbeats 8000000 in
theorem nof_n (n : Nat) (hn : n < 1000000000000000000) : Meets Tryz.prog G 143 [.val (.int .u64 n)] (nP n) := by
  refine meets_of_vc (Y := {}) (N := 11) (rs := [.tmp 2]) mix tk hG Tryz.func143 rfl (by kernel_rfl) rfl rfl (by simp) (by kernel_rfl) ?_
  simp (maxSteps := 10000000) only [↓sx, sx, ↓ty, ↓reduceIte, Nat.reduceEqDiff, Nat.reduceAdd, Nat.reduceLeDiff, Int.reduceEq, ne_eq, not_false_eq_true]
  have e1 : IntKind.u32.wrap ((n : Int).tmod 1000000000) = (n : Int) % 1000000000 := by rw [tmod_pos (by omega), u32_id (by omega) (by omega)]
  have e2 : IntKind.u32.wrap (IntKind.u64.wrap ((n : Int).tdiv 1000000000)) = (n : Int) / 1000000000 := by rw [tdiv_pos (by omega), u64_id (by omega) (by omega), u32_id (by omega) (by omega)]
  refine CallT.to (ntrim_n hG [(n : Int) % 1000000000, (n : Int) / 1000000000] (by simp) (Dig.cons (by omega) (by omega) (Dig.cons (by omega) (by omega) Dig.nil)) n (by simp [val]; omega)) (by rw [e1, e2]; rfl) ?_
  simp (maxSteps := 10000000) only [↓sx, sx, ↓reduceIte]
end Go.Proofs.YtfbmphbmidlijaaGreatDoor.S
namespace Go.Proofs.YtfbmphbmidlijaaGreatDoor.S
open Go Go.Sx Go.RowKit Gb
variable {G : World → Prop} (hG : ∀ w w', G w → Below w.heap.size w w' → G w')
include hG
set_option maxRecDepth 100000 in
set_option maxHeartbeats 8000000 in
theorem nby_n (a w : Nat) (ha : Lw a < 1000000) (hw0 : 0 < w) (hw1 : w < 1000000000) : Meets Tryz.prog G 166 [nP a, .val (.int .u64 w)] (.tup [nP (a / w), nP (a % w)]) := by
  refine meets_of_vc (Y := {}) (N := 41) (rs := [.tmp 4, .tmp 5]) mix tk hG Tryz.func166 rfl (by kernel_rfl) rfl rfl (by simp) (by kernel_rfl) ?_
  unfold Lw at ha
  rw [show nP a = .sl (wl a).length ((wl a).map wv) from rfl]
  have hA := wl_norm a
  have hva := wl_val a
  generalize wl a = A at *
  simp (maxSteps := 10000000) only [↓sx, sx, ↓ty, ↓reduceIte, Nat.reduceEqDiff]
  have hw : IntKind.i64.wrap ((A.length : Int) - 1) = (A.length : Int) - 1 := i64_id (by omega) (by omega)
  rw [hw]
  refine ⟨by omega, ?_⟩
  refine loopK_of (fun s : List Int × Int × Nat => [(0, .p (.sl A.length (A.map wv))), (1, .p (.val (.int .u64 w))), (6, .orow 11), (7, .p (.val (.int .u64 s.2.1))), (8, .p (.val (.int .i64 ((s.2.2 : Int) - 1))))]) (fun _ => []) (fun s => [(11, ⟨92, 1, s.1.length, s.1.map wv, false⟩)]) (smallInv A w) (fun s => s.2.2) (List.replicate A.length 0, 0, A.length) ?_ ?_ ?_
  · refine ⟨Nat.le_refl _, Dig.replicate _, by simp, fun j _ => Zf.replicate _ 0 j (Nat.zero_le _), Int.le_refl _, by dsimp only; omega, ?_⟩
    simp [val_replicate]
  · simp (maxSteps := 10000000) only [isE_nil, is_cons, bo_p, bo_orow, any_cons', all_cons', all_nil', Bool.true_or, ↓sx, sx, ↓reduceIte, Nat.reduceEqDiff]
    simp [rep_wv]
  · rintro ⟨out, r, n⟩ ⟨h1, h2, h3, h4, h5, h5b, h6⟩
    dsimp only at h1 h2 h3 h4 h5 h5b h6 ⊢
    simp (maxSteps := 10000000) only [↓sx, sx, ↓ty, ↓reduceIte, Nat.reduceEqDiff, Nat.reduceAdd, wv_c]
    refine vcIf_dec (fun h => ?_) (fun h => ?_)
    · obtain ⟨m, rfl⟩ : ∃ m, n = m + 1 := ⟨n - 1, by omega⟩
      rw [show (((m + 1 : Nat) : Int) - 1) = (m : Int) by omega]
      simp only [Int.toNat_natCast]
      have hx := hA.1.getD m
      obtain ⟨s0, s1, s2, s3, s4, s5, s6⟩ := by_step (r := r) (x := A.getD m 0) (w := (w : Int)) ⟨h5, h5b⟩ hx (by omega)
      rw [u64_id (x := A.getD m 0) (by omega) (by omega), u64_id (x := r * 1000000000) (by omega) (by omega), u64_id (x := r * 1000000000 + A.getD m 0) (by omega) (by omega), tdiv_pos s0, tmod_pos s0, u64_id (x := (r * 1000000000 + A.getD m 0) / w) (by omega) (by omega), u32_id (x := (r * 1000000000 + A.getD m 0) / w) (by omega) (by omega)]
      refine ⟨by omega, by omega, by omega, by omega, by omega, by omega, ?_⟩
      refine NextK.mk (out.set m ((r * 1000000000 + A.getD m 0) / w), (r * 1000000000 + A.getD m 0) % w, m) (by dsimp only; omega) ⟨by dsimp only; omega, h2.set _ s2 s3, by simp [h3], (fun j hj => by dsimp only at hj ⊢; rw [Gb.getD_set_ne _ _ _ _ (by omega)]; exact h4 j (by omega)), s4, s5, ?_⟩ ?_
      · dsimp only
        rw [← h6, val_set _ _ _ (by omega), h4 m (by omega), val_take_succ _ _ (by omega), Int.pow_succ]
        generalize A.getD m 0 = x at *
        generalize (r * 1000000000 + x) / (w : Int) = sq at *
        generalize (r * 1000000000 + x) % (w : Int) = sr at *
        grind
      · simp (maxSteps := 10000000) only [isE_nil, is_cons, bo_p, bo_orow, any_cons', all_cons', all_nil', Bool.true_or, ↓sx, sx, ↓reduceIte, Nat.reduceEqDiff]
        rw [set_wv _ _ _ (by omega), i64_id (by omega) (by omega)]
        simp
    · obtain rfl : n = 0 := by omega
      rw [List.take_zero, val_nil, Int.pow_zero] at h6
      have hvo := val_nonneg h2
      have hq : val out = ((a / w : Nat) : Int) := by
        rw [Int.natCast_ediv, ← hva, ← h6, show r * 1 + 0 + (w : Int) * val out = r + w * val out by omega, Int.add_mul_ediv_left _ _ (by omega), Int.ediv_eq_zero_of_lt h5 h5b]; omega
      have hr : r = ((a % w : Nat) : Int) := by
        rw [Int.natCast_emod, ← hva, ← h6, show r * 1 + 0 + (w : Int) * val out = r + w * val out by omega, Int.add_mul_emod_self_left, Int.emod_eq_of_lt h5 h5b]
      have hrl : a % w < w := Nat.mod_lt _ hw0
      refine CallT.mk (ntrim_n hG out (by omega) h2 (a / w) hq) ?_
      simp (maxSteps := 10000000) only [↓sx, sx, ↓reduceIte, Nat.reduceEqDiff, nP_c]
      refine CallT.to (nof_n hG (a % w) (by omega)) (by rw [hr]) ?_
      simp (maxSteps := 10000000) only [↓sx, sx, ↓reduceIte, Nat.reduceEqDiff, nP_c]
set_option maxRecDepth 100000 in
set_option maxHeartbeats 8000000 in
theorem ntimes_n (a b : Nat) (ha : Lw a < 1000000) (hb : Lw b < 1000000) : Meets Tryz.prog G 100 [nP a, nP b] (nP (a * b)) := by
  refine meets_of_vc (Y := {}) (N := 68) (rs := [.tmp 4]) mix tk hG Tryz.func100 rfl (by kernel_rfl) rfl rfl (by simp) (by kernel_rfl) ?_
  unfold Lw at ha hb
  rw [show nP a = .sl (wl a).length ((wl a).map wv) from rfl, show nP b = .sl (wl b).length ((wl b).map wv) from rfl]
  have hA := wl_norm a
  have hB := wl_norm b
  have hva := wl_val a
  have hvb := wl_val b
  generalize wl a = A at *
  generalize wl b = B at *
  simp (maxSteps := 10000000) only [↓sx, sx, ↓ty, ↓reduceIte, Nat.reduceEqDiff]
  have hw : IntKind.i64.wrap ((A.length : Int) + (B.length : Int)) = ((A.length + B.length : Nat) : Int) := by rw [i64_id] <;> omega
  rw [hw]
  refine ⟨by omega, ?_⟩
  refine loopK_of (fun s : List Int × Nat => [(1, .p (.sl B.length (B.map wv))), (5, .orow 16), (17, .p (.sl A.length (A.map wv))), (18, .p (.val (.int .i64 (A.length : Nat)))), (19, .p (.val (.int .i64 (s.2 : Nat))))]) (fun _ => []) (fun s => [(16, ⟨92, 1, s.1.length, s.1.map wv, false⟩)]) (timesInv A B) (fun s => A.length - s.2) (List.replicate (A.length + B.length) 0, 0) ?_ ?_ ?_
  · refine ⟨Dig.replicate _, by simp, Zf.replicate _ _, Nat.zero_le _, ?_⟩
    simp [val_replicate]
  · simp (maxSteps := 10000000) only [isE_nil, is_cons, bo_p, bo_orow, any_cons', all_cons', all_nil', Bool.true_or, ↓sx, sx, ↓reduceIte, Nat.reduceEqDiff]
    simp [rep_wv, hw]
  · rintro ⟨out, i⟩ ⟨h2, h3, h4, h5, h6⟩
    dsimp only at h2 h3 h4 h5 h6 ⊢
    simp (maxSteps := 10000000) only [↓sx, sx, ↓ty, ↓reduceIte, Nat.reduceEqDiff, wv_c]
    refine vcIf_dec (fun hi => ?_) (fun hi => ?_)
    · refine ⟨by omega, by omega, ?_⟩
      refine loopK_of (fun s : List Int × Int × Nat => [(1, .p (.sl B.length (B.map wv))), (5, .orow 16), (6, .p (.val (.int .i64 (i : Nat)))), (7, .p (.val (.int .u32 (A.getD i 0)))), (8, .p (.val (.int .u64 s.2.1))), (17, .p (.sl A.length (A.map wv))), (18, .p (.val (.int .i64 (A.length : Nat)))), (19, .p (.val (.int .i64 (i : Nat)))), (24, .p (.sl B.length (B.map wv))), (25, .p (.val (.int .i64 (B.length : Nat)))), (26, .p (.val (.int .i64 (s.2.2 : Nat))))]) (fun _ => []) (fun s => [(16, ⟨92, 1, s.1.length, s.1.map wv, false⟩)]) (timesInv2 A B i) (fun s => B.length - s.2.2) (out, 0, 0) ?_ ?_ ?_
      · refine ⟨h2, h3, h4, Int.le_refl _, by dsimp only; omega, Nat.zero_le _, ?_⟩
        dsimp only
        rw [← h6, val_drop' A i, List.drop_zero, Int.pow_succ]
        simp only [Nat.add_zero]
        generalize val (A.drop (i + 1)) = p
        grind
      · simp (maxSteps := 10000000) only [isE_nil, is_cons, bo_p, bo_orow, any_cons', all_cons', all_nil', Bool.true_or, ↓sx, sx, ↓reduceIte, Nat.reduceEqDiff]
        rfl
      · rintro ⟨o, c, j⟩ ⟨g1, g2, g3, g4, g4b, g5, g6⟩
        dsimp only at g1 g2 g3 g4 g4b g5 g6 ⊢
        simp (maxSteps := 10000000) only [↓sx, sx, ↓ty, ↓reduceIte, Nat.reduceEqDiff, Nat.reduceAdd, Int.reduceEq, wv_c]
        refine vcIf_dec (fun hj => ?_) (fun hj => ?_)
        · have hx := hA.1.getD i
          have hy := hB.1.getD j
          have ho := g1.getD (i + j)
          have hs := mul_step ho hx hy ⟨g4, g4b⟩
          have e1 : IntKind.i64.wrap ((i : Int) + (j : Int)) = ((i + j : Nat) : Int) := by rw [i64_id] <;> omega
          rw [e1]
          simp only [Int.toNat_natCast]
          rw [u64_id (x := A.getD i 0) (by omega) (by omega), u64_id (x := B.getD j 0) (by omega) (by omega), u64_id (x := A.getD i 0 * B.getD j 0) (by omega) (by omega), u64_id (x := o.getD (i + j) 0) (by omega) (by omega), u64_id (x := A.getD i 0 * B.getD j 0 + o.getD (i + j) 0) (by omega) (by omega), u64_id (x := c + (A.getD i 0 * B.getD j 0 + o.getD (i + j) 0)) (by omega) (by omega)]
          generalize hs' : c + (A.getD i 0 * B.getD j 0 + o.getD (i + j) 0) = s at *
          have hs0 : 0 ≤ s ∧ s < 1000000000000000000 := by omega
          rw [tmod_pos hs0.1, tdiv_pos hs0.1, u32_id (x := s % 1000000000) (by omega) (by omega), u64_id (x := s / 1000000000) (by omega) (by omega)]
          refine ⟨by omega, by omega, by omega, by omega, by omega, by omega, ?_⟩
          refine NextK.mk (o.set (i + j) (s % 1000000000), s / 1000000000, j + 1) (by dsimp only; omega) ⟨g1.set _ (by omega) (by omega), by simp [g2], g3.set _ _ (by omega), by dsimp only; omega, by dsimp only; omega, by dsimp only; omega, ?_⟩ ?_
          · dsimp only
            rw [val_set _ _ _ (by omega), ← g6, val_drop B j (by omega), ← Nat.add_assoc, Int.pow_succ]
            have : s = 1000000000 * (s / 1000000000) + s % 1000000000 := by omega
            generalize s / 1000000000 = q at *
            generalize s % 1000000000 = t at *
            subst this
            generalize val (A.drop (i + 1)) = p1 at *
            generalize val (B.drop (j + 1)) = p2 at *
            grind
          · simp (maxSteps := 10000000) only [isE_nil, is_cons, bo_p, bo_orow, any_cons', all_cons', all_nil', Bool.true_or, ↓sx, sx, ↓reduceIte, Nat.reduceEqDiff]
            rw [set_wv _ _ _ (by omega), i64_id (by omega) (by omega)]
            simp
        · obtain rfl : j = B.length := by omega
          have e1 : IntKind.i64.wrap ((i : Int) + (B.length : Int)) = ((i + B.length : Nat) : Int) := by rw [i64_id] <;> omega
          rw [e1]
          simp only [Int.toNat_natCast]
          rw [u32_id (x := c) (by omega) (by omega)]
          refine ⟨by omega, by omega, ?_⟩
          have hz := g3 (i + B.length) (Nat.le_refl _)
          refine NextK.mk (o.set (i + B.length) c, i + 1) (by dsimp only; omega) ⟨g1.set _ g4 g4b, by simp [g2], (Zf.mono g3 (by omega)).set _ _ (by dsimp only; omega), by dsimp only; omega, ?_⟩ ?_
          · dsimp only
            rw [val_set _ _ _ (by omega), ← g6, hz, List.drop_length, val_nil]
            grind
          · simp (maxSteps := 10000000) only [isE_nil, is_cons, bo_p, bo_orow, any_cons', all_cons', all_nil', Bool.true_or, ↓sx, sx, ↓reduceIte, Nat.reduceEqDiff]
            rw [set_wv _ _ _ (by omega), i64_id (by omega) (by omega)]
            simp
    · obtain rfl : i = A.length := by omega
      rw [List.drop_length, val_nil] at h6
      refine CallT.mk (ntrim_n hG out (by omega) h2 (a * b) (by rw [Int.natCast_mul]; grind)) ?_
      simp (maxSteps := 10000000) only [↓sx, sx, ↓reduceIte]
end Go.Proofs.YtfbmphbmidlijaaGreatDoor.S
namespace Gb
theorem tdm {t : Int} (h0 : -1000000000 ≤ t) (h1 : t < 2000000000) : (0 ≤ t ∧ t.tmod 1000000000 = t % 1000000000 ∧ t.tdiv 1000000000 = t / 1000000000) ∨ (t = -1000000000 ∧ t.tmod 1000000000 = 0 ∧ t.tdiv 1000000000 = -1) ∨ (-1000000000 < t ∧ t < 0 ∧ t.tmod 1000000000 = t ∧ t.tdiv 1000000000 = 0) := by
  by_cases h : 0 ≤ t
  · exact .inl ⟨h, tmod_pos h, tdiv_pos h⟩
  · right
    obtain ⟨s, rfl⟩ : ∃ s : Int, t = -s := ⟨-t, by omega⟩
    rw [Int.neg_tmod, Int.neg_tdiv, tmod_pos (by omega), tdiv_pos (by omega)]
    by_cases h2 : s = 1000000000
    · left; subst h2; omega
    · right; omega
theorem eq_dg {l : List Int} {k n : Nat} (hd : Dig l) (hl : l.length = k) (hn : n < 1000000000 ^ k) (hv : val l = n) : l = dg k n := by
  obtain ⟨h1, h2, h3⟩ := dg_spec k n
  exact Dig.inj hd h1 (by rw [hl, h2]) (by rw [hv, h3 hn])
def mres (m v : Nat) : List Int := if v < 1000000000 ^ m then dg m v else dg (m + 1) v
theorem mres_wl {a b : Nat} : mres (max (Lw a) (Lw b)) (a + b) = wl (a + b) := by
  unfold mres
  have hLa := lt_Lw a
  have hLb := lt_Lw b
  have e1 : 1000000000 ^ Lw a ≤ 1000000000 ^ max (Lw a) (Lw b) := Nat.pow_le_pow_right (by omega) (by omega)
  have e2 : 1000000000 ^ Lw b ≤ 1000000000 ^ max (Lw a) (Lw b) := Nat.pow_le_pow_right (by omega) (by omega)
  have e3 := Nat.pow_succ 1000000000 (max (Lw a) (Lw b))
  have hm : max (Lw a) (Lw b) ≤ Lw (a + b) := by
    have := Lw_mono (Nat.le_add_right a b)
    have := Lw_mono (Nat.le_add_left b a)
    omega
  split
  · rename_i h
    have := Lw_le h
    exact (eq_dg (wl_dig _) (by show Lw (a + b) = _; omega) h (wl_val _)).symm
  · rename_i h
    have hlt : a + b < 1000000000 ^ (max (Lw a) (Lw b) + 1) := by omega
    have h3 := Lw_le hlt
    have h4 := lt_Lw (a + b)
    have : Lw (a + b) ≠ max (Lw a) (Lw b) := by intro he; rw [he] at h4; exact h h4
    exact (eq_dg (wl_dig _) (by show Lw (a + b) = _; omega) hlt (wl_val _)).symm
theorem mres_dig (m v : Nat) : Dig (mres m v) := by unfold mres; split <;> exact (dg_spec _ _).1
theorem mres_len (m v : Nat) : (mres m v).length ≤ m + 1 := by unfold mres; split <;> rw [(dg_spec _ _).2.1] <;> omega
theorem mres_val {m v : Nat} (h : v < 1000000000 ^ m) : val (mres m v) = v := by unfold mres; rw [if_pos h, (dg_spec _ _).2.2 h]
end Gb
namespace Go.Proofs.YtfbmphbmidlijaaGreatDoor.S
open Go Go.Sx Go.RowKit Gb
variable {G : World → Prop} (hG : ∀ w w', G w → Below w.heap.size w w' → G w')
include hG
def mergeInv (A B : List Int) (s v : Int) (x : List Int × Int × Nat) : Prop :=
  x.1.length = x.2.2 ∧ Dig x.1 ∧ (s = 1 → 0 ≤ x.2.1 ∧ x.2.1 ≤ 1) ∧ (s = -1 → -1 ≤ x.2.1 ∧ x.2.1 ≤ 0) ∧ x.2.2 ≤ max A.length B.length ∧ val x.1 + 1000000000 ^ x.2.2 * (val (A.drop x.2.2) + s * val (B.drop x.2.2) + x.2.1) = v
set_option maxRecDepth 100000 in
set_option maxHeartbeats 8000000 in
theorem nmerge_n (a b v : Nat) (s : Int) (ha : Lw a < 1000000) (hb : Lw b < 1000000) (hs : s = 1 ∨ s = -1) (hv : (v : Int) = a + s * b) : Meets Tryz.prog G 164 [nP a, nP b, .val (.int .i64 s)] (wsP (mres (max (Lw a) (Lw b)) v)) := by
  refine meets_of_vc (Y := {}) (N := 71) (rs := [.tmp 6]) mix tk hG Tryz.func164 rfl (by kernel_rfl) rfl rfl (by simp) (by kernel_rfl) ?_
  unfold Lw at *
  rw [show nP a = .sl (wl a).length ((wl a).map wv) from rfl, show nP b = .sl (wl b).length ((wl b).map wv) from rfl]
  have hA := wl_norm a
  have hB := wl_norm b
  have hva := wl_val a
  have hvb := wl_val b
  generalize wl a = A at *
  generalize wl b = B at *
  simp (maxSteps := 10000000) only [↓sx, sx, ↓ty, ↓reduceIte, Nat.reduceEqDiff, wsP_c]
  obtain ⟨M, hM⟩ : ∃ M : Nat, M = max A.length B.length := ⟨_, rfl⟩
  have hmx : (if (B.length : Int) > (A.length : Int) then (B.length : Int) else (A.length : Int)) = (M : Int) := by split <;> omega
  rw [hmx, i64_id (x := (A.length : Int) + 1) (by omega) (by omega), ← hM]
  refine ⟨by omega, ?_⟩
  refine loopK_of (fun x : List Int × Int × Nat => [(0, .p (.sl A.length (A.map wv))), (1, .p (.sl B.length (B.map wv))), (2, .p (.val (.int .i64 s))), (7, .orow 14), (8, .p (.val (.int .i64 x.2.1))), (19, .p (.val (.int .i64 (M : Nat)))), (20, .p (.val (.int .i64 (x.2.2 : Nat))))]) (fun _ => []) (fun x => [(14, ⟨92, 1, x.1.length, x.1.map wv, false⟩)]) (mergeInv A B s v) (fun x => M - x.2.2) ([], 0, 0) ?_ ?_ ?_
  · refine ⟨rfl, Dig.nil, fun _ => by dsimp only; omega, fun _ => by dsimp only; omega, Nat.zero_le _, ?_⟩
    simp [val_nil, hva, hvb, hv]
  · simp (maxSteps := 10000000) only [isE_nil, is_cons, bo_p, bo_orow, any_cons', all_cons', all_nil', Bool.true_or, ↓sx, sx, ↓reduceIte, Nat.reduceEqDiff]
    simp [rep]
  · rintro ⟨out, c, i⟩ ⟨h1, h2, h3, h4, h5, h6⟩
    dsimp only at h1 h2 h3 h4 h5 h6 ⊢
    simp (maxSteps := 10000000) only [↓sx, sx, ↓ty, ↓reduceIte, Nat.reduceEqDiff, Nat.reduceAdd, Nat.reduceLeDiff, Nat.reduceLT, Int.reduceEq, ne_eq, not_false_eq_true, wv_c]
    have hx : 0 ≤ A.getD i 0 ∧ A.getD i 0 < 1000000000 := hA.1.getD i
    have hy : 0 ≤ B.getD i 0 ∧ B.getD i 0 < 1000000000 := hB.1.getD i
    refine vcIf_dec (fun hi => ?_) (fun hi => ?_)
    · have fin : ∀ {e : Env} {h : Hp} {ρ : Rws} {t : Tag (mergeInv A B s v, (fun x : List Int × Int × Nat => M - x.2.2), e, h, ρ)} (w' c' : Int), c + A.getD i 0 + s * B.getD i 0 = w' + 1000000000 * c' → 0 ≤ w' → w' < 1000000000 →
        e 0 = .p (.sl A.length (A.map wv)) → e 1 = .p (.sl B.length (B.map wv)) → e 2 = .p (.val (.int .i64 s)) → e 7 = .orow 14 → e 8 = .p (.val (.int .i64 c')) → e 19 = .p (.val (.int .i64 (M : Nat))) → e 20 = .p (.val (.int .i64 (IntKind.i64.wrap ((i : Int) + 1)))) → ρ 14 = some ⟨92, 1, out.length + 1, out.map wv ++ [.val (.int .u32 (IntKind.u32.wrap w'))], false⟩ →
        (out.length + 1 ≤ maxLen ∧ (out.length + 1) * 4 ≤ 140737488355328) ∧ NextK (fun x : List Int × Int × Nat => [(0, .p (.sl A.length (A.map wv))), (1, .p (.sl B.length (B.map wv))), (2, .p (.val (.int .i64 s))), (7, .orow 14), (8, .p (.val (.int .i64 x.2.1))), (19, .p (.val (.int .i64 (M : Nat)))), (20, .p (.val (.int .i64 (x.2.2 : Nat))))]) (fun _ => []) (fun x => [(14, ⟨92, 1, x.1.length, x.1.map wv, false⟩)]) (mergeInv A B s v) (fun x => M - x.2.2) (out, c, i) e h ρ t := by
        intro e h ρ t w' c' hw h0 h1' e0 e1 e2 e7 e8 e19 e20 r14
        rw [u32_id h0 (by omega)] at r14
        rw [i64_id (by omega) (by omega)] at e20
        refine ⟨⟨by simp only [maxLen]; omega, by omega⟩, NextK.mk (out ++ [w'], c', i + 1) (by dsimp only; omega) ?_ ?_⟩
        · refine ⟨by simp [h1], h2.snoc h0 h1', fun hs1 => ?_, fun hs1 => ?_, by dsimp only; omega, ?_⟩
          · have := h3 hs1; subst hs1; dsimp only; omega
          · have := h4 hs1; subst hs1; dsimp only; omega
          · dsimp only
            rw [val_snoc, h1, ← h6, val_drop' A i, val_drop' B i, Int.pow_succ]
            generalize val (A.drop (i + 1)) = p1 at *
            generalize val (B.drop (i + 1)) = p2 at *
            generalize A.getD i 0 = x at *
            generalize B.getD i 0 = y at *
            have : w' = c + x + s * y - 1000000000 * c' := by omega
            subst this
            grind
        · simp (maxSteps := 10000000) only [isE_nil, is_cons, bo_p, bo_orow, any_cons', all_cons', all_nil', Bool.true_or, ↓sx, sx, e0, e1, e2, e7, e8, e19, e20, r14]
          simp [wv_c]
      have hys : -1000000000 < s * B.getD i 0 ∧ s * B.getD i 0 < 1000000000 := by rcases hs with rfl | rfl <;> omega
      have hc : -1 ≤ c ∧ c ≤ 1 := by
        rcases hs with rfl | rfl
        · have := h3 rfl; omega
        · have := h4 rfl; omega
      have ht : -1000000000 ≤ c + A.getD i 0 + s * B.getD i 0 ∧ c + A.getD i 0 + s * B.getD i 0 < 2000000000 := by
        rcases hs with rfl | rfl
        · have := h3 rfl; omega
        · have := h4 rfl; omega
      have rest : ∀ t : Int, t = c + A.getD i 0 + s * B.getD i 0 → (0 ≤ t ∧ t.tmod 1000000000 = t % 1000000000 ∧ t.tdiv 1000000000 = t / 1000000000) ∨ (t = -1000000000 ∧ t.tmod 1000000000 = 0 ∧ t.tdiv 1000000000 = -1) ∨ (-1000000000 < t ∧ t < 0 ∧ t.tmod 1000000000 = t ∧ t.tdiv 1000000000 = 0) := fun t h => tdm (by omega) (by omega)
      refine vcIf_dec (fun ha2 => ?_) (fun ha2 => ?_)
      · refine ⟨by omega, by omega, ?_⟩
        rw [i64_id (x := A.getD i 0) (by omega) (by omega), i64_id (x := c + A.getD i 0) (by omega) (by omega)]
        refine vcIf_dec (fun hb2 => ?_) (fun hb2 => ?_)
        · refine ⟨by omega, by omega, ?_⟩
          rw [i64_id (x := B.getD i 0) (by omega) (by omega), i64_id (x := s * B.getD i 0) (by omega) (by omega), i64_id (x := c + A.getD i 0 + s * B.getD i 0) (by omega) (by omega)]
          generalize htt : c + A.getD i 0 + s * B.getD i 0 = t at *
          refine vcIf_dec (fun hn => ?_) (fun hn => ?_)
          · rcases rest t rfl with ⟨q1, q2, q3⟩ | ⟨q1, q2, q3⟩ | ⟨q1, q1b, q2, q3⟩
            · omega
            · omega
            · rw [q2, q3, i64_id (x := t + 1000000000) (by omega) (by omega), i64_id (x := 0) (by omega) (by omega), i64_id (x := (0 : Int) - 1) (by omega) (by omega)]
              refine fin (t + 1000000000) (0 - 1) (by omega) (by omega) (by omega) ?_ ?_ ?_ ?_ ?_ ?_ ?_ ?_
              all_goals (simp (maxSteps := 10000000) only [↓sx, sx, ↓reduceIte, Nat.reduceEqDiff]; done)
          · rcases rest t rfl with ⟨q1, q2, q3⟩ | ⟨q1, q2, q3⟩ | ⟨q1, q1b, q2, q3⟩
            · rw [q2, q3, i64_id (x := t / 1000000000) (by omega) (by omega)]
              refine fin (t % 1000000000) (t / 1000000000) (by omega) (by omega) (by omega) ?_ ?_ ?_ ?_ ?_ ?_ ?_ ?_
              all_goals (simp (maxSteps := 10000000) only [↓sx, sx, ↓reduceIte, Nat.reduceEqDiff]; done)
            · rw [q2, q3, i64_id (x := -1) (by omega) (by omega)]
              refine fin 0 (-1) (by omega) (by omega) (by omega) ?_ ?_ ?_ ?_ ?_ ?_ ?_ ?_
              all_goals (simp (maxSteps := 10000000) only [↓sx, sx, ↓reduceIte, Nat.reduceEqDiff]; done)
            · omega
        · have h8 : B.getD i 0 = 0 := getD_out (by omega)
          rw [h8, Int.mul_zero, Int.add_zero] at rest fin
          generalize htt : c + A.getD i 0 = t at *
          refine vcIf_dec (fun hn => ?_) (fun hn => ?_)
          · rcases rest t rfl with ⟨q1, q2, q3⟩ | ⟨q1, q2, q3⟩ | ⟨q1, q1b, q2, q3⟩
            · omega
            · omega
            · rw [q2, q3, i64_id (x := t + 1000000000) (by omega) (by omega), i64_id (x := 0) (by omega) (by omega), i64_id (x := (0 : Int) - 1) (by omega) (by omega)]
              refine fin (t + 1000000000) (0 - 1) (by omega) (by omega) (by omega) ?_ ?_ ?_ ?_ ?_ ?_ ?_ ?_
              all_goals (simp (maxSteps := 10000000) only [↓sx, sx, ↓reduceIte, Nat.reduceEqDiff]; done)
          · rcases rest t rfl with ⟨q1, q2, q3⟩ | ⟨q1, q2, q3⟩ | ⟨q1, q1b, q2, q3⟩
            · rw [q2, q3, i64_id (x := t / 1000000000) (by omega) (by omega)]
              refine fin (t % 1000000000) (t / 1000000000) (by omega) (by omega) (by omega) ?_ ?_ ?_ ?_ ?_ ?_ ?_ ?_
              all_goals (simp (maxSteps := 10000000) only [↓sx, sx, ↓reduceIte, Nat.reduceEqDiff]; done)
            · rw [q2, q3, i64_id (x := -1) (by omega) (by omega)]
              refine fin 0 (-1) (by omega) (by omega) (by omega) ?_ ?_ ?_ ?_ ?_ ?_ ?_ ?_
              all_goals (simp (maxSteps := 10000000) only [↓sx, sx, ↓reduceIte, Nat.reduceEqDiff]; done)
            · omega
      · have h7 : A.getD i 0 = 0 := getD_out (by omega)
        rw [h7, Int.add_zero] at rest fin ht
        refine vcIf_dec (fun hb2 => ?_) (fun hb2 => ?_)
        · refine ⟨by omega, by omega, ?_⟩
          rw [i64_id (x := B.getD i 0) (by omega) (by omega), i64_id (x := s * B.getD i 0) (by omega) (by omega), i64_id (x := c + s * B.getD i 0) (by omega) (by omega)]
          generalize htt : c + s * B.getD i 0 = t at *
          refine vcIf_dec (fun hn => ?_) (fun hn => ?_)
          · rcases rest t rfl with ⟨q1, q2, q3⟩ | ⟨q1, q2, q3⟩ | ⟨q1, q1b, q2, q3⟩
            · omega
            · omega
            · rw [q2, q3, i64_id (x := t + 1000000000) (by omega) (by omega), i64_id (x := 0) (by omega) (by omega), i64_id (x := (0 : Int) - 1) (by omega) (by omega)]
              refine fin (t + 1000000000) (0 - 1) (by omega) (by omega) (by omega) ?_ ?_ ?_ ?_ ?_ ?_ ?_ ?_
              all_goals (simp (maxSteps := 10000000) only [↓sx, sx, ↓reduceIte, Nat.reduceEqDiff]; done)
          · rcases rest t rfl with ⟨q1, q2, q3⟩ | ⟨q1, q2, q3⟩ | ⟨q1, q1b, q2, q3⟩
            · rw [q2, q3, i64_id (x := t / 1000000000) (by omega) (by omega)]
              refine fin (t % 1000000000) (t / 1000000000) (by omega) (by omega) (by omega) ?_ ?_ ?_ ?_ ?_ ?_ ?_ ?_
              all_goals (simp (maxSteps := 10000000) only [↓sx, sx, ↓reduceIte, Nat.reduceEqDiff]; done)
            · rw [q2, q3, i64_id (x := -1) (by omega) (by omega)]
              refine fin 0 (-1) (by omega) (by omega) (by omega) ?_ ?_ ?_ ?_ ?_ ?_ ?_ ?_
              all_goals (simp (maxSteps := 10000000) only [↓sx, sx, ↓reduceIte, Nat.reduceEqDiff]; done)
            · omega
        · omega
    · obtain rfl : i = M := by omega
      rw [List.drop_eq_nil_of_le (show A.length ≤ i by omega), List.drop_eq_nil_of_le (show B.length ≤ i by omega)] at h6
      simp only [val_nil, Int.mul_zero, Int.add_zero, Int.zero_add] at h6
      have hvl := val_bounds h2
      rw [h1, ← cast_pow] at hvl
      rw [← cast_pow] at h6
      have hc : -1 ≤ c ∧ c ≤ 1 := by
        rcases hs with rfl | rfl
        · have := h3 rfl; omega
        · have := h4 rfl; omega
      have hP : 0 < 1000000000 ^ i := Nat.pow_pos (by omega)
      generalize hPg : (1000000000 ^ i : Nat) = P at *
      have hc0 : 0 ≤ c := by
        apply Classical.byContradiction
        intro hn
        obtain rfl : c = -1 := by omega
        omega
      refine vcIf_dec (fun h => ?_) (fun h => ?_)
      · obtain rfl : c = 1 := by omega
        rw [u32_id (by omega) (by omega)]
        refine ⟨⟨by simp only [maxLen]; omega, by omega⟩, ?_⟩
        have : out ++ [1] = mres i v := by
          unfold mres
          rw [hPg, if_neg (by omega)]
          refine eq_dg (h2.snoc (by omega) (by omega)) (by simp [h1]) (by rw [Nat.pow_succ, hPg]; omega) ?_
          rw [val_snoc, h1, ← cast_pow, hPg]
          omega
        rw [← this]
        simp [wv_c]
      · obtain rfl : c = 0 := by omega
        have : out = mres i v := by
          unfold mres
          rw [hPg, if_pos (by omega)]
          exact eq_dg h2 h1 (by rw [hPg]; omega) (by omega)
        rw [← this]
set_option maxRecDepth 100000 in
theorem nplus_n (a b : Nat) (ha : Lw a < 1000000) (hb : Lw b < 1000000) : Meets Tryz.prog G 122 [nP a, nP b] (nP (a + b)) := by
  refine meets_of_vc (Y := {}) (N := 8) (rs := [.tmp 4]) mix tk hG Tryz.func122 rfl (by kernel_rfl) rfl rfl (by simp) (by kernel_rfl) ?_
  simp (maxSteps := 10000000) only [↓sx, sx, ↓ty, ↓reduceIte, Nat.reduceEqDiff, nP_c]
  refine CallT.mk (nmerge_n hG a b (a + b) 1 ha hb (.inl rfl) (by omega)) ?_
  rw [mres_wl]
  simp (maxSteps := 10000000) only [↓sx, sx, wsP_c]
set_option maxRecDepth 100000 in
theorem nminus_n (a b : Nat) (ha : Lw a < 1000000) (hb : Lw b < 1000000) (hle : b ≤ a) : Meets Tryz.prog G 213 [nP a, nP b] (nP (a - b)) := by
  refine meets_of_vc (Y := {}) (N := 9) (rs := [.tmp 4]) mix tk hG Tryz.func213 rfl (by kernel_rfl) rfl rfl (by simp) (by kernel_rfl) ?_
  simp (maxSteps := 10000000) only [↓sx, sx, ↓ty, ↓reduceIte, Nat.reduceEqDiff, nP_c]
  refine CallT.mk (nmerge_n hG a b (a - b) (-1) ha hb (.inr rfl) (by omega)) ?_
  simp (maxSteps := 10000000) only [↓sx, sx, ↓reduceIte, wsP_c]
  have hlt : a - b < 1000000000 ^ max (Lw a) (Lw b) := Nat.lt_of_le_of_lt (Nat.sub_le a b) (Nat.lt_of_lt_of_le (lt_Lw a) (Nat.pow_le_pow_right (by omega) (by omega)))
  refine CallT.mk (ntrim_n hG _ (by have := mres_len (max (Lw a) (Lw b)) (a - b); omega) (mres_dig _ _) (a - b) (mres_val hlt)) ?_
  simp (maxSteps := 10000000) only [↓sx, sx, nP_c]
end Go.Proofs.YtfbmphbmidlijaaGreatDoor.S
namespace Go.Proofs.YtfbmphbmidlijaaGreatDoor.S
open Go Go.RowKit
def slLen : Value → Nat | .slice _ n _ => n | _ => 0
set_option maxRecDepth 100000 in
set_option maxHeartbeats 4000000 in
theorem trim_calls (a : Option Addr) (n c : Nat) (z : Nat → Int) (hn : n < 1000000000000) (hnc : n ≤ c) (w : World) (hc : ∀ j, j < n → ∃ ad, a = some ad ∧ w.cell? (ad.add j) = some (.int .u32 (z j))) :
    Calls Tryz.prog 148 #[.slice a n c] w fun e w' => w' = w ∧ ∃ m, m ≤ n ∧ e = .returned (.slice a m c) ∧ (∀ j, m ≤ j → j < n → z j = 0) ∧ (m = 0 ∨ z (m - 1) ≠ 0) := by
  go_enter Tryz.func148, Tryz.ntmps148
  go_wp2
  go_loop [0] (fun v => ∃ m : Nat, m ≤ n ∧ v = .slice a m c ∧ ∀ j, m ≤ j → j < n → z j = 0) (fun v => slLen v)
  case atStart => exact ⟨n, Nat.le_refl _, rfl, fun j h1 h2 => by omega⟩
  case round =>
    obtain ⟨m, hm, rfl, hz⟩ := hrel
    cases m with
    | zero =>
      go_wp2
      go_ret
      exact ⟨rfl, 0, Nat.zero_le _, rfl, fun j _ h => hz j (Nat.zero_le _) h, .inl rfl⟩
    | succ m =>
      obtain ⟨ad, rfl, hcm⟩ := hc m (by omega)
      go_wp2
      · refine ⟨⟨m, by omega, rfl, fun j h1 h2 => ?_⟩, by simp [slLen]⟩
        by_cases hj : j = m
        · subst hj
          rename_i hb
          simpa using hb
        · exact hz j (by omega) h2
      · go_ret
        rename_i hb _
        exact ⟨rfl, m + 1, hm, rfl, hz, .inr (by simpa using hb)⟩
end Go.Proofs.YtfbmphbmidlijaaGreatDoor.S
namespace Gb
theorem trim_take {l : List Int} (hd : Dig l) {n m : Nat} (hv : val l = n) (hm : m ≤ l.length) (hz : ∀ j, m ≤ j → j < l.length → l.getD j 0 = 0) (hne : m = 0 ∨ l.getD (m - 1) 0 ≠ 0) : l.take m = wl n := by
  have hdrop : val (l.drop m) = 0 := by
    have : l.drop m = List.replicate (l.length - m) 0 := by
      apply List.ext_getElem
      · simp
      · intro i h1 h2
        rw [List.length_drop] at h1
        have := hz (m + i) (by omega) (by omega)
        rw [List.getD_eq_getElem?_getD, List.getElem?_eq_getElem (by omega)] at this
        simpa using this
    rw [this, val_replicate]
  refine eq_wl ⟨hd.take m, fun hne2 => ?_⟩ ?_
  · have hl : (l.take m).length = m := by rw [List.length_take]; omega
    rw [hl]
    have hm0 : m ≠ 0 := by intro h; subst h; simp at hne2
    rcases hne with h | h
    · exact absurd h hm0
    · rw [List.getD_eq_getElem?_getD, List.getElem?_take_of_lt (by omega), ← List.getD_eq_getElem?_getD]; exact h
  · have := val_take_drop l m hm
    rw [hdrop, hv] at this
    omega
end Gb
namespace Go.Proofs.YtfbmphbmidlijaaGreatDoor.S
open Go Go.Sx Go.RowKit Gb
variable {G : World → Prop} (hG : ∀ w w', G w → Below w.heap.size w w' → G w')
include hG
set_option maxRecDepth 100000 in
theorem ntrim_t (l : List Int) (hl : l.length < 1000000000000) (hd : Dig l) (n : Nat) (hv : val l = n) : MeetsT Tryz.prog G 148 ⟨92, 1, l.length, l.map wv, false⟩ ⟨92, 1, (wl n).length, (wl n).map wv, false⟩ := by
  refine ⟨(ntrim_c hG l hl).ent, ?_⟩
  intro B v us w hB hown hrep hgr
  have hlen : us.length = l.length := by have := hrep.length; simpa using this
  have hus : ∀ j, j < l.length → us[j]? = some (.int .u32 (l.getD j 0)) := by
    intro j hj
    obtain ⟨x, h1, h2⟩ := hrep.get j (wv (l.getD j 0)) (by rw [List.getElem?_map, List.getElem?_eq_getElem hj, List.getD_eq_getElem?_getD, List.getElem?_eq_getElem hj]; rfl)
    rw [wv_c] at h2
    simp only [RepP] at h2
    rw [h1, h2]
  rcases hown.2 with ⟨hv0, hn0⟩ | ⟨g, cap, cur, hv0, hb, hg, h3, h4, h5, h6⟩
  · have hl0 : l = [] := List.eq_nil_of_length_eq_zero hn0
    subst hl0
    have hn : n = 0 := by rw [val_nil] at hv; omega
    subst hn
    have := trim_calls none 0 0 (fun _ => 0) (by omega) (Nat.le_refl _) w (fun j hj => by omega)
    rw [hv0]
    refine this.mono ?_
    rintro en w' ⟨rfl, m, hm, rfl, _, _⟩
    obtain rfl : m = 0 := by omega
    refine ⟨_, [], rfl, grownBy_refl _ _, ?_, ?_, rfl⟩
    · rw [wl_zero]; exact World.ownsRow_nil _ 0 _ _
    · rw [wl_zero]; simp [RepL]
  · have := trim_calls (some ⟨g, 0, none⟩) l.length cap (fun j => l.getD j 0) hl h3 w (fun j hj => ⟨_, rfl, ?_⟩)
    · rw [hv0]
      refine this.mono ?_
      rintro en w' ⟨rfl, m, hm, rfl, hz, hne⟩
      have ht := trim_take hd hv hm hz hne
      have hwl : (wl n).length = m := by rw [← ht, List.length_take]; omega
      refine ⟨_, us.take m, rfl, grownBy_refl _ _, ?_, ?_, rfl⟩
      · rw [hwl]
        refine ⟨by rw [List.length_take]; show min m us.length = m * 1; omega, .inr ⟨g, cap, cur, rfl, hb, hg, by show m ≤ cap; have : l.length ≤ cap := h3; omega, h4, h5, ?_⟩⟩
        show cur.toList.take (m * 1) = us.take m
        rw [← h6, List.take_take]
        show _ = cur.toList.take (min m (l.length * 1))
        congr 1
        omega
      · rw [← ht, List.map_take]
        refine RepL.take m (RepL.mono (fun b hb => ⟨⟨.inl hb, (hB b hb).1, ?_⟩, rfl⟩) _ _ hrep)
        have := (hB b hb).2
        rw [hv0] at this
        exact this
    · have := hown.cells (by rw [hv0]; rfl : v.ownBlock = some g) j _ (hus j hj)
      exact this
end Go.Proofs.YtfbmphbmidlijaaGreatDoor.S
namespace Go.Proofs.YtfbmphbmidlijaaGreatDoor.S
open Go Go.Sx Go.RowKit Gb
variable {G : World → Prop} (hG : ∀ w w', G w → Below w.heap.size w w' → G w')
include hG
set_option maxRecDepth 100000 in
set_option maxHeartbeats 8000000 in
theorem ntimes_r (a b : Nat) (ha : Lw a < 1000000) (hb : Lw b < 1000000) : MeetsR Tryz.prog G 100 [nP a, nP b] ⟨92, 1, (wl (a * b)).length, (wl (a * b)).map wv, false⟩ := by
  refine meetsR_of_vc (Y := { tc := [148] }) (N := 68) (t := 4) mix tk hG Tryz.func100 rfl (by kernel_rfl) rfl rfl (by simp) (by kernel_rfl) rfl ?_
  unfold Lw at ha hb
  rw [show nP a = .sl (wl a).length ((wl a).map wv) from rfl, show nP b = .sl (wl b).length ((wl b).map wv) from rfl]
  have hA := wl_norm a
  have hB := wl_norm b
  have hva := wl_val a
  have hvb := wl_val b
  generalize wl a = A at *
  generalize wl b = B at *
  simp (maxSteps := 10000000) only [↓sx, sx, ↓ty, ↓reduceIte, Nat.reduceEqDiff]
  have hw : IntKind.i64.wrap ((A.length : Int) + (B.length : Int)) = ((A.length + B.length : Nat) : Int) := by rw [i64_id] <;> omega
  rw [hw]
  refine ⟨by omega, ?_⟩
  refine loopK_of (fun s : List Int × Nat => [(1, .p (.sl B.length (B.map wv))), (5, .orow 16), (17, .p (.sl A.length (A.map wv))), (18, .p (.val (.int .i64 (A.length : Nat)))), (19, .p (.val (.int .i64 (s.2 : Nat))))]) (fun _ => []) (fun s => [(16, ⟨92, 1, s.1.length, s.1.map wv, false⟩)]) (timesInv A B) (fun s => A.length - s.2) (List.replicate (A.length + B.length) 0, 0) ?_ ?_ ?_
  · refine ⟨Dig.replicate _, by simp, Zf.replicate _ _, Nat.zero_le _, ?_⟩
    simp [val_replicate]
  · simp (maxSteps := 10000000) only [isE_nil, is_cons, bo_p, bo_orow, any_cons', all_cons', all_nil', Bool.true_or, ↓sx, sx, ↓reduceIte, Nat.reduceEqDiff]
    simp [rep_wv, hw]
  · rintro ⟨out, i⟩ ⟨h2, h3, h4, h5, h6⟩
    dsimp only at h2 h3 h4 h5 h6 ⊢
    simp (maxSteps := 10000000) only [↓sx, sx, ↓ty, ↓reduceIte, Nat.reduceEqDiff, wv_c]
    refine vcIf_dec (fun hi => ?_) (fun hi => ?_)
    · refine ⟨by omega, by omega, ?_⟩
      refine loopK_of (fun s : List Int × Int × Nat => [(1, .p (.sl B.length (B.map wv))), (5, .orow 16), (6, .p (.val (.int .i64 (i : Nat)))), (7, .p (.val (.int .u32 (A.getD i 0)))), (8, .p (.val (.int .u64 s.2.1))), (17, .p (.sl A.length (A.map wv))), (18, .p (.val (.int .i64 (A.length : Nat)))), (19, .p (.val (.int .i64 (i : Nat)))), (24, .p (.sl B.length (B.map wv))), (25, .p (.val (.int .i64 (B.length : Nat)))), (26, .p (.val (.int .i64 (s.2.2 : Nat))))]) (fun _ => []) (fun s => [(16, ⟨92, 1, s.1.length, s.1.map wv, false⟩)]) (timesInv2 A B i) (fun s => B.length - s.2.2) (out, 0, 0) ?_ ?_ ?_
      · refine ⟨h2, h3, h4, Int.le_refl _, by dsimp only; omega, Nat.zero_le _, ?_⟩
        dsimp only
        rw [← h6, val_drop' A i, List.drop_zero, Int.pow_succ]
        simp only [Nat.add_zero]
        generalize val (A.drop (i + 1)) = p
        grind
      · simp (maxSteps := 10000000) only [isE_nil, is_cons, bo_p, bo_orow, any_cons', all_cons', all_nil', Bool.true_or, ↓sx, sx, ↓reduceIte, Nat.reduceEqDiff]
        rfl
      · rintro ⟨o, c, j⟩ ⟨g1, g2, g3, g4, g4b, g5, g6⟩
        dsimp only at g1 g2 g3 g4 g4b g5 g6 ⊢
        simp (maxSteps := 10000000) only [↓sx, sx, ↓ty, ↓reduceIte, Nat.reduceEqDiff, Nat.reduceAdd, Int.reduceEq, wv_c]
        refine vcIf_dec (fun hj => ?_) (fun hj => ?_)
        · have hx := hA.1.getD i
          have hy := hB.1.getD j
          have ho := g1.getD (i + j)
          have hs := mul_step ho hx hy ⟨g4, g4b⟩
          have e1 : IntKind.i64.wrap ((i : Int) + (j : Int)) = ((i + j : Nat) : Int) := by rw [i64_id] <;> omega
          rw [e1]
          simp only [Int.toNat_natCast]
          rw [u64_id (x := A.getD i 0) (by omega) (by omega), u64_id (x := B.getD j 0) (by omega) (by omega), u64_id (x := A.getD i 0 * B.getD j 0) (by omega) (by omega), u64_id (x := o.getD (i + j) 0) (by omega) (by omega), u64_id (x := A.getD i 0 * B.getD j 0 + o.getD (i + j) 0) (by omega) (by omega), u64_id (x := c + (A.getD i 0 * B.getD j 0 + o.getD (i + j) 0)) (by omega) (by omega)]
          generalize hs' : c + (A.getD i 0 * B.getD j 0 + o.getD (i + j) 0) = s at *
          have hs0 : 0 ≤ s ∧ s < 1000000000000000000 := by omega
          rw [tmod_pos hs0.1, tdiv_pos hs0.1, u32_id (x := s % 1000000000) (by omega) (by omega), u64_id (x := s / 1000000000) (by omega) (by omega)]
          refine ⟨by omega, by omega, by omega, by omega, by omega, by omega, ?_⟩
          refine NextK.mk (o.set (i + j) (s % 1000000000), s / 1000000000, j + 1) (by dsimp only; omega) ⟨g1.set _ (by omega) (by omega), by simp [g2], g3.set _ _ (by omega), by dsimp only; omega, by dsimp only; omega, by dsimp only; omega, ?_⟩ ?_
          · dsimp only
            rw [val_set _ _ _ (by omega), ← g6, val_drop B j (by omega), ← Nat.add_assoc, Int.pow_succ]
            have : s = 1000000000 * (s / 1000000000) + s % 1000000000 := by omega
            generalize s / 1000000000 = q at *
            generalize s % 1000000000 = t at *
            subst this
            generalize val (A.drop (i + 1)) = p1 at *
            generalize val (B.drop (j + 1)) = p2 at *
            grind
          · simp (maxSteps := 10000000) only [isE_nil, is_cons, bo_p, bo_orow, any_cons', all_cons', all_nil', Bool.true_or, ↓sx, sx, ↓reduceIte, Nat.reduceEqDiff]
            rw [set_wv _ _ _ (by omega), i64_id (by omega) (by omega)]
            simp
        · obtain rfl : j = B.length := by omega
          have e1 : IntKind.i64.wrap ((i : Int) + (B.length : Int)) = ((i + B.length : Nat) : Int) := by rw [i64_id] <;> omega
          rw [e1]
          simp only [Int.toNat_natCast]
          rw [u32_id (x := c) (by omega) (by omega)]
          refine ⟨by omega, by omega, ?_⟩
          have hz := g3 (i + B.length) (Nat.le_refl _)
          refine NextK.mk (o.set (i + B.length) c, i + 1) (by dsimp only; omega) ⟨g1.set _ g4 g4b, by simp [g2], (Zf.mono g3 (by omega)).set _ _ (by dsimp only; omega), by dsimp only; omega, ?_⟩ ?_
          · dsimp only
            rw [val_set _ _ _ (by omega), ← g6, hz, List.drop_length, val_nil]
            grind
          · simp (maxSteps := 10000000) only [isE_nil, is_cons, bo_p, bo_orow, any_cons', all_cons', all_nil', Bool.true_or, ↓sx, sx, ↓reduceIte, Nat.reduceEqDiff]
            rw [set_wv _ _ _ (by omega), i64_id (by omega) (by omega)]
            simp
    · obtain rfl : i = A.length := by omega
      rw [List.drop_length, val_nil] at h6
      refine CallTT.mk (ntrim_t hG out (by omega) h2 (a * b) (by rw [Int.natCast_mul]; grind)) ?_
      simp (maxSteps := 10000000) only [↓sx, sx, ↓reduceIte]
end Go.Proofs.YtfbmphbmidlijaaGreatDoor.S
namespace Go.Proofs.YtfbmphbmidlijaaGreatDoor.S
open Go Go.Sx Go.RowKit Gb
variable {G : World → Prop} (hG : ∀ w w', G w → Below w.heap.size w w' → G w')
def redInv (u v : List Int) (at_ : Nat) (t : Int) (s : List Int × Int × Int × Nat) : Prop :=
  Dig s.1 ∧ s.1.length = u.length ∧ s.1.take at_ = u.take at_ ∧ (∀ j, at_ + v.length ≤ j → s.1.getD j 0 = u.getD j 0) ∧ (0 ≤ s.2.1 ∧ s.2.1 ≤ 1) ∧ (0 ≤ s.2.2.1 ∧ s.2.2.1 < 1000000000) ∧ s.2.2.2 ≤ v.length ∧
    val s.1 + 1000000000 ^ at_ * (t * val (v.take s.2.2.2)) = val u + 1000000000 ^ (at_ + s.2.2.2) * (s.2.2.1 + s.2.1)
def redInv2 (u v : List Int) (at_ : Nat) (s : List Int × Int × Nat) : Prop :=
  Dig s.1 ∧ s.1.length = u.length ∧ s.1.take at_ = u.take at_ ∧ (∀ j, at_ + v.length ≤ j → s.1.getD j 0 = u.getD j 0) ∧ 0 ≤ s.2.1 ∧ s.2.1 ≤ 1 ∧ s.2.2 ≤ v.length ∧
    val s.1 + 1000000000 ^ (at_ + s.2.2) * s.2.1 = val u + 1000000000 ^ at_ * val (v.take s.2.2)
set_option maxRecDepth 100000 in
set_option maxHeartbeats 20000000 in
theorem reduce_c (u v : List Int) (at_ : Nat) (t : Int) (hu : Dig u) (hv : Dig v) (hlen : u.length < 10000000) (hat : at_ + v.length < u.length) (ht : 0 ≤ t ∧ t < 1000000000) (hlo : (t - 1) * val v ≤ val (u.drop at_)) (hhi : val (u.drop at_) < (t + 1) * val v) (hV : 0 < val v) (hz : Zf u (at_ + v.length + 1)) :
    MeetsM Tryz.prog G 156 ⟨92, 1, u.length, u.map wv, false⟩ ⟨92, 1, u.length, (redU u v at_).map wv, false⟩ [.sl v.length (v.map wv), .val (.int .i64 (at_ : Nat)), .val (.int .u64 t)] (.val (.int .u32 (val (u.drop at_) / val v))) := by
  refine meetsM_of_vc (Y := {}) (N := 136) (rs := [.tmp 8]) mix tk Tryz.func156 rfl (by kernel_rfl) rfl rfl (by simp) (by kernel_rfl) rfl ?_
  simp (maxSteps := 10000000) only [↓sx, sx, ↓ty, ↓reduceIte, Nat.reduceEqDiff]
  refine loopK_of (fun s : List Int × Int × Int × Nat => [(0, .orow 0), (1, .p (.sl v.length (v.map wv))), (2, .p (.val (.int .i64 (at_ : Nat)))), (3, .p (.val (.int .u64 t))), (9, .p (.val (.int .i64 (v.length : Nat)))), (10, .p (.val (.int .i64 s.2.1))), (11, .p (.val (.int .u64 s.2.2.1))), (12, .p (.val (.int .i64 (s.2.2.2 : Nat))))]) (fun _ => []) (fun s => [(0, ⟨92, 1, s.1.length, s.1.map wv, true⟩)]) (redInv u v at_ t) (fun s => v.length - s.2.2.2) (u, 0, 0, 0) ?_ ?_ ?_
  · refine ⟨hu, rfl, rfl, fun _ _ => rfl, by dsimp only; omega, by dsimp only; omega, Nat.zero_le _, ?_⟩
    simp [val_nil]
  · simp (maxSteps := 10000000) only [isE_nil, is_cons, bo_p, bo_orow, any_cons', all_cons', all_nil', Bool.true_or, ↓sx, sx, ↓reduceIte, Nat.reduceEqDiff]
    simp
  · rintro ⟨u1, b, c, i⟩ ⟨g1, g2, g3, g4, g5, g6, g7, g8⟩
    dsimp only at g1 g2 g3 g4 g5 g6 g7 g8 ⊢
    simp (maxSteps := 10000000) only [↓sx, sx, ↓ty, ↓reduceIte, Nat.reduceEqDiff, Nat.reduceAdd, Int.reduceEq, wv_c]
    refine vcIf_dec (fun hi => ?_) (fun hi => ?_)
    · have hy := hv.getD i
      have hx := g1.getD (at_ + i)
      have hm := mul_step (o := 0) (by omega) ht hy g6
      have hval := val_take_succ v i (by omega)
      have e1 : IntKind.i64.wrap ((at_ : Int) + (i : Int)) = ((at_ + i : Nat) : Int) := by rw [i64_id] <;> omega
      rw [e1, Int.toNat_natCast (at_ + i)]
      rw [u64_id (x := v.getD i 0) (by omega) (by omega), u64_id (x := t * v.getD i 0) (by omega) (by omega), u64_id (x := t * v.getD i 0 + c) (by omega) (by omega)]
      generalize hp : t * v.getD i 0 + c = p at *
      have hp0 : 0 ≤ p ∧ p < 1000000000000000000 := by omega
      have hpe : p = 1000000000 * (p / 1000000000) + p % 1000000000 := by omega
      rw [tmod_pos hp0.1, tdiv_pos hp0.1, u64_id (x := p / 1000000000) (by omega) (by omega), i64_id (x := u1.getD (at_ + i) 0) (by omega) (by omega), i64_id (x := p % 1000000000) (by omega) (by omega), i64_id (x := u1.getD (at_ + i) 0 - p % 1000000000) (by omega) (by omega), i64_id (x := u1.getD (at_ + i) 0 - p % 1000000000 - b) (by omega) (by omega)]
      refine ⟨by omega, by omega, by omega, by omega, ?_⟩
      have fin : ∀ {e : Env} {h : Hp} {ρ : Rws} {tg : Tag (redInv u v at_ t, (fun s : List Int × Int × Int × Nat => v.length - s.2.2.2), e, h, ρ)} (s b' : Int), s = u1.getD (at_ + i) 0 - p % 1000000000 - b + 1000000000 * b' → 0 ≤ s → s < 1000000000 → 0 ≤ b' → b' ≤ 1 →
          e 0 = .orow 0 → e 1 = .p (.sl v.length (v.map wv)) → e 2 = .p (.val (.int .i64 (at_ : Nat))) → e 3 = .p (.val (.int .u64 t)) → e 9 = .p (.val (.int .i64 (v.length : Nat))) → e 10 = .p (.val (.int .i64 b')) → e 11 = .p (.val (.int .u64 (p / 1000000000))) → e 12 = .p (.val (.int .i64 (IntKind.i64.wrap ((i : Int) + 1)))) →
          ρ 0 = some ⟨92, 1, u1.length, (u1.take (at_ + i)).map wv ++ [.val (.int .u32 s)] ++ (u1.drop (at_ + i + 1)).map wv, true⟩ →
          NextK (fun s : List Int × Int × Int × Nat => [(0, .orow 0), (1, .p (.sl v.length (v.map wv))), (2, .p (.val (.int .i64 (at_ : Nat)))), (3, .p (.val (.int .u64 t))), (9, .p (.val (.int .i64 (v.length : Nat)))), (10, .p (.val (.int .i64 s.2.1))), (11, .p (.val (.int .u64 s.2.2.1))), (12, .p (.val (.int .i64 (s.2.2.2 : Nat))))]) (fun _ => []) (fun s => [(0, ⟨92, 1, s.1.length, s.1.map wv, true⟩)]) (redInv u v at_ t) (fun s => v.length - s.2.2.2) (u1, b, c, i) e h ρ tg := by
        intro e h ρ tg s b' hs hs0 hs1 hb0 hb1 e0 e1 e2 e3 e9 e10 e11 e12 r0
        rw [i64_id (by omega) (by omega)] at e12
        rw [set_wv _ _ _ (by omega)] at r0
        refine NextK.mk (u1.set (at_ + i) s, b', p / 1000000000, i + 1) (by dsimp only; omega) ⟨g1.set _ hs0 hs1, by simp [g2], by rw [take_set_of_le _ _ _ _ (by omega)]; exact g3, (fun j hj => by dsimp only; rw [Gb.getD_set_ne _ _ _ _ (by omega)]; exact g4 j hj), ⟨hb0, hb1⟩, by dsimp only; omega, by dsimp only; omega, ?_⟩ ?_
        · dsimp only
          rw [val_set _ _ _ (by omega), hval, ← Nat.add_assoc, Int.pow_succ]
          rw [Int.pow_add] at g8 ⊢
          generalize (1000000000 : Int) ^ at_ = Pa at *
          generalize (1000000000 : Int) ^ i = Pi at *
          generalize p / 1000000000 = q at *
          generalize p % 1000000000 = r at *
          subst hs
          grind
        · simp (maxSteps := 10000000) only [isE_nil, is_cons, bo_p, bo_orow, any_cons', all_cons', all_nil', Bool.true_or, ↓sx, sx, e0, e1, e2, e3, e9, e10, e11, e12, r0]
          simp
      refine vcIf_dec (fun hn => ?_) (fun hn => ?_)
      · rw [i64_id (x := u1.getD (at_ + i) 0 - p % 1000000000 - b + 1000000000) (by omega) (by omega), u32_id (x := u1.getD (at_ + i) 0 - p % 1000000000 - b + 1000000000) (by omega) (by omega)]
        refine ⟨by omega, by omega, ?_⟩
        refine fin (u1.getD (at_ + i) 0 - p % 1000000000 - b + 1000000000) 1 (by omega) (by omega) (by omega) (by omega) (by omega) ?_ ?_ ?_ ?_ ?_ ?_ ?_ ?_ ?_
        all_goals (simp (maxSteps := 10000000) only [↓sx, sx, ↓reduceIte, Nat.reduceEqDiff]; done)
      · rw [u32_id (x := u1.getD (at_ + i) 0 - p % 1000000000 - b) (by omega) (by omega)]
        refine ⟨by omega, by omega, ?_⟩
        refine fin (u1.getD (at_ + i) 0 - p % 1000000000 - b) 0 (by omega) (by omega) (by omega) (by omega) (by omega) ?_ ?_ ?_ ?_ ?_ ?_ ?_ ?_ ?_
        all_goals (simp (maxSteps := 10000000) only [↓sx, sx, ↓reduceIte, Nat.reduceEqDiff]; done)
    · obtain rfl : i = v.length := by omega
      rw [List.take_length] at g8
      have R0 : Red u v u1 at_ t b c := ⟨hu, hv, hat, ht, hlo, hhi, hV, hz, g1, g2, g3, g4, g5, g6, g8⟩
      have hx := hu.getD (at_ + v.length)
      have hw := g4 (at_ + v.length) (Nat.le_refl _)
      have e1 : IntKind.i64.wrap ((at_ : Int) + (v.length : Int)) = ((at_ + v.length : Nat) : Int) := by rw [i64_id] <;> omega
      rw [e1, Int.toNat_natCast (at_ + v.length), hw]
      rw [i64_id (x := u.getD (at_ + v.length) 0) (by omega) (by omega), i64_id (x := c) (by omega) (by omega), i64_id (x := u.getD (at_ + v.length) 0 - c) (by omega) (by omega), i64_id (x := u.getD (at_ + v.length) 0 - c - b) (by omega) (by omega)]
      refine ⟨by omega, by omega, ?_⟩
      refine vcIf_dec (fun hn => ?_) (fun hn => ?_)
      · obtain ⟨p1, p2, p3⟩ := R0.pos (by omega)
        refine ⟨by omega, by omega, ?_, ?_⟩
        · rw [u32_id (x := t) (by omega) (by omega), p2]
        · rw [u32_id (x := u.getD (at_ + v.length) 0 - c - b) (by omega) (by omega), set_wv _ _ _ (by omega), p3, g2]
      · obtain ⟨n1, n2, n3⟩ := R0.neg (by omega)
        refine ⟨by omega, by omega, ?_⟩
        rw [n2, show IntKind.u32.wrap (IntKind.i64.wrap (-1 + 1000000000)) = 999999999 by decide]
        have h0 : (u1.set (at_ + v.length) 999999999).length = u.length := by simp [g2]
        have hd0 : Dig (u1.set (at_ + v.length) 999999999) := g1.set _ (by omega) (by omega)
        refine loopK_of (fun s : List Int × Int × Nat => [(0, .orow 0), (1, .p (.sl v.length (v.map wv))), (2, .p (.val (.int .i64 (at_ : Nat)))), (3, .p (.val (.int .u64 t))), (9, .p (.val (.int .i64 (v.length : Nat)))), (16, .p (.val (.int .u32 s.2.1))), (17, .p (.val (.int .i64 (s.2.2 : Nat))))]) (fun _ => []) (fun s => [(0, ⟨92, 1, s.1.length, s.1.map wv, true⟩)]) (redInv2 (u1.set (at_ + v.length) 999999999) v at_) (fun s => v.length - s.2.2) (u1.set (at_ + v.length) 999999999, 0, 0) ?_ ?_ ?_
        · refine ⟨hd0, rfl, rfl, fun _ _ => rfl, Int.le_refl _, by dsimp only; omega, Nat.zero_le _, ?_⟩
          simp [val_nil]
        · simp (maxSteps := 10000000) only [isE_nil, is_cons, bo_p, bo_orow, any_cons', all_cons', all_nil', Bool.true_or, ↓sx, sx, ↓reduceIte, Nat.reduceEqDiff]
          rw [set_wv _ _ _ (by omega)]
          simp
        · generalize u1.set (at_ + v.length) 999999999 = w0 at *
          rintro ⟨u2, c2, i⟩ ⟨k1, k2, k3, k4, k5, k5b, k6, k7⟩
          dsimp only at k1 k2 k3 k4 k5 k5b k6 k7 ⊢
          simp (maxSteps := 10000000) only [↓sx, sx, ↓ty, ↓reduceIte, Nat.reduceEqDiff, Nat.reduceAdd, Int.reduceEq, wv_c]
          refine vcIf_dec (fun hi => ?_) (fun hi => ?_)
          · have hy := hv.getD i
            have hx := k1.getD (at_ + i)
            have hval := val_take_succ v i (by omega)
            have e1 : IntKind.i64.wrap ((at_ : Int) + (i : Int)) = ((at_ + i : Nat) : Int) := by rw [i64_id] <;> omega
            rw [e1, Int.toNat_natCast (at_ + i)]
            rw [u32_id (x := u2.getD (at_ + i) 0 + v.getD i 0) (by omega) (by omega), u32_id (x := u2.getD (at_ + i) 0 + v.getD i 0 + c2) (by omega) (by omega)]
            generalize hs : u2.getD (at_ + i) 0 + v.getD i 0 + c2 = s at *
            rw [tmod_pos (x := s) (by omega), tdiv_pos (x := s) (by omega), u32_id (x := s / 1000000000) (by omega) (by omega)]
            refine ⟨by omega, by omega, by omega, by omega, by omega, by omega, ?_⟩
            refine NextK.mk (u2.set (at_ + i) (s % 1000000000), s / 1000000000, i + 1) (by dsimp only; omega) ⟨k1.set _ (by omega) (by omega), by simp [k2], by rw [take_set_of_le _ _ _ _ (by omega)]; exact k3, (fun j hj => by dsimp only; rw [Gb.getD_set_ne _ _ _ _ (by omega)]; exact k4 j hj), by dsimp only; omega, by dsimp only; omega, by dsimp only; omega, ?_⟩ ?_
            · dsimp only
              rw [val_set _ _ _ (by omega), hval, ← Nat.add_assoc, Int.pow_succ]
              rw [Int.pow_add] at k7 ⊢
              have : s = 1000000000 * (s / 1000000000) + s % 1000000000 := by omega
              generalize (1000000000 : Int) ^ at_ = Pa at *
              generalize (1000000000 : Int) ^ i = Pi at *
              generalize s / 1000000000 = q at *
              generalize s % 1000000000 = r at *
              grind
            · simp (maxSteps := 10000000) only [isE_nil, is_cons, bo_p, bo_orow, any_cons', all_cons', all_nil', Bool.true_or, ↓sx, sx, ↓reduceIte, Nat.reduceEqDiff]
              rw [set_wv _ _ _ (by omega), i64_id (by omega) (by omega)]
              simp
          · obtain rfl : i = v.length := by omega
            rw [List.take_length] at k7
            obtain ⟨m1, m2, m3, m4⟩ := n3 u2 c2 k1 (k2.trans h0) k3 k4 k5 k5b k7
            subst m1
            rw [e1, Int.toNat_natCast (at_ + v.length), m3]
            refine ⟨by omega, by omega, by omega, by omega, ?_, ?_⟩
            · rw [u64_id (by omega) (by omega), u32_id (by omega) (by omega), m2]
            · rw [show Int.tmod (IntKind.u32.wrap (999999999 + 1)) 1000000000 = 0 by decide, set_wv _ _ _ (by omega), m4, k2, h0]
end Go.Proofs.YtfbmphbmidlijaaGreatDoor.S
namespace Go.Proofs.YtfbmphbmidlijaaGreatDoor.S
open Go Go.Sx Go.RowKit Gb
variable {G : World → Prop} (hG : ∀ w w', G w → Below w.heap.size w w' → G w')
def overInv (v : List Int) (L : Nat) (A : Int) (s : List Int × List Int × Nat) : Prop :=
  s.2.2 + v.length ≤ L ∧ Dig s.1 ∧ s.1.length = L ∧ Dig s.2.1 ∧ s.2.1.length = L - v.length ∧ (∀ j, j < s.2.2 → s.2.1.getD j 0 = 0) ∧ val (s.1.drop s.2.2) < val v ∧ val s.1 + val v * val s.2.1 = A
def overInv2 (u v : List Int) (m : Nat) (s : Int × Int) : Prop :=
  0 ≤ s.1 ∧ s.1 < 2000000000 ∧ 0 ≤ s.2 ∧ s.2 < 4000000000 ∧ s.1 * v.getD (v.length - 1) 0 + s.2 = u.getD (m + v.length) 0 * 1000000000 + u.getD (m + v.length - 1) 0 ∧ val (u.drop m) < (s.1 + 1) * val v
omit hG in
theorem overInv_next {u v q : List Int} {L k : Nat} {A : Int} (g : Guess u v k) (h : overInv v L A (u, q, k + 1)) : overInv v L A (redU u v k, q.set k (val (u.drop k) / val v), k) := by
  obtain ⟨i1, i2, i3, i4, i5, i6, i7, i8⟩ := h
  dsimp only at i1 i2 i3 i4 i5 i6 i7 i8
  have hV := g.vpos
  have hB := g.ltB
  have hU := val_nonneg (i2.drop k)
  have q0 : 0 ≤ val (u.drop k) / val v := Int.ediv_nonneg hU (by omega)
  have q1 : val (u.drop k) / val v < 1000000000 := Int.ediv_lt_of_lt_mul hV (by omega)
  have r1 := Int.emod_lt_of_pos (val (u.drop k)) hV
  refine ⟨by dsimp only; omega, redU_dig i2, by dsimp only; rw [redU_len (by have := g.la; omega)]; exact i3, i4.set _ q0 q1, by simp [i5], (fun j hj => by dsimp only at hj ⊢; rw [Gb.getD_set_ne _ _ _ _ (by omega)]; exact i6 j (by omega)), by dsimp only; rw [redU_val g.dv hV g.la]; exact r1, ?_⟩
  dsimp only
  have hla := g.la
  have e0 := val_take_drop u k (by omega)
  have e1 := val_take_drop (redU u v k) k (by rw [redU_len (by omega)]; omega)
  rw [redU_take (by omega), redU_val g.dv hV g.la] at e1
  rw [e1, val_set _ _ _ (by omega), i6 k (by omega), ← i8, e0]
  have e2 := Int.mul_ediv_add_emod (val (u.drop k)) (val v)
  generalize val (u.drop k) / val v = Q at *
  generalize val (u.drop k) % val v = R at *
  generalize (1000000000 : Int) ^ k = P at *
  rw [← e2]
  grind
include hG
set_option maxRecDepth 100000 in
set_option maxHeartbeats 20000000 in
theorem over_n (a b : Nat) (ha : Lw a < 1000000) (hb : Lw b < 1000000) (hb0 : 0 < b) : Meets Tryz.prog G 109 [nP a, nP b] (.tup [nP (a / b), nP (a % b)]) := by
  refine meets_of_vc (Y := { mc := [156], bw := [10], fz := [21] }) (N := 176) (rs := [.tmp 4, .tmp 5]) mix tk hG Tryz.func109 rfl (by kernel_rfl) rfl rfl (by simp) (by kernel_rfl) ?_
  have hA := wl_norm a
  have hB := wl_norm b
  have hva := wl_val a
  have hvb := wl_val b
  have hla : (wl a).length < 1000000 := ha
  have hlb : (wl b).length < 1000000 := hb
  have hbne : wl b ≠ [] := by rw [wl_pos (by omega)]; simp
  have hbl := List.length_pos_iff.2 hbne
  simp (maxSteps := 10000000) only [↓sx, sx, ↓ty, ↓reduceIte, Nat.reduceEqDiff, Nat.reduceBeqDiff, Nat.reduceAdd, Nat.reduceLeDiff, ne_eq, not_false_eq_true, nP_c]
  refine CallT.mk (cmp_n hG a b (by omega) (by omega)) ?_
  simp (maxSteps := 10000000) only [↓sx, sx, ↓ty, ↓reduceIte, Nat.reduceEqDiff, Nat.reduceAdd, iP_c, wv_c]
  refine vcIf_dec (fun hlt => ?_) (fun hlt => ?_)
  · have : (a : Int) < b := by
      rw [cmpI] at hlt
      split at hlt
      · assumption
      · split at hlt <;> omega
    rw [Nat.div_eq_of_lt (by omega), Nat.mod_eq_of_lt (by omega), wl_zero]
    rfl
  have hba : b ≤ a := by
    rw [cmpI] at hlt
    split at hlt <;> omega
  refine vcIf_b (fun h1 => ?_) (fun h1 => ?_)
  · have h1 : (wl b).length = 1 := by simp at h1; omega
    obtain ⟨x, hx⟩ := List.length_eq_one_iff.1 h1
    have hxb : x = (b : Int) := by rw [← hvb, hx]; simp [val]
    subst hxb
    have hxd := hB.1 b (by rw [hx]; simp)
    refine ⟨by omega, by omega, ?_⟩
    refine CallT.to (smal_n hG a b ha hb0 (by omega)) (by rw [hx]; rfl) ?_
    simp (maxSteps := 10000000) only [↓sx, sx, ↓reduceIte]
    have hm : a % b < b := Nat.mod_lt _ hb0
    refine CallT.mk (small_n hG (a % b) (by omega)) ?_
    simp (maxSteps := 10000000) only [↓sx, sx, ↓reduceIte, Nat.reduceEqDiff]
    rfl
  · have h1 : 2 ≤ (wl b).length := by simp at h1; omega
    have hw : IntKind.i64.wrap (((wl b).length : Int) - 1) = (((wl b).length - 1 : Nat) : Int) := by rw [i64_id] <;> omega
    rw [hw, Int.toNat_natCast]
    have htop := hB.2 hbne
    have hbt := hB.1.getD ((wl b).length - 1)
    generalize hx : (wl b).getD ((wl b).length - 1) 0 = x at *
    obtain ⟨s1, s2, s3⟩ := scale_ok (x := x) (by omega)
    generalize hs : 1000000000 / (x + 1) = s at *
    have e1 : IntKind.u32.wrap (IntKind.i64.wrap (Int.tdiv 1000000000 (IntKind.i64.wrap (IntKind.i64.wrap x + 1)))) = s := by
      rw [i64_id (x := x) (by omega) (by omega), i64_id (x := x + 1) (by omega) (by omega), tdiv_pos (by decide), hs, i64_id (x := s) (by omega) (by omega), u32_id (by omega) (by omega)]
    have e2 : ¬ IntKind.i64.wrap (IntKind.i64.wrap x + 1) = 0 := by
      rw [i64_id (x := x) (by omega) (by omega), i64_id (x := x + 1) (by omega) (by omega)]; omega
    obtain ⟨σ, hσ⟩ : ∃ σ : Nat, s = (σ : Int) := ⟨s.toNat, by omega⟩
    refine ⟨by omega, by omega, e2, ?_⟩
    refine CallT.to (small_n hG σ (by omega)) (by rw [e1, hσ]) ?_
    have hwσ : wl σ = [s] := by
      rw [wl_pos (by omega), show σ / 1000000000 = 0 by omega, wl_zero, show ((σ % 1000000000 : Nat) : Int) = s by omega]
    have hLσ : Lw σ = 1 := by unfold Lw; rw [hwσ]; rfl
    simp (maxSteps := 10000000) only [↓sx, sx, ↓reduceIte, Nat.reduceEqDiff, nP_c]
    refine CallT.mk (times_n hG b σ hb (by omega)) ?_
    simp (maxSteps := 10000000) only [↓sx, sx, ↓reduceIte, Nat.reduceEqDiff, nP_c]
    refine CallT.mk (times_n hG a σ ha (by omega)) ?_
    simp (maxSteps := 10000000) only [↓sx, sx, ↓ty, ↓reduceIte, Nat.reduceEqDiff, Nat.reduceAdd, Nat.reduceLT, nP_c]
    have hwd := wl_norm (a * σ)
    have hwv := wl_val (a * σ)
    have hLa : (wl (a * σ)).length ≤ (wl a).length + 1 := by have := Lw_mul a σ; rw [hLσ] at this; exact this
    have hLa2 : (wl a).length ≤ (wl (a * σ)).length := Lw_mono (Nat.le_mul_of_pos_right a (by omega))
    have hab : (wl b).length ≤ (wl a).length := Lw_mono hba
    have hd2 : Dig (wl (a * σ) ++ [0, 0]) := hwd.1.append (Dig.cons (by omega) (by omega) (Dig.cons (by omega) (by omega) Dig.nil))
    refine ⟨⟨wv_leaf _, by simp only [maxLen]; omega, by omega⟩, ⟨by simp only [maxLen]; omega, by omega⟩, ?_⟩
    refine CallT.to (trim_n hG (wl (a * σ) ++ [0, 0]) (by rw [len2]; omega) hd2 (a * σ) (by rw [val_append, hwv]; simp [val])) (by rw [len2, List.map_append, Nat.zero_add]; rfl) ?_
    simp (maxSteps := 10000000) only [↓sx, sx, ↓ty, ↓reduceIte, Nat.reduceEqDiff, nP_c]
    have hv := wl_norm (b * σ)
    have hvv := wl_val (b * σ)
    have hvl : (wl (b * σ)).length = (wl b).length := scaled_len hB hbne hv s s1 (by rw [hx]; exact s3) (by rw [hvv, hvb, hσ, Int.natCast_mul])
    have hmx : (if ((wl (a * σ)).length : Int) > IntKind.i64.wrap (((wl a).length : Int) + 1) then ((wl (a * σ)).length : Int) else IntKind.i64.wrap (((wl a).length : Int) + 1)) = (((wl a).length + 1 : Nat) : Int) := by
      rw [i64_id (by omega) (by omega)]; split <;> omega
    have hn1 : IntKind.i64.wrap ((((wl a).length + 1 : Nat) : Int) - ((wl b).length : Int)) = (((wl a).length + 1 - (wl b).length : Nat) : Int) := by rw [i64_id] <;> omega
    have hn2 : IntKind.i64.wrap ((((wl a).length + 1 - (wl b).length : Nat) : Int) - 1) = (((wl a).length + 1 - (wl b).length : Nat) : Int) - 1 := by rw [i64_id] <;> omega
    rw [hmx, Int.toNat_natCast ((wl a).length + 1), hn1]
    refine ⟨⟨by omega, by omega⟩, ⟨by omega, by omega, by omega, by omega⟩, ?_⟩
    have hu0 : Dig ((wl (a * σ) ++ [0, 0]).take ((wl a).length + 1)) := hd2.take _
    have hul0 : ((wl (a * σ) ++ [0, 0]).take ((wl a).length + 1)).length = (wl a).length + 1 := take_len2 (wl (a * σ)) (wl a) hLa hLa2
    have huv0 : val ((wl (a * σ) ++ [0, 0]).take ((wl a).length + 1)) = val (wl a) * s := by
      rw [val_take_zf _ _ (len2_le (wl (a * σ)) (wl a) hLa2), val_append, hwv, hva, hσ]
      · simp [val]
      · exact (zf_snoc2 (wl (a * σ))).mono hLa
    have hucs : List.map wv (List.take ((wl a).length + 1) (wl (a * σ) ++ [0, 0])) = List.take ((wl a).length + 1) (List.map wv (wl (a * σ)) ++ [.val (.int .u32 0), .val (.int .u32 0)]) := by
      rw [List.map_take, List.map_append]; rfl
    have hhead := scaled_head hA.1 hB hbne hu0 s s1 huv0 (by omega) (by omega) (val (wl (b * σ))) (by rw [hvv, hvb, hσ, Int.natCast_mul])
    rw [hul0] at hhead
    have hvtop := hv.2 (by intro h; rw [h] at hvl; simp at hvl; omega)
    have hvp : 0 < val (wl (b * σ)) := hv.pos (by intro h; rw [h] at hvl; simp at hvl; omega)
    generalize hgv : wl (b * σ) = v at *
    generalize hgn : (wl b).length = n at *
    generalize hgu : (wl (a * σ) ++ [0, 0]).take ((wl a).length + 1) = u0 at *
    refine loopK_of (fun s : List Int × List Int × Nat => [(8, .p (.val (.int .i64 (n : Nat)))), (9, .p (.sl 1 [wv σ])), (10, .p (.sl v.length (v.map wv))), (11, .orow 53), (12, .orow 73), (13, .p (.val (.int .i64 ((s.2.2 : Int) - 1))))]) (fun _ => []) (fun s => [(53, ⟨92, 1, s.1.length, s.1.map wv, false⟩), (73, ⟨92, 1, s.2.1.length, s.2.1.map wv, false⟩)]) (overInv v ((wl a).length + 1) (val (wl a) * s)) (fun s => s.2.2) (u0, List.replicate ((wl a).length + 1 - n) 0, (wl a).length + 1 - n) ?_ ?_ ?_
    · refine ⟨by dsimp only; omega, hu0, hul0, Dig.replicate _, by simp [hvl], fun j _ => Zf.replicate _ 0 j (Nat.zero_le _), hhead, ?_⟩
      simp [val_replicate, huv0]
    · simp (maxSteps := 10000000) only [isE_nil, is_cons, bo_p, bo_orow, any_cons', all_cons', all_nil', Bool.true_or, Bool.or_true, ↓sx, sx, ↓reduceIte, Nat.reduceEqDiff, Nat.reduceBeqDiff, hn2]
      rw [hwσ, hul0, rep_wv, List.length_replicate, hucs, hσ]
      exact ⟨rfl, rfl, rfl⟩
    · rintro ⟨u, q, m⟩ ⟨i1, i2, i3, i4, i5, i6, i7, i8⟩
      dsimp only at i1 i2 i3 i4 i5 i6 i7 i8 ⊢
      simp (maxSteps := 10000000) only [↓sx, sx, ↓ty, ↓reduceIte, Nat.reduceEqDiff, Nat.reduceBeqDiff, wv_c]
      refine vcIf_dec (fun hm => ?_) (fun hm => ?_)
      · obtain ⟨k, rfl⟩ : ∃ k, m = k + 1 := ⟨m - 1, by omega⟩
        rw [show (((k + 1 : Nat) : Int) - 1) = (k : Int) by omega]
        have g : Guess u v k := ⟨i2, hv.1, by omega, by omega, by omega, hvtop, i7⟩
        have hv1 := g.v1
        have hul2 := i2.getD (k + v.length - 1)
        have huh := i2.getD (k + v.length)
        obtain ⟨t0, t1, t2, t3, t4, t5, t6, t7⟩ := guess_begin g _ rfl
        have x1 : IntKind.i64.wrap ((k : Int) + (n : Int)) = ((k + v.length : Nat) : Int) := by rw [i64_id] <;> omega
        have x2 : IntKind.i64.wrap (((k + v.length : Nat) : Int) - 1) = ((k + v.length - 1 : Nat) : Int) := by rw [i64_id] <;> omega
        have x3 : IntKind.i64.wrap ((n : Int) - 1) = ((v.length - 1 : Nat) : Int) := by rw [i64_id] <;> omega
        rw [x1, x2, x3, Int.toNat_natCast (k + v.length), Int.toNat_natCast (k + v.length - 1), Int.toNat_natCast (v.length - 1)]
        rw [u64_id (x := u.getD (k + v.length) 0) (by omega) (by omega), u64_id (x := u.getD (k + v.length - 1) 0) (by omega) (by omega), u64_id (x := u.getD (k + v.length) 0 * 1000000000) (by omega) (by omega), u64_id (x := u.getD (k + v.length) 0 * 1000000000 + u.getD (k + v.length - 1) 0) (by omega) (by omega), u64_id (x := v.getD (v.length - 1) 0) (by omega) (by omega)]
        generalize hT : u.getD (k + v.length) 0 * 1000000000 + u.getD (k + v.length - 1) 0 = T at *
        rw [tdiv_pos t0, tmod_pos t0, u64_id (x := T / v.getD (v.length - 1) 0) (by omega) (by omega)]
        refine ⟨by omega, by omega, by omega, by omega, by omega, by omega, by omega, by omega, by omega, by omega, ?_⟩
        refine loopK_of (fun s : Int × Int => [(8, .p (.val (.int .i64 (n : Nat)))), (9, .p (.sl 1 [wv σ])), (10, .p (.sl v.length (v.map wv))), (11, .orow 53), (12, .orow 73), (13, .p (.val (.int .i64 (k : Nat)))), (15, .p (.val (.int .u64 s.1))), (16, .p (.val (.int .u64 s.2)))]) (fun _ => []) (fun s => [(53, ⟨92, 1, u.length, u.map wv, false⟩), (73, ⟨92, 1, q.length, q.map wv, false⟩)]) (overInv2 u v k) (fun s => s.1.toNat) (T / v.getD (v.length - 1) 0, T % v.getD (v.length - 1) 0) ?_ ?_ ?_
        · exact ⟨t2, t3, t4, by dsimp only; omega, by rw [hT]; exact t6, t7⟩
        · simp (maxSteps := 10000000) only [isE_nil, is_cons, bo_p, bo_orow, any_cons', all_cons', all_nil', Bool.true_or, Bool.or_true, ↓sx, sx, ↓reduceIte, Nat.reduceEqDiff, Nat.reduceBeqDiff, wv_c]
        · rintro ⟨t, r⟩ ⟨j1, j2, j3, j4, j5, j6⟩
          dsimp only at j1 j2 j3 j4 j5 j6 ⊢
          simp (maxSteps := 10000000) only [↓sx, sx, ↓ty, ↓reduceIte, Nat.reduceEqDiff, Nat.reduceBeqDiff, Nat.reduceLT, wv_c]
          have hv2 := g.dv.getD (v.length - 2)
          have hu2 := i2.getD (k + v.length - 2)
          have x4 : IntKind.i64.wrap ((n : Int) - 2) = ((v.length - 2 : Nat) : Int) := by rw [i64_id] <;> omega
          have x5 : IntKind.i64.wrap (((k + v.length : Nat) : Int) - 2) = ((k + v.length - 2 : Nat) : Int) := by rw [i64_id] <;> omega
          have exit : 1000000000 ≤ r ∨ t < 1000000000 ∧ t * v.getD (v.length - 2) 0 ≤ r * 1000000000 + u.getD (k + v.length - 2) 0 → MeetsM Tryz.prog G 156 ⟨92, 1, u.length, u.map wv, false⟩ ⟨92, 1, u.length, (redU u v k).map wv, false⟩ [.sl v.length (v.map wv), .val (.int .i64 (k : Nat)), .val (.int .u64 t)] (.val (.int .u32 (val (u.drop k) / val v))) := by
            intro h
            obtain ⟨w1, w2⟩ := g.stay j1 j5 j3 h
            exact reduce_c u v k t i2 hv.1 (by omega) (by omega) ⟨j1, w1⟩ w2 j6 hvp g.zf
          have down : ∀ {e : Env} {h : Hp} {ρ : Rws} {tg : Tag (overInv2 u v k, (fun s : Int × Int => s.1.toNat), e, h, ρ)}, r < 1000000000 → (1000000000 ≤ t ∨ r * 1000000000 + u.getD (k + v.length - 2) 0 < t * v.getD (v.length - 2) 0) →
              Is [(8, .p (.val (.int .i64 (n : Nat)))), (9, .p (.sl 1 [.val (.int .u32 σ)])), (10, .p (.sl v.length (v.map wv))), (11, .orow 53), (12, .orow 73), (13, .p (.val (.int .i64 (k : Nat)))), (15, .p (.val (.int .u64 (IntKind.u64.wrap (t - 1))))), (16, .p (.val (.int .u64 (IntKind.u64.wrap (r + IntKind.u64.wrap (v.getD (v.length - 1) 0))))))] [] [(53, ⟨92, 1, u.length, u.map wv, false⟩), (73, ⟨92, 1, q.length, q.map wv, false⟩)] e h ρ →
              NextK (fun s : Int × Int => [(8, .p (.val (.int .i64 (n : Nat)))), (9, .p (.sl 1 [.val (.int .u32 σ)])), (10, .p (.sl v.length (v.map wv))), (11, .orow 53), (12, .orow 73), (13, .p (.val (.int .i64 (k : Nat)))), (15, .p (.val (.int .u64 s.1))), (16, .p (.val (.int .u64 s.2)))]) (fun _ => []) (fun s => [(53, ⟨92, 1, u.length, u.map wv, false⟩), (73, ⟨92, 1, q.length, q.map wv, false⟩)]) (overInv2 u v k) (fun s => s.1.toNat) (t, r) e h ρ tg := by
            intro e h ρ tg hr hd his
            obtain ⟨w1, w2⟩ := g.down j1 j5 j3 hd
            rw [u64_id (x := t - 1) (by omega) (by omega), u64_id (x := v.getD (v.length - 1) 0) (by omega) (by omega), u64_id (x := r + v.getD (v.length - 1) 0) (by omega) (by omega)] at his
            refine NextK.mk (t - 1, r + v.getD (v.length - 1) 0) (by dsimp only; omega) ⟨by dsimp only; omega, by dsimp only; omega, by dsimp only; omega, by dsimp only; omega, ?_, by dsimp only; rw [show t - 1 + 1 = t by omega]; exact w2⟩ his
            dsimp only
            rw [← j5]; grind
          rw [x3, Int.toNat_natCast (v.length - 1)]
          refine vcIf_dec (fun hr => ?_) (fun hr => ?_)
          · refine vcIf_dec (fun hB2 => ?_) (fun hB2 => ?_)
            · refine ⟨by omega, by omega, down hr (.inl hB2) ?_⟩
              simp (maxSteps := 10000000) only [isE_nil, is_cons, bo_p, bo_orow, any_cons', all_cons', all_nil', Bool.true_or, Bool.or_true, ↓sx, sx, ↓reduceIte, Nat.reduceEqDiff, Nat.reduceBeqDiff]
            · have htv : 0 ≤ t * v.getD (v.length - 2) 0 ∧ t * v.getD (v.length - 2) 0 ≤ 999999998000000001 := mul_step (o := 0) (c := 0) (by omega) (by omega) hv2 (by omega)
              rw [x1, x4, x5, Int.toNat_natCast (v.length - 2), Int.toNat_natCast (k + v.length - 2)]
              rw [u64_id (x := v.getD (v.length - 2) 0) (by omega) (by omega), u64_id (x := t * v.getD (v.length - 2) 0) (by omega) (by omega), u64_id (x := u.getD (k + v.length - 2) 0) (by omega) (by omega), u64_id (x := r * 1000000000) (by omega) (by omega), u64_id (x := r * 1000000000 + u.getD (k + v.length - 2) 0) (by omega) (by omega)]
              refine ⟨by omega, by omega, by omega, by omega, ?_⟩
              refine vcIf_dec (fun ht2 => ?_) (fun ht2 => ?_)
              · refine ⟨by omega, by omega, down hr (.inr (by omega)) ?_⟩
                simp (maxSteps := 10000000) only [isE_nil, is_cons, bo_p, bo_orow, any_cons', all_cons', all_nil', Bool.true_or, Bool.or_true, ↓sx, sx, ↓reduceIte, Nat.reduceEqDiff, Nat.reduceBeqDiff]
              · refine CallN.mk (exit (.inr (by omega))) ?_
                simp (maxSteps := 10000000) only [↓sx, sx, ↓ty, ↓reduceIte, Nat.reduceEqDiff, Nat.reduceAdd]
                refine ⟨by omega, by omega, NextK.mk (redU u v k, q.set k (val (u.drop k) / val v), k) (by dsimp only; omega) (overInv_next g ⟨i1, i2, i3, i4, i5, i6, i7, i8⟩) ?_⟩
                simp (maxSteps := 10000000) only [isE_nil, is_cons, bo_p, bo_orow, any_cons', all_cons', all_nil', Bool.true_or, Bool.or_true, ↓sx, sx, ↓reduceIte, Nat.reduceEqDiff, Nat.reduceBeqDiff]
                rw [set_wv _ _ _ (by omega), redU_len (by omega), i64_id (x := (k : Int) - 1) (by omega) (by omega)]
                simp
          · refine CallN.mk (exit (.inl (by omega))) ?_
            simp (maxSteps := 10000000) only [↓sx, sx, ↓ty, ↓reduceIte, Nat.reduceEqDiff, Nat.reduceAdd]
            refine ⟨by omega, by omega, NextK.mk (redU u v k, q.set k (val (u.drop k) / val v), k) (by dsimp only; omega) (overInv_next g ⟨i1, i2, i3, i4, i5, i6, i7, i8⟩) ?_⟩
            simp (maxSteps := 10000000) only [isE_nil, is_cons, bo_p, bo_orow, any_cons', all_cons', all_nil', Bool.true_or, Bool.or_true, ↓sx, sx, ↓reduceIte, Nat.reduceEqDiff, Nat.reduceBeqDiff]
            rw [set_wv _ _ _ (by omega), redU_len (by omega), i64_id (x := (k : Int) - 1) (by omega) (by omega)]
            simp
      · obtain rfl : m = 0 := by omega
        rw [List.drop_zero] at i7
        have hu9 := val_nonneg i2
        have hzu := zf_of_lt u i2 0 v.length (by rw [List.drop_zero]; have := (val_bounds hv.1).2; omega)
        rw [Nat.zero_add, hvl] at hzu
        have hvu := val_take_zf u n (by omega) hzu
        obtain ⟨μ, hμ⟩ : ∃ μ : Nat, val u = (μ : Int) := ⟨(val u).toNat, by omega⟩
        have hq9 := quot_of (a := (a : Int)) (b := (b : Int)) (s := s) (Q := val q) (rem := val u) (by omega) (by omega) (by rw [← hva, ← i8, hvv, hσ, Int.natCast_mul]; omega) hu9 (by rw [hvv, Int.natCast_mul, ← hσ] at i7; exact i7)
        have hqv : val q = ((a / b : Nat) : Int) := by rw [hq9.1, Int.natCast_ediv]
        have hrv : μ / σ = a % b := by
          have := hq9.2
          rw [hμ, hσ, ← Int.natCast_ediv, ← Int.natCast_emod] at this
          exact Int.ofNat_inj.1 this
        have htl : (u.take n).length = n := by rw [List.length_take]; omega
        have hμL : Lw μ < 1000000 := by
          have h7 : μ < b * σ := by rw [hvv, hμ] at i7; exact Int.ofNat_lt.1 i7
          have h8 := Lw_mono (Nat.le_of_lt h7)
          have h9 : Lw (b * σ) = v.length := by unfold Lw; rw [hgv]
          omega
        refine ⟨by omega, ?_⟩
        refine CallT.to (trim_n hG (u.take n) (by omega) (i2.take n) μ (by rw [hvu, hμ])) (by rw [htl]) ?_
        simp (maxSteps := 10000000) only [↓sx, sx, ↓ty, ↓reduceIte, Nat.reduceEqDiff, Nat.reduceAdd, Nat.reduceLT, nP_c]
        refine ⟨by omega, CallT.mk (smal_n hG μ σ hμL (by omega) (by omega)) ?_⟩
        simp (maxSteps := 10000000) only [↓sx, sx, ↓reduceIte, Nat.reduceEqDiff, Nat.reduceBeqDiff, nP_c]
        refine CallT.mk (trim_n hG q (by omega) i4 (a / b) hqv) ?_
        simp (maxSteps := 10000000) only [↓sx, sx, ↓reduceIte, Nat.reduceEqDiff, nP_c]
        rw [hrv]
end Go.Proofs.YtfbmphbmidlijaaGreatDoor.S
namespace Go.Proofs.YtfbmphbmidlijaaGreatDoor.S
open Go Go.Sx Go.RowKit Gb
variable {G : World → Prop} (hG : ∀ w w', G w → Below w.heap.size w w' → G w')
include hG
omit hG in
theorem Lw2_lt {a : Nat} (h : Lw a ≤ 2) : a < 1000000000000000000 := by
  have h1 := lt_Lw a
  have h2 : 1000000000 ^ Lw a ≤ 1000000000 ^ 2 := Nat.pow_le_pow_right (by omega) h
  omega
set_option maxRecDepth 100000 in
set_option maxHeartbeats 20000000 in
theorem ndivide_n (a b : Nat) (ha : Lw a < 1000000) (hb : Lw b < 1000000) (hb0 : 0 < b) : Meets Tryz.prog G 123 [nP a, nP b] (.tup [nP (a / b), nP (a % b)]) := by
  refine meets_of_vc (Y := { fc := [100], ct := [3] }) (N := 299) (rs := [.tmp 4, .tmp 5]) mix tk hG Tryz.func123 rfl (by kernel_rfl) rfl rfl (by simp) (by kernel_rfl) ?_
  have hA := wl_norm a
  have hB := wl_norm b
  have hva := wl_val a
  have hvb := wl_val b
  have hla : (wl a).length < 1000000 := ha
  have hlb : (wl b).length < 1000000 := hb
  have hbne : wl b ≠ [] := by rw [wl_pos (by omega)]; simp
  have hbl := List.length_pos_iff.2 hbne
  simp (maxSteps := 10000000) only [↓sx, sx, ↓ty, ↓reduceIte, Nat.reduceEqDiff, Nat.reduceBeqDiff, Nat.reduceAdd, Nat.reduceLeDiff, ne_eq, not_false_eq_true, nP_c]
  refine CallT.mk (ncmp_n hG a b (by omega) (by omega)) ?_
  simp (maxSteps := 10000000) only [↓sx, sx, ↓reduceIte, Nat.reduceEqDiff, Nat.reduceAdd, iP_c]
  refine vcIf_dec (fun hlt => ?_) (fun hlt => ?_)
  · have : (a : Int) < b := by
      rw [cmpI] at hlt
      split at hlt
      · assumption
      · split at hlt <;> omega
    rw [Nat.div_eq_of_lt (by omega), Nat.mod_eq_of_lt (by omega), wl_zero]
    rfl
  have hba : b ≤ a := by
    rw [cmpI] at hlt
    split at hlt <;> omega
  have hLba : Lw b ≤ Lw a := Lw_mono hba
  by_cases ha2 : Lw a ≤ 2
  · have hb2 : Lw b ≤ 2 := by omega
    have bx := Lw2_lt ha2
    have by_ := Lw2_lt hb2
    refine CallT.mk (by have := nsmall_n hG a (by omega); rw [if_pos ha2, decide_eq_true ha2] at this; exact this) ?_
    simp (maxSteps := 10000000) only [↓sx, sx, ↓reduceIte, Nat.reduceEqDiff]
    refine CallT.mk (by have := nsmall_n hG b (by omega); rw [if_pos hb2, decide_eq_true hb2] at this; exact this) ?_
    simp (maxSteps := 10000000) only [↓sx, sx, ↓reduceIte, Nat.reduceEqDiff, Nat.reduceLT]
    have hq : a / b ≤ a := Nat.div_le_self a b
    have hm : a % b < b := Nat.mod_lt _ hb0
    have e1 : IntKind.u64.wrap ((a : Int).tdiv b) = ((a / b : Nat) : Int) := by
      rw [tdiv_pos (by omega), ← Int.natCast_ediv]
      generalize a / b = q at *
      rw [u64_id (by omega) (by omega)]
    have e2 : (a : Int).tmod b = ((a % b : Nat) : Int) := by rw [tmod_pos (by omega), Int.natCast_emod]
    refine ⟨by omega, CallT.to (nof_n hG (a / b) (by omega)) (by rw [e1]) ?_⟩
    simp (maxSteps := 10000000) only [↓sx, sx, ↓reduceIte, Nat.reduceEqDiff, nP_c]
    refine ⟨by omega, CallT.to (nof_n hG (a % b) (by omega)) (by rw [e2]) ?_⟩
    simp (maxSteps := 10000000) only [↓sx, sx, nP_c]
  have ha3 : 3 ≤ (wl a).length := by show 3 ≤ Lw a; omega
  refine CallT.mk (by have := nsmall_n hG a (by omega); rw [if_neg ha2, decide_eq_false ha2] at this; exact this) ?_
  simp (maxSteps := 10000000) only [↓sx, sx, ↓reduceIte, Nat.reduceEqDiff]
  refine CallT.mk (nsmall_n hG b (by omega)) ?_
  simp (maxSteps := 10000000) only [↓sx, sx, ↓ty, ↓reduceIte, Nat.reduceEqDiff, Nat.reduceLT, wv_c]
  refine vcIf_b (fun h1 => ?_) (fun h1 => ?_)
  · have h1 : (wl b).length = 1 := by simp at h1; omega
    obtain ⟨x, hx⟩ := List.length_eq_one_iff.1 h1
    have hxb : x = (b : Int) := by rw [← hvb, hx]; simp [val]
    subst hxb
    have hxd := hB.1 b (by rw [hx]; simp)
    refine ⟨by omega, by omega, ?_⟩
    refine CallT.to (nby_n hG a b ha hb0 (by omega)) (by rw [hx, List.getD_cons_zero, u64_id (by omega) (by omega)]; rfl) ?_
    simp (maxSteps := 10000000) only [↓sx, sx, nP_c]
  · have h1 : 2 ≤ (wl b).length := by simp at h1; omega
    have hw : IntKind.i64.wrap (((wl b).length : Int) - 1) = (((wl b).length - 1 : Nat) : Int) := by rw [i64_id] <;> omega
    rw [hw, Int.toNat_natCast]
    have htop := hB.2 hbne
    have hbt := hB.1.getD ((wl b).length - 1)
    generalize hx : (wl b).getD ((wl b).length - 1) 0 = x at *
    obtain ⟨s1, s2, s3⟩ := scale_ok (x := x) (by omega)
    generalize hs : 1000000000 / (x + 1) = s at *
    have e1 : IntKind.u64.wrap (Int.tdiv 1000000000 (IntKind.u64.wrap (IntKind.u64.wrap x + 1))) = s := by
      rw [u64_id (x := x) (by omega) (by omega), u64_id (x := x + 1) (by omega) (by omega), tdiv_pos (by decide), hs, u64_id (x := s) (by omega) (by omega)]
    have e2 : ¬ IntKind.u64.wrap (IntKind.u64.wrap x + 1) = 0 := by
      rw [u64_id (x := x) (by omega) (by omega), u64_id (x := x + 1) (by omega) (by omega)]; omega
    obtain ⟨σ, hσ⟩ : ∃ σ : Nat, s = (σ : Int) := ⟨s.toNat, by omega⟩
    refine ⟨by omega, by omega, e2, ?_⟩
    refine CallT.to (nof_n hG σ (by omega)) (by rw [e1, hσ]) ?_
    have hwσ : wl σ = [s] := by
      rw [wl_pos (by omega), show σ / 1000000000 = 0 by omega, wl_zero, show ((σ % 1000000000 : Nat) : Int) = s by omega]
    have hLσ : Lw σ = 1 := by unfold Lw; rw [hwσ]; rfl
    simp (maxSteps := 10000000) only [↓sx, sx, ↓reduceIte, Nat.reduceEqDiff, nP_c]
    refine CallFT.mk (ntimes_r hG a σ ha (by omega)) ?_
    simp (maxSteps := 10000000) only [↓sx, sx, ↓ty, ↓reduceIte, Nat.reduceEqDiff, Nat.reduceAdd, Nat.reduceLT]
    have hwd := wl_norm (a * σ)
    have hwv := wl_val (a * σ)
    have hLa : (wl (a * σ)).length ≤ (wl a).length + 1 := by have := Lw_mul a σ; rw [hLσ] at this; exact this
    have hLa2 : (wl a).length ≤ (wl (a * σ)).length := Lw_mono (Nat.le_mul_of_pos_right a (by omega))
    have hab : (wl b).length ≤ (wl a).length := Lw_mono hba
    refine ⟨⟨by simp only [maxLen]; omega, by omega⟩, CallFT.mk (ntimes_r hG b σ hb (by omega)) ?_⟩
    simp (maxSteps := 10000000) only [↓sx, sx, ↓ty, ↓reduceIte, Nat.reduceEqDiff, Nat.reduceAdd, Nat.reduceLT]
    refine vcIf_b (fun h2 => ?_) (fun h2 => ?_)
    · exfalso
      rw [beq_iff_eq] at h2
      omega
    have hv := wl_norm (b * σ)
    have hvv := wl_val (b * σ)
    have hvl : (wl (b * σ)).length = (wl b).length := scaled_len hB hbne hv s s1 (by rw [hx]; exact s3) (by rw [hvv, hvb, hσ, Int.natCast_mul])
    have hul0 : (wl (a * σ) ++ [0]).length = (wl (a * σ)).length + 1 := by simp
    have hn1 : IntKind.i64.wrap ((((wl (a * σ)).length + 1 : Nat) : Int) - ((wl (b * σ)).length : Int)) = (((wl (a * σ)).length + 1 - (wl (b * σ)).length : Nat) : Int) := by rw [i64_id] <;> omega
    have hn2 : IntKind.i64.wrap ((((wl (a * σ)).length + 1 - (wl (b * σ)).length : Nat) : Int) - 1) = (((wl (a * σ)).length + 1 - (wl (b * σ)).length : Nat) : Int) - 1 := by rw [i64_id] <;> omega
    rw [hn1]
    refine ⟨⟨by omega, by omega, by omega, by omega⟩, ?_⟩
    have hu0 : Dig (wl (a * σ) ++ [0]) := hwd.1.append (Dig.cons (by omega) (by omega) Dig.nil)
    have huv0 : val (wl (a * σ) ++ [0]) = val (wl a) * s := by
      rw [val_append, hwv, hva, hσ]; simp [val]
    have hucs : List.map wv (wl (a * σ) ++ [0]) = List.map wv (wl (a * σ)) ++ [.val (.int .u32 0)] := by
      rw [List.map_append]; rfl
    have hhead := scaled_head hA.1 hB hbne hu0 s s1 huv0 (by omega) (by omega) (val (wl (b * σ))) (by rw [hvv, hvb, hσ, Int.natCast_mul])
    rw [hul0] at hhead
    have hvtop := hv.2 (by intro h; rw [h] at hvl; simp at hvl; omega)
    have hvp : 0 < val (wl (b * σ)) := hv.pos (by intro h; rw [h] at hvl; simp at hvl; omega)
    generalize hgL : (wl (a * σ)).length + 1 = L at *
    generalize hgu : wl (a * σ) ++ [0] = u0 at *
    generalize hgv : wl (b * σ) = v at *
    rw [← hvl] at hhead
    refine loopK_of (fun x : List Int × List Int × Nat => [(10, .p (.sl 1 [wv s])), (11, .orow 83), (12, .orow 88), (13, .p (.val (.int .i64 (v.length : Nat)))), (14, .orow 103), (15, .p (.val (.int .i64 ((x.2.2 : Int) - 1))))]) (fun _ => []) (fun x => [(83, ⟨92, 1, x.1.length, x.1.map wv, false⟩), (88, ⟨92, 1, v.length, v.map wv, false⟩), (103, ⟨92, 1, x.2.1.length, x.2.1.map wv, false⟩)]) (overInv v L (val (wl a) * s)) (fun x => x.2.2) (u0, List.replicate (L - v.length) 0, L - v.length) ?_ ?_ ?_
    · refine ⟨by dsimp only; omega, hu0, hul0, Dig.replicate _, by simp, fun j _ => Zf.replicate _ 0 j (Nat.zero_le _), hhead, ?_⟩
      simp [val_replicate, huv0]
    · simp (maxSteps := 10000000) only [isE_nil, is_cons, bo_p, bo_orow, any_cons', all_cons', all_nil', Bool.true_or, Bool.or_true, ↓sx, sx, ↓reduceIte, Nat.reduceEqDiff, Nat.reduceBeqDiff, hn2]
      rw [hwσ, hul0, rep_wv, List.length_replicate, hucs]
      exact ⟨rfl, rfl, rfl⟩
    · rintro ⟨u, q, m⟩ ⟨i1, i2, i3, i4, i5, i6, i7, i8⟩
      dsimp only at i1 i2 i3 i4 i5 i6 i7 i8 ⊢
      simp (maxSteps := 10000000) only [↓sx, sx, ↓ty, ↓reduceIte, Nat.reduceEqDiff, Nat.reduceBeqDiff, wv_c]
      refine vcIf_dec (fun hm => ?_) (fun hm => ?_)
      · obtain ⟨k, rfl⟩ : ∃ k, m = k + 1 := ⟨m - 1, by omega⟩
        rw [show (((k + 1 : Nat) : Int) - 1) = (k : Int) by omega]
        have g : Guess u v k := ⟨i2, hv.1, by omega, by omega, by omega, hvtop, i7⟩
        have hv1 := g.v1
        have hul2 := i2.getD (k + v.length - 1)
        have huh := i2.getD (k + v.length)
        obtain ⟨t0, t1, t2, t3, t4, t5, t6, t7⟩ := guess_begin g _ rfl
        have x1 : IntKind.i64.wrap ((k : Int) + (v.length : Int)) = ((k + v.length : Nat) : Int) := by rw [i64_id] <;> omega
        have x2 : IntKind.i64.wrap (((k + v.length : Nat) : Int) - 1) = ((k + v.length - 1 : Nat) : Int) := by rw [i64_id] <;> omega
        have x3 : IntKind.i64.wrap ((v.length : Int) - 1) = ((v.length - 1 : Nat) : Int) := by rw [i64_id] <;> omega
        rw [x1, x2, x3, Int.toNat_natCast (k + v.length), Int.toNat_natCast (k + v.length - 1), Int.toNat_natCast (v.length - 1)]
        rw [u64_id (x := u.getD (k + v.length) 0) (by omega) (by omega), u64_id (x := u.getD (k + v.length - 1) 0) (by omega) (by omega), u64_id (x := u.getD (k + v.length) 0 * 1000000000) (by omega) (by omega), u64_id (x := u.getD (k + v.length) 0 * 1000000000 + u.getD (k + v.length - 1) 0) (by omega) (by omega), u64_id (x := v.getD (v.length - 1) 0) (by omega) (by omega)]
        generalize hT : u.getD (k + v.length) 0 * 1000000000 + u.getD (k + v.length - 1) 0 = T at *
        rw [tdiv_pos t0, tmod_pos t0, u64_id (x := T / v.getD (v.length - 1) 0) (by omega) (by omega)]
        refine ⟨by omega, by omega, by omega, by omega, by omega, by omega, by omega, by omega, by omega, by omega, ?_⟩
        refine cut_of (fun t : Int => [(10, .p (.sl 1 [wv s])), (11, .orow 83), (12, .orow 88), (13, .p (.val (.int .i64 (v.length : Nat)))), (14, .orow 103), (15, .p (.val (.int .i64 (k : Nat)))), (17, .p (.val (.int .u64 t)))]) (fun _ => []) (fun t => [(83, ⟨92, 1, u.length, u.map wv, false⟩), (88, ⟨92, 1, v.length, v.map wv, false⟩), (103, ⟨92, 1, q.length, q.map wv, false⟩)]) (fun t => 0 ≤ t ∧ t < 1000000000 ∧ (t - 1) * val v ≤ val (u.drop k) ∧ val (u.drop k) < (t + 1) * val v) ?_ ?_
        · simp (maxSteps := 10000000) only [↓sx, sx, wv_c]
          refine loopK_of (fun x : Int × Int => [(10, .p (.sl 1 [wv s])), (11, .orow 83), (12, .orow 88), (13, .p (.val (.int .i64 (v.length : Nat)))), (14, .orow 103), (15, .p (.val (.int .i64 (k : Nat)))), (17, .p (.val (.int .u64 x.1))), (18, .p (.val (.int .u64 x.2)))]) (fun _ => []) (fun x => [(83, ⟨92, 1, u.length, u.map wv, false⟩), (88, ⟨92, 1, v.length, v.map wv, false⟩), (103, ⟨92, 1, q.length, q.map wv, false⟩)]) (fun x => overInv2 u v k x ∧ x.2 < 1000000000) (fun x => x.1.toNat) (T / v.getD (v.length - 1) 0, T % v.getD (v.length - 1) 0) ?_ ?_ ?_
          · exact ⟨⟨t2, t3, t4, by dsimp only; omega, by rw [hT]; exact t6, t7⟩, t5⟩
          · simp (maxSteps := 10000000) only [isE_nil, is_cons, bo_p, bo_orow, any_cons', all_cons', all_nil', Bool.true_or, Bool.or_true, ↓sx, sx, ↓reduceIte, Nat.reduceEqDiff, Nat.reduceBeqDiff, wv_c]
          · rintro ⟨t, r⟩ ⟨⟨j1, j2, j3, j4, j5, j6⟩, j7⟩
            dsimp only at j1 j2 j3 j4 j5 j6 j7 ⊢
            simp (maxSteps := 10000000) only [↓sx, sx, ↓ty, ↓reduceIte, Nat.reduceEqDiff, Nat.reduceBeqDiff, Nat.reduceLT, wv_c]
            have hv2 := g.dv.getD (v.length - 2)
            have hu2 := i2.getD (k + v.length - 2)
            have x4 : IntKind.i64.wrap ((v.length : Int) - 2) = ((v.length - 2 : Nat) : Int) := by rw [i64_id] <;> omega
            have x5 : IntKind.i64.wrap (((k + v.length : Nat) : Int) - 2) = ((k + v.length - 2 : Nat) : Int) := by rw [i64_id] <;> omega
            have exit : 1000000000 ≤ r + v.getD (v.length - 1) 0 ∧ (1000000000 ≤ t ∨ r * 1000000000 + u.getD (k + v.length - 2) 0 < t * v.getD (v.length - 2) 0) → 0 ≤ t - 1 ∧ t - 1 < 1000000000 ∧ (t - 1 - 1) * val v ≤ val (u.drop k) ∧ val (u.drop k) < (t - 1 + 1) * val v := by
              rintro ⟨h1, h2⟩
              obtain ⟨w1, w2⟩ := g.down j1 j5 j3 h2
              obtain ⟨w3, w4⟩ := g.stay (t := t - 1) (ρ := r + v.getD (v.length - 1) 0) (by omega) (by rw [← j5]; grind) (by omega) (.inl h1)
              exact ⟨by omega, w3, w4, by rw [show t - 1 + 1 = t by omega]; exact w2⟩
            have stop : t < 1000000000 ∧ t * v.getD (v.length - 2) 0 ≤ r * 1000000000 + u.getD (k + v.length - 2) 0 → 0 ≤ t ∧ t < 1000000000 ∧ (t - 1) * val v ≤ val (u.drop k) ∧ val (u.drop k) < (t + 1) * val v := by
              intro h
              obtain ⟨w1, w2⟩ := g.stay j1 j5 j3 (.inr h)
              exact ⟨j1, w1, w2, j6⟩
            have down : (1000000000 ≤ t ∨ r * 1000000000 + u.getD (k + v.length - 2) 0 < t * v.getD (v.length - 2) 0) → r + v.getD (v.length - 1) 0 < 1000000000 → (overInv2 u v k (t - 1, r + v.getD (v.length - 1) 0) ∧ r + v.getD (v.length - 1) 0 < 1000000000) ∧ 1 ≤ t := by
              intro hd hr
              obtain ⟨w1, w2⟩ := g.down j1 j5 j3 hd
              refine ⟨⟨⟨by dsimp only; omega, by dsimp only; omega, by dsimp only; omega, by dsimp only; omega, ?_, by dsimp only; rw [show t - 1 + 1 = t by omega]; exact w2⟩, hr⟩, w1⟩
              dsimp only
              rw [← j5]; grind
            have t1' : (1000000000 ≤ t ∨ r * 1000000000 + u.getD (k + v.length - 2) 0 < t * v.getD (v.length - 2) 0) → 1 ≤ t := fun hd => (g.down j1 j5 j3 hd).1
            rw [x3, Int.toNat_natCast (v.length - 1)]
            refine vcIf_dec (fun hB2 => ?_) (fun hB2 => ?_)
            · have ht1 := t1' (.inl hB2)
              rw [u64_id (x := v.getD (v.length - 1) 0) (by omega) (by omega), u64_id (x := r + v.getD (v.length - 1) 0) (by omega) (by omega), u64_id (x := t - 1) (by omega) (by omega)]
              refine ⟨by omega, by omega, vcIf_dec (fun hr => ?_) (fun hr => ?_)⟩
              · refine CutK.mk (t - 1) (exit ⟨by omega, .inl hB2⟩) ?_
                simp (maxSteps := 10000000) only [isE_nil, is_cons, bo_p, bo_orow, any_cons', all_cons', all_nil', Bool.true_or, Bool.or_true, ↓sx, sx, ↓reduceIte, Nat.reduceEqDiff, Nat.reduceBeqDiff]
              · refine NextK.mk (t - 1, r + v.getD (v.length - 1) 0) (by dsimp only; omega) (down (.inl hB2) (by omega)).1 ?_
                simp (maxSteps := 10000000) only [isE_nil, is_cons, bo_p, bo_orow, any_cons', all_cons', all_nil', Bool.true_or, Bool.or_true, ↓sx, sx, ↓reduceIte, Nat.reduceEqDiff, Nat.reduceBeqDiff]
            · have htv : 0 ≤ t * v.getD (v.length - 2) 0 ∧ t * v.getD (v.length - 2) 0 ≤ 999999998000000001 := mul_step (o := 0) (c := 0) (by omega) (by omega) hv2 (by omega)
              rw [x1, x4, x5, Int.toNat_natCast (v.length - 2), Int.toNat_natCast (k + v.length - 2)]
              rw [u64_id (x := v.getD (v.length - 2) 0) (by omega) (by omega), u64_id (x := t * v.getD (v.length - 2) 0) (by omega) (by omega), u64_id (x := u.getD (k + v.length - 2) 0) (by omega) (by omega), u64_id (x := r * 1000000000) (by omega) (by omega), u64_id (x := r * 1000000000 + u.getD (k + v.length - 2) 0) (by omega) (by omega)]
              refine ⟨by omega, by omega, by omega, by omega, vcIf_dec (fun ht2 => ?_) (fun ht2 => ?_)⟩
              · have ht1 := t1' (.inr (by omega))
                rw [u64_id (x := v.getD (v.length - 1) 0) (by omega) (by omega), u64_id (x := r + v.getD (v.length - 1) 0) (by omega) (by omega), u64_id (x := t - 1) (by omega) (by omega)]
                refine ⟨by omega, by omega, vcIf_dec (fun hr => ?_) (fun hr => ?_)⟩
                · refine CutK.mk (t - 1) (exit ⟨by omega, .inr (by omega)⟩) ?_
                  simp (maxSteps := 10000000) only [isE_nil, is_cons, bo_p, bo_orow, any_cons', all_cons', all_nil', Bool.true_or, Bool.or_true, ↓sx, sx, ↓reduceIte, Nat.reduceEqDiff, Nat.reduceBeqDiff]
                · refine NextK.mk (t - 1, r + v.getD (v.length - 1) 0) (by dsimp only; omega) (down (.inr (by omega)) (by omega)).1 ?_
                  simp (maxSteps := 10000000) only [isE_nil, is_cons, bo_p, bo_orow, any_cons', all_cons', all_nil', Bool.true_or, Bool.or_true, ↓sx, sx, ↓reduceIte, Nat.reduceEqDiff, Nat.reduceBeqDiff]
              · refine CutK.mk t (stop ⟨by omega, by omega⟩) ?_
                simp (maxSteps := 10000000) only [isE_nil, is_cons, bo_p, bo_orow, any_cons', all_cons', all_nil', Bool.true_or, Bool.or_true, ↓sx, sx, ↓reduceIte, Nat.reduceEqDiff, Nat.reduceBeqDiff]
        · rintro t ⟨c1, c2, c3, c4⟩
          simp (maxSteps := 10000000) only [↓sx, sx, ↓reduceIte, Nat.reduceEqDiff, Nat.reduceBeqDiff, wv_c]
          refine loopK_of (fun x : List Int × Int × Int × Nat => [(10, .p (.sl 1 [wv s])), (11, .orow 83), (12, .orow 88), (13, .p (.val (.int .i64 (v.length : Nat)))), (14, .orow 103), (15, .p (.val (.int .i64 (k : Nat)))), (17, .p (.val (.int .u64 t))), (19, .p (.val (.int .i64 x.2.2.1))), (20, .p (.val (.int .i64 x.2.1))), (180, .p (.val (.int .i64 (v.length : Nat)))), (181, .p (.val (.int .i64 (x.2.2.2 : Nat))))]) (fun _ => []) (fun x => [(83, ⟨92, 1, x.1.length, x.1.map wv, false⟩), (88, ⟨92, 1, v.length, v.map wv, false⟩), (103, ⟨92, 1, q.length, q.map wv, false⟩)]) (redInv u v k t) (fun x => v.length - x.2.2.2) (u, 0, 0, 0) ?_ ?_ ?_
          · refine ⟨i2, rfl, rfl, fun _ _ => rfl, by dsimp only; omega, by dsimp only; omega, Nat.zero_le _, ?_⟩
            simp [val_nil]
          · simp (maxSteps := 10000000) only [isE_nil, is_cons, bo_p, bo_orow, any_cons', all_cons', all_nil', Bool.true_or, Bool.or_true, ↓sx, sx, ↓reduceIte, Nat.reduceEqDiff, Nat.reduceBeqDiff, wv_c]
            rfl
          · rintro ⟨u1, bo, c, i⟩ ⟨g1, g2, g3, g4, g5, g6, g7, g8⟩
            dsimp only at g1 g2 g3 g4 g5 g6 g7 g8 ⊢
            simp (maxSteps := 10000000) only [↓sx, sx, ↓ty, ↓reduceIte, Nat.reduceEqDiff, Nat.reduceBeqDiff, Nat.reduceAdd, Int.reduceEq, wv_c]
            refine vcIf_dec (fun hi => ?_) (fun hi => ?_)
            · have hy := hv.1.getD i
              have hxu := g1.getD (k + i)
              have hmm := mul_step (o := 0) (c := c) (by omega) ⟨c1, c2⟩ hy g6
              have hval := val_take_succ v i (by omega)
              have y1 : IntKind.i64.wrap ((i : Int) + (k : Int)) = ((k + i : Nat) : Int) := by rw [i64_id] <;> omega
              rw [y1, Int.toNat_natCast (k + i)]
              rw [i64_id (x := t) (by omega) (by omega), i64_id (x := v.getD i 0) (by omega) (by omega), i64_id (x := t * v.getD i 0) (by omega) (by omega), i64_id (x := t * v.getD i 0 + c) (by omega) (by omega)]
              generalize hp : t * v.getD i 0 + c = p at *
              have hp0 : 0 ≤ p ∧ p < 1000000000000000000 := by omega
              have hpe : p = 1000000000 * (p / 1000000000) + p % 1000000000 := by omega
              rw [tmod_pos hp0.1, tdiv_pos hp0.1, i64_id (x := p / 1000000000) (by omega) (by omega), i64_id (x := u1.getD (k + i) 0) (by omega) (by omega), i64_id (x := u1.getD (k + i) 0 - p % 1000000000) (by omega) (by omega), i64_id (x := u1.getD (k + i) 0 - p % 1000000000 - bo) (by omega) (by omega)]
              refine ⟨by omega, by omega, by omega, by omega, ?_⟩
              have fin : ∀ {e : Env} {h : Hp} {ρ : Rws} {tg : Tag (redInv u v k t, (fun x : List Int × Int × Int × Nat => v.length - x.2.2.2), e, h, ρ)} (d b' : Int), d = u1.getD (k + i) 0 - p % 1000000000 - bo + 1000000000 * b' → 0 ≤ d → d < 1000000000 → 0 ≤ b' → b' ≤ 1 →
                  e 10 = .p (.sl 1 [wv s]) → e 11 = .orow 83 → e 12 = .orow 88 → e 13 = .p (.val (.int .i64 (v.length : Nat))) → e 14 = .orow 103 → e 15 = .p (.val (.int .i64 (k : Nat))) → e 17 = .p (.val (.int .u64 t)) → e 19 = .p (.val (.int .i64 (p / 1000000000))) → e 20 = .p (.val (.int .i64 b')) → e 180 = .p (.val (.int .i64 (v.length : Nat))) → e 181 = .p (.val (.int .i64 (IntKind.i64.wrap ((i : Int) + 1)))) →
                  ρ 83 = some ⟨92, 1, u1.length, (u1.take (k + i)).map wv ++ [.val (.int .u32 d)] ++ (u1.drop (k + i + 1)).map wv, false⟩ → ρ 88 = some ⟨92, 1, v.length, v.map wv, false⟩ → ρ 103 = some ⟨92, 1, q.length, q.map wv, false⟩ →
                  NextK (fun x : List Int × Int × Int × Nat => [(10, .p (.sl 1 [wv s])), (11, .orow 83), (12, .orow 88), (13, .p (.val (.int .i64 (v.length : Nat)))), (14, .orow 103), (15, .p (.val (.int .i64 (k : Nat)))), (17, .p (.val (.int .u64 t))), (19, .p (.val (.int .i64 x.2.2.1))), (20, .p (.val (.int .i64 x.2.1))), (180, .p (.val (.int .i64 (v.length : Nat)))), (181, .p (.val (.int .i64 (x.2.2.2 : Nat))))]) (fun _ => []) (fun x => [(83, ⟨92, 1, x.1.length, x.1.map wv, false⟩), (88, ⟨92, 1, v.length, v.map wv, false⟩), (103, ⟨92, 1, q.length, q.map wv, false⟩)]) (redInv u v k t) (fun x => v.length - x.2.2.2) (u1, bo, c, i) e h ρ tg := by
                intro e h ρ tg d b' hd hd0 hd1 hb0 hb1 e10 e11 e12 e13 e14 e15 e17 e19 e20 e180 e181 r83 r88 r103
                rw [i64_id (by omega) (by omega)] at e181
                rw [set_wv _ _ _ (by omega)] at r83
                refine NextK.mk (u1.set (k + i) d, b', p / 1000000000, i + 1) (by dsimp only; omega) ⟨g1.set _ hd0 hd1, by simp [g2], by rw [take_set_of_le _ _ _ _ (by omega)]; exact g3, (fun j hj => by dsimp only; rw [Gb.getD_set_ne _ _ _ _ (by omega)]; exact g4 j hj), ⟨hb0, hb1⟩, by dsimp only; omega, by dsimp only; omega, ?_⟩ ?_
                · dsimp only
                  rw [val_set _ _ _ (by omega), hval, ← Nat.add_assoc, Int.pow_succ]
                  rw [Int.pow_add] at g8 ⊢
                  generalize (1000000000 : Int) ^ k = Pa at *
                  generalize (1000000000 : Int) ^ i = Pi at *
                  generalize p / 1000000000 = pq at *
                  generalize p % 1000000000 = pr at *
                  subst hd
                  grind
                · simp (maxSteps := 10000000) only [isE_nil, is_cons, bo_p, bo_orow, any_cons', all_cons', all_nil', Bool.true_or, Bool.or_true, ↓sx, sx, Nat.reduceBeqDiff, wv_c, e10, e11, e12, e13, e14, e15, e17, e19, e20, e180, e181, r83, r88, r103]
                  simp [wv_c]
              refine vcIf_dec (fun hn => ?_) (fun hn => ?_)
              · rw [i64_id (x := u1.getD (k + i) 0 - p % 1000000000 - bo + 1000000000) (by omega) (by omega), u32_id (x := u1.getD (k + i) 0 - p % 1000000000 - bo + 1000000000) (by omega) (by omega)]
                refine ⟨by omega, by omega, ?_⟩
                refine fin (u1.getD (k + i) 0 - p % 1000000000 - bo + 1000000000) 1 (by omega) (by omega) (by omega) (by omega) (by omega) ?_ ?_ ?_ ?_ ?_ ?_ ?_ ?_ ?_ ?_ ?_ ?_ ?_ ?_
                all_goals (simp (maxSteps := 10000000) only [↓sx, sx, ↓reduceIte, Nat.reduceEqDiff, wv_c]; done)
              · rw [u32_id (x := u1.getD (k + i) 0 - p % 1000000000 - bo) (by omega) (by omega)]
                refine ⟨by omega, by omega, ?_⟩
                refine fin (u1.getD (k + i) 0 - p % 1000000000 - bo) 0 (by omega) (by omega) (by omega) (by omega) (by omega) ?_ ?_ ?_ ?_ ?_ ?_ ?_ ?_ ?_ ?_ ?_ ?_ ?_ ?_
                all_goals (simp (maxSteps := 10000000) only [↓sx, sx, ↓reduceIte, Nat.reduceEqDiff, wv_c]; done)
            · obtain rfl : i = v.length := by omega
              rw [List.take_length] at g8
              have R0 : Red u v u1 k t bo c := ⟨i2, hv.1, by omega, ⟨c1, c2⟩, c3, c4, hvp, g.zf, g1, g2, g3, g4, g5, g6, g8⟩
              have hw9 := g4 (k + v.length) (Nat.le_refl _)
              rw [x1, Int.toNat_natCast (k + v.length), hw9]
              rw [i64_id (x := u.getD (k + v.length) 0) (by omega) (by omega), i64_id (x := u.getD (k + v.length) 0 - c) (by omega) (by omega), i64_id (x := u.getD (k + v.length) 0 - c - bo) (by omega) (by omega)]
              refine ⟨by omega, by omega, vcIf_dec (fun hn => ?_) (fun hn => ?_)⟩
              · obtain ⟨n1, n2, n3⟩ := R0.neg hn
                rw [n2, u64_id (x := t - 1) (by omega) (by omega)]
                refine loopK_of (fun x : List Int × Int × Nat => [(10, .p (.sl 1 [wv s])), (11, .orow 83), (12, .orow 88), (13, .p (.val (.int .i64 (v.length : Nat)))), (14, .orow 103), (15, .p (.val (.int .i64 (k : Nat)))), (17, .p (.val (.int .u64 (t - 1)))), (24, .p (.val (.int .i64 (-1)))), (25, .p (.val (.int .u64 x.2.1))), (235, .p (.val (.int .i64 (v.length : Nat)))), (236, .p (.val (.int .i64 (x.2.2 : Nat))))]) (fun _ => []) (fun x => [(83, ⟨92, 1, x.1.length, x.1.map wv, false⟩), (88, ⟨92, 1, v.length, v.map wv, false⟩), (103, ⟨92, 1, q.length, q.map wv, false⟩)]) (redInv2 u1 v k) (fun x => v.length - x.2.2) (u1, 0, 0) ?_ ?_ ?_
                · refine ⟨g1, rfl, rfl, fun _ _ => rfl, Int.le_refl _, by dsimp only; omega, Nat.zero_le _, ?_⟩
                  simp [val_nil]
                · simp (maxSteps := 10000000) only [isE_nil, is_cons, bo_p, bo_orow, any_cons', all_cons', all_nil', Bool.true_or, Bool.or_true, ↓sx, sx, ↓reduceIte, Nat.reduceEqDiff, Nat.reduceBeqDiff, wv_c]
                  rfl
                · rintro ⟨u2, c2, i⟩ ⟨k1, k2, k3, k4, k5, k5b, k6, k7⟩
                  dsimp only at k1 k2 k3 k4 k5 k5b k6 k7 ⊢
                  simp (maxSteps := 10000000) only [↓sx, sx, ↓ty, ↓reduceIte, Nat.reduceEqDiff, Nat.reduceBeqDiff, Nat.reduceAdd, Int.reduceEq, wv_c]
                  refine vcIf_dec (fun hi => ?_) (fun hi => ?_)
                  · have hy := hv.1.getD i
                    have hxu := k1.getD (k + i)
                    have hval := val_take_succ v i (by omega)
                    have y1 : IntKind.i64.wrap ((i : Int) + (k : Int)) = ((k + i : Nat) : Int) := by rw [i64_id] <;> omega
                    rw [y1, Int.toNat_natCast (k + i)]
                    rw [u64_id (x := u2.getD (k + i) 0) (by omega) (by omega), u64_id (x := v.getD i 0) (by omega) (by omega), u64_id (x := u2.getD (k + i) 0 + v.getD i 0) (by omega) (by omega), u64_id (x := c2 + (u2.getD (k + i) 0 + v.getD i 0)) (by omega) (by omega)]
                    generalize hs4 : c2 + (u2.getD (k + i) 0 + v.getD i 0) = s4 at *
                    rw [tmod_pos (x := s4) (by omega), tdiv_pos (x := s4) (by omega), u64_id (x := s4 / 1000000000) (by omega) (by omega), u32_id (x := s4 % 1000000000) (by omega) (by omega)]
                    refine ⟨by omega, by omega, by omega, by omega, by omega, by omega, ?_⟩
                    refine NextK.mk (u2.set (k + i) (s4 % 1000000000), s4 / 1000000000, i + 1) (by dsimp only; omega) ⟨k1.set _ (by omega) (by omega), by simp [k2], by rw [take_set_of_le _ _ _ _ (by omega)]; exact k3, (fun j hj => by dsimp only; rw [Gb.getD_set_ne _ _ _ _ (by omega)]; exact k4 j hj), by dsimp only; omega, by dsimp only; omega, by dsimp only; omega, ?_⟩ ?_
                    · dsimp only
                      rw [val_set _ _ _ (by omega), hval, ← Nat.add_assoc, Int.pow_succ]
                      rw [Int.pow_add] at k7 ⊢
                      have : s4 = 1000000000 * (s4 / 1000000000) + s4 % 1000000000 := by omega
                      generalize (1000000000 : Int) ^ k = Pa at *
                      generalize (1000000000 : Int) ^ i = Pi at *
                      generalize s4 / 1000000000 = sq at *
                      generalize s4 % 1000000000 = sr at *
                      grind
                    · simp (maxSteps := 10000000) only [isE_nil, is_cons, bo_p, bo_orow, any_cons', all_cons', all_nil', Bool.true_or, Bool.or_true, ↓sx, sx, ↓reduceIte, Nat.reduceEqDiff, Nat.reduceBeqDiff]
                      rw [set_wv _ _ _ (by omega), i64_id (by omega) (by omega)]
                      simp [wv_c]
                  · obtain rfl : i = v.length := by omega
                    rw [List.take_length] at k7
                    have k4t := k4 (k + v.length) (Nat.le_refl _)
                    have hu1t := g1.getD (k + v.length)
                    obtain ⟨m1, m2, m3, m4⟩ := n3 (u2.set (k + v.length) 999999999) c2 (k1.set _ (by omega) (by omega)) (by simp [k2, g2]) (by rw [take_set_of_le _ _ _ _ (by omega), take_set_of_le _ _ _ _ (by omega)]; exact k3) (fun j hj => by
                      by_cases hjt : j = k + v.length
                      · subst hjt; rw [Gb.getD_set_same _ _ _ (by omega), Gb.getD_set_same _ _ _ (by omega)]
                      · rw [Gb.getD_set_ne _ _ _ _ (by omega), Gb.getD_set_ne _ _ _ _ (by omega)]; exact k4 j hj) k5 k5b (by
                      rw [val_set _ _ _ (by omega), val_set _ _ _ (by omega), k4t]
                      generalize (1000000000 : Int) ^ (k + v.length) = Pt at *
                      generalize (999999999 - u1.getD (k + v.length) 0) * Pt = z at *
                      omega)
                    subst m1
                    rw [List.set_set] at m4
                    rw [x1, Int.toNat_natCast (k + v.length)]
                    refine ⟨by omega, by omega, by omega, by omega, NextK.mk (redU u v k, q.set k (val (u.drop k) / val v), k) (by dsimp only; omega) (overInv_next g ⟨i1, i2, i3, i4, i5, i6, i7, i8⟩) ?_⟩
                    simp (maxSteps := 10000000) only [isE_nil, is_cons, bo_p, bo_orow, any_cons', all_cons', all_nil', Bool.true_or, Bool.or_true, ↓sx, sx, ↓reduceIte, Nat.reduceEqDiff, Nat.reduceBeqDiff]
                    rw [set_wv _ _ _ (by omega), show IntKind.u32.wrap (if (0 : Int) > IntKind.i64.wrap (-1 + IntKind.i64.wrap 1) then 0 else IntKind.i64.wrap (-1 + IntKind.i64.wrap 1)) = 0 by decide, set_wv _ _ _ (by omega), m4, u32_id (x := t - 1) (by omega) (by omega), m2, redU_len (by omega), k2, g2, i64_id (x := (k : Int) - 1) (by omega) (by omega)]
                    simp [wv_c]
              · obtain ⟨p1, p2, p3⟩ := R0.pos (by omega)
                refine ⟨by omega, by omega, by omega, by omega, NextK.mk (redU u v k, q.set k (val (u.drop k) / val v), k) (by dsimp only; omega) (overInv_next g ⟨i1, i2, i3, i4, i5, i6, i7, i8⟩) ?_⟩
                simp (maxSteps := 10000000) only [isE_nil, is_cons, bo_p, bo_orow, any_cons', all_cons', all_nil', Bool.true_or, Bool.or_true, ↓sx, sx, ↓reduceIte, Nat.reduceEqDiff, Nat.reduceBeqDiff]
                rw [if_neg (by omega), u32_id (x := u.getD (k + v.length) 0 - c - bo) (by omega) (by omega), set_wv _ _ _ (by omega), set_wv _ _ _ (by omega), p3, u32_id (x := t) (by omega) (by omega), p2, redU_len (by omega), g2, i64_id (x := (k : Int) - 1) (by omega) (by omega)]
                simp [wv_c]
      · obtain rfl : m = 0 := by omega
        rw [List.drop_zero] at i7
        have hu9 := val_nonneg i2
        have hzu := zf_of_lt u i2 0 v.length (by rw [List.drop_zero]; have := (val_bounds hv.1).2; omega)
        rw [Nat.zero_add] at hzu
        have hvu := val_take_zf u v.length (by omega) hzu
        obtain ⟨μ, hμ⟩ : ∃ μ : Nat, val u = (μ : Int) := ⟨(val u).toNat, by omega⟩
        have hq9 := quot_of (a := (a : Int)) (b := (b : Int)) (s := s) (Q := val q) (rem := val u) (by omega) (by omega) (by rw [← hva, ← i8, hvv, hσ, Int.natCast_mul]; omega) hu9 (by rw [hvv, Int.natCast_mul, ← hσ] at i7; exact i7)
        have hqv : val q = ((a / b : Nat) : Int) := by rw [hq9.1, Int.natCast_ediv]
        have hrv : μ / σ = a % b := by
          have := hq9.2
          rw [hμ, hσ, ← Int.natCast_ediv, ← Int.natCast_emod] at this
          exact Int.ofNat_inj.1 this
        have htl : (u.take v.length).length = v.length := by rw [List.length_take]; omega
        have hμL : Lw μ < 1000000 := by
          have h7 : μ < b * σ := by rw [hvv, hμ] at i7; exact Int.ofNat_lt.1 i7
          have h8 := Lw_mono (Nat.le_of_lt h7)
          have h9 : Lw (b * σ) = v.length := by unfold Lw; rw [hgv]
          omega
        refine CallT.to (by have := nsmall_n hG σ (by omega); rw [if_pos (by omega), decide_eq_true (by omega)] at this; exact this) (by rw [nP_c, hwσ]; rfl) ?_
        simp (maxSteps := 10000000) only [↓sx, sx, ↓ty, ↓reduceIte, Nat.reduceEqDiff]
        refine ⟨by omega, ?_⟩
        refine CallT.to (ntrim_n hG (u.take v.length) (by omega) (i2.take v.length) μ (by rw [hvu, hμ])) (by rw [htl]) ?_
        simp (maxSteps := 10000000) only [↓sx, sx, ↓reduceIte, Nat.reduceEqDiff, nP_c]
        refine CallT.mk (nby_n hG μ σ hμL (by omega) (by omega)) ?_
        simp (maxSteps := 10000000) only [↓sx, sx, ↓reduceIte, Nat.reduceEqDiff, nP_c]
        refine CallT.mk (ntrim_n hG q (by omega) i4 (a / b) hqv) ?_
        simp (maxSteps := 10000000) only [↓sx, sx, ↓reduceIte, Nat.reduceEqDiff, nP_c]
        rw [hrv]
end Go.Proofs.YtfbmphbmidlijaaGreatDoor.S
namespace Go.Proofs.YtfbmphbmidlijaaGreatDoor.S
open Go Go.Sx Go.RowKit Gb
variable {G : World → Prop} (hG : ∀ w w', G w → Below w.heap.size w w' → G w')
omit hG in
theorem len_Lw (a : Nat) : (wl a).length = Lw a := rfl
theorem Lw_two {a : Nat} (h : Lw a ≤ 2) : a < 1000000000000000000 := by
  have h1 := lt_Lw a
  have h2 : 1000000000 ^ Lw a ≤ 1000000000 ^ 2 := Nat.pow_le_pow_right (by omega) h
  omega
theorem Lw_zero_iff (a : Nat) : Lw a = 0 ↔ a = 0 := by
  constructor
  · intro h
    have := lt_Lw a
    rw [h] at this
    simpa using this
  · intro h; subst h; unfold Lw; rw [wl_zero]; rfl
include hG
set_option maxRecDepth 100000 in
set_option maxHeartbeats 20000000 in
theorem common_n (a b : Nat) (ha : Lw a < 1000000) (hb : Lw b < 1000000) : Meets Tryz.prog G 108 [nP a, nP b] (nP (Nat.gcd a b)) := by
  refine meets_of_vc (Y := {}) (N := 41) (rs := [.tmp 4]) mix tk hG Tryz.func108 rfl (by kernel_rfl) rfl rfl (by simp) (by kernel_rfl) ?_
  simp (maxSteps := 10000000) only [↓sx, sx, ↓ty]
  refine loopK_of (fun s : Nat × Nat => [(0, .p (nP s.1)), (1, .p (nP s.2))]) (fun _ => []) (fun _ => []) (fun s => Lw s.1 < 1000000 ∧ Lw s.2 < 1000000 ∧ Nat.gcd s.1 s.2 = Nat.gcd a b) (fun s => s.2) (a, b) ⟨ha, hb, rfl⟩ ?_ ?_
  · simp (maxSteps := 10000000) only [isE_nil, is_cons, bo_p, all_nil', ↓sx, sx, ↓reduceIte, Nat.reduceEqDiff]
  · rintro ⟨x, y⟩ ⟨h1, h2, h3⟩
    dsimp only at h1 h2 h3 ⊢
    simp (maxSteps := 10000000) only [↓sx, sx, ↓ty, ↓reduceIte, Nat.reduceEqDiff, Nat.reduceLT, nP_c, len_Lw]
    refine vcIf_dec (fun hy => ?_) (fun hy => ?_)
    · have hy0 : y ≠ 0 := by intro h; rw [(Lw_zero_iff y).2 h] at hy; simp at hy
      have hm : x % y < y := Nat.mod_lt _ (by omega)
      have hg : Nat.gcd y (x % y) = Nat.gcd a b := by rw [← h3, Nat.gcd_comm x y, Nat.gcd_rec y x, Nat.gcd_comm]
      have hLm : Lw (x % y) < 1000000 := by have := Lw_mono (Nat.le_of_lt hm); omega
      refine vcIf_dec (fun hx2 => ?_) (fun hx2 => ?_)
      · refine vcIf_dec (fun hy2 => ?_) (fun hy2 => ?_)
        · have bx := Lw_two (a := x) (by omega)
          have by_ := Lw_two (a := y) (by omega)
          refine CallT.mk (word_n hG x (by omega)) ?_
          simp (maxSteps := 10000000) only [↓sx, sx, ↓reduceIte, Nat.reduceEqDiff]
          refine CallT.mk (word_n hG y (by omega)) ?_
          simp (maxSteps := 10000000) only [↓sx, sx, ↓reduceIte, Nat.reduceEqDiff]
          refine loopK_of (fun s : Nat × Nat => [(5, .p (.val (.int .u64 (s.1 : Nat)))), (6, .p (.val (.int .u64 (s.2 : Nat))))]) (fun _ => []) (fun _ => []) (fun s => s.1 < 1000000000000000000 ∧ s.2 < 1000000000000000000 ∧ Nat.gcd s.1 s.2 = Nat.gcd a b) (fun s => s.2) (x, y) ⟨bx, by_, h3⟩ ?_ ?_
          · simp (maxSteps := 10000000) only [isE_nil, is_cons, bo_p, all_nil', ↓sx, sx, ↓reduceIte, Nat.reduceEqDiff]
          · rintro ⟨p, q⟩ ⟨k1, k2, k3⟩
            dsimp only at k1 k2 k3 ⊢
            simp (maxSteps := 10000000) only [↓sx, sx, ↓reduceIte, Nat.reduceEqDiff]
            refine vcIf_b (fun hq => ?_) (fun hq => ?_)
            · have hq : q ≠ 0 := by simpa using hq
              have hpq : p % q < q := Nat.mod_lt _ (by omega)
              have e1 : Int.tmod (p : Int) (q : Int) = ((p % q : Nat) : Int) := by rw [tmod_pos (by omega), Int.natCast_emod]
              refine ⟨by omega, NextK.mk (q, p % q) hpq ⟨k2, by dsimp only; omega, by dsimp only; rw [← k3, Nat.gcd_comm p q, Nat.gcd_rec q p, Nat.gcd_comm]⟩ ?_⟩
              simp (maxSteps := 10000000) only [isE_nil, is_cons, bo_p, all_nil', ↓sx, sx, ↓reduceIte, Nat.reduceEqDiff, e1]
            · have hq : q = 0 := by simpa using hq
              subst hq
              rw [Nat.gcd_zero_right] at k3
              refine CallT.mk (wide_n hG p k1) ?_
              simp (maxSteps := 10000000) only [↓sx, sx, ↓reduceIte, nP_c]
              rw [k3]; rfl
        · refine CallT.mk (over_n hG x y h1 h2 (by omega)) ?_
          simp (maxSteps := 10000000) only [↓sx, sx, ↓reduceIte, Nat.reduceEqDiff, nP_c, len_Lw]
          refine NextK.mk (y, x % y) hm ⟨h2, hLm, hg⟩ ?_
          simp (maxSteps := 10000000) only [isE_nil, is_cons, bo_p, all_nil', ↓sx, sx, ↓reduceIte, Nat.reduceEqDiff]
      · refine CallT.mk (over_n hG x y h1 h2 (by omega)) ?_
        simp (maxSteps := 10000000) only [↓sx, sx, ↓reduceIte, Nat.reduceEqDiff, nP_c, len_Lw]
        refine NextK.mk (y, x % y) hm ⟨h2, hLm, hg⟩ ?_
        simp (maxSteps := 10000000) only [isE_nil, is_cons, bo_p, all_nil', ↓sx, sx, ↓reduceIte, Nat.reduceEqDiff]
    · have hy0 : y = 0 := (Lw_zero_iff y).1 (by omega)
      subst hy0
      rw [Nat.gcd_zero_right] at h3
      rw [h3]
end Go.Proofs.YtfbmphbmidlijaaGreatDoor.S
namespace Go.Proofs.YtfbmphbmidlijaaGreatDoor.S
open Go Go.Sx Go.RowKit Gb
variable {G : World → Prop} (hG : ∀ w w', G w → Below w.heap.size w w' → G w')
include hG
set_option maxRecDepth 100000 in
set_option maxHeartbeats 20000000 in
theorem ngcd_n (a b : Nat) (ha : Lw a < 1000000) (hb : Lw b < 1000000) : Meets Tryz.prog G 93 [nP a, nP b] (nP (Nat.gcd a b)) := by
  refine meets_of_vc (Y := {}) (N := 45) (rs := [.tmp 4]) mix tk hG Tryz.func93 rfl (by kernel_rfl) rfl rfl (by simp) (by kernel_rfl) ?_
  simp (maxSteps := 10000000) only [↓sx, sx, ↓ty]
  refine loopK_of (fun s : Nat × Nat => [(0, .p (nP s.1)), (1, .p (nP s.2))]) (fun _ => []) (fun _ => []) (fun s => Lw s.1 < 1000000 ∧ Lw s.2 < 1000000 ∧ Nat.gcd s.1 s.2 = Nat.gcd a b) (fun s => s.2) (a, b) ⟨ha, hb, rfl⟩ ?_ ?_
  · simp (maxSteps := 10000000) only [isE_nil, is_cons, bo_p, all_nil', ↓sx, sx, ↓reduceIte, Nat.reduceEqDiff]
  · rintro ⟨x, y⟩ ⟨h1, h2, h3⟩
    dsimp only at h1 h2 h3 ⊢
    simp (maxSteps := 10000000) only [↓sx, sx, ↓ty, ↓reduceIte, Nat.reduceEqDiff, nP_c, len_Lw]
    refine vcIf_dec (fun hy => ?_) (fun hy => ?_)
    · have hy0 : y ≠ 0 := by intro h; rw [(Lw_zero_iff y).2 h] at hy; simp at hy
      have hm : x % y < y := Nat.mod_lt _ (by omega)
      have hg : Nat.gcd y (x % y) = Nat.gcd a b := by rw [← h3, Nat.gcd_comm x y, Nat.gcd_rec y x, Nat.gcd_comm]
      have hLm : Lw (x % y) < 1000000 := by have := Lw_mono (Nat.le_of_lt hm); omega
      refine CallT.mk (nsmall_n hG x (by omega)) ?_
      simp (maxSteps := 10000000) only [↓sx, sx, ↓reduceIte, Nat.reduceEqDiff]
      refine CallT.mk (nsmall_n hG y (by omega)) ?_
      simp (maxSteps := 10000000) only [↓sx, sx, ↓reduceIte, Nat.reduceEqDiff, Nat.reduceLT]
      refine vcIf_dec (fun hx2 => ?_) (fun hx2 => ?_)
      · refine vcIf_dec (fun hy2 => ?_) (fun hy2 => ?_)
        · have bx := Lw_two (a := x) hx2
          have by_ := Lw_two (a := y) hy2
          rw [if_pos hx2, if_pos hy2]
          refine loopK_of (fun s : Nat × Nat => [(5, .p (.val (.int .u64 (s.1 : Nat)))), (7, .p (.val (.int .u64 (s.2 : Nat))))]) (fun _ => []) (fun _ => []) (fun s => s.1 < 1000000000000000000 ∧ s.2 < 1000000000000000000 ∧ Nat.gcd s.1 s.2 = Nat.gcd a b) (fun s => s.2) (x, y) ⟨bx, by_, h3⟩ ?_ ?_
          · simp (maxSteps := 10000000) only [isE_nil, is_cons, bo_p, all_nil', ↓sx, sx, ↓reduceIte, Nat.reduceEqDiff]
          · rintro ⟨p, q⟩ ⟨k1, k2, k3⟩
            dsimp only at k1 k2 k3 ⊢
            simp (maxSteps := 10000000) only [↓sx, sx, ↓reduceIte, Nat.reduceEqDiff]
            refine vcIf_dec (fun hq => ?_) (fun hq => ?_)
            · have hpq : p % q < q := Nat.mod_lt _ (by omega)
              have e1 : Int.tmod (p : Int) (q : Int) = ((p % q : Nat) : Int) := by rw [tmod_pos (by omega), Int.natCast_emod]
              refine ⟨by omega, NextK.mk (q, p % q) hpq ⟨k2, by dsimp only; omega, by dsimp only; rw [← k3, Nat.gcd_comm p q, Nat.gcd_rec q p, Nat.gcd_comm]⟩ ?_⟩
              simp (maxSteps := 10000000) only [isE_nil, is_cons, bo_p, all_nil', ↓sx, sx, ↓reduceIte, Nat.reduceEqDiff, e1]
            · have hq : q = 0 := by omega
              subst hq
              rw [Nat.gcd_zero_right] at k3
              refine CallT.mk (nof_n hG p k1) ?_
              simp (maxSteps := 10000000) only [↓sx, sx, ↓reduceIte, nP_c]
              rw [k3]; rfl
        · refine CallT.mk (ndivide_n hG x y h1 h2 (by omega)) ?_
          simp (maxSteps := 10000000) only [↓sx, sx, ↓reduceIte, Nat.reduceEqDiff, nP_c, len_Lw]
          refine NextK.mk (y, x % y) hm ⟨h2, hLm, hg⟩ ?_
          simp (maxSteps := 10000000) only [isE_nil, is_cons, bo_p, all_nil', ↓sx, sx, ↓reduceIte, Nat.reduceEqDiff]
      · refine CallT.mk (ndivide_n hG x y h1 h2 (by omega)) ?_
        simp (maxSteps := 10000000) only [↓sx, sx, ↓reduceIte, Nat.reduceEqDiff, nP_c, len_Lw]
        refine NextK.mk (y, x % y) hm ⟨h2, hLm, hg⟩ ?_
        simp (maxSteps := 10000000) only [isE_nil, is_cons, bo_p, all_nil', ↓sx, sx, ↓reduceIte, Nat.reduceEqDiff]
    · have hy0 : y = 0 := (Lw_zero_iff y).1 (by omega)
      subst hy0
      rw [Nat.gcd_zero_right] at h3
      rw [h3]
end Go.Proofs.YtfbmphbmidlijaaGreatDoor.S
namespace Go.Proofs.YtfbmphbmidlijaaGreatDoor.T
open Go.RowKit Go.Shelf
attribute [local go_sem] Oper.semAt_some
theorem add_blk (ad : Addr) (j : Nat) : (ad.add j).block = ad.block := by unfold Addr.add; split <;> rfl
abbrev W9 := Fin 1000000000
def upto {α : Type} (f : Nat → α) (k : Nat) : List α := (List.range k).map f
theorem upto_succ {α : Type} (f : Nat → α) (k : Nat) : upto f (k + 1) = upto f k ++ [f k] := by simp [upto, List.range_succ]
theorem upto_length {α : Type} (f : Nat → α) (k : Nat) : (upto f k).length = k := by simp [upto]
def bk (zs : List W9) (len k : Nat) : Nat × W9 := (len - 1 - k, zs[len - 1 - k]?.getD 0)
def Kq (n₀ Bs : Nat) (W W' : World) : Prop := Below n₀ W W' ∧ ∀ c fz, W.heap[Bs]? = some (.cells c 104 fz) → W'.heap[Bs]? = some (.cells c 104 fz)
theorem Kq.refl (n₀ Bs : Nat) (W : World) : Kq n₀ Bs W W := ⟨Below.refl _ _, fun _ _ h => h⟩
theorem Kq.trans {n₀ Bs : Nat} {A B C : World} (h : Kq n₀ Bs A B) (k : Kq n₀ Bs B C) : Kq n₀ Bs A C := ⟨h.1.trans k.1, fun c fz x => k.2 c fz (h.2 c fz x)⟩
theorem Kq.turn {n₀ Bs : Nat} {w : World} (hn : n₀ ≤ w.heap.size) (hb : Bs < w.heap.size) (W : World) (l : Nat) (o o' : Obj) (hl : w.heap.size ≤ l) (h : W.heap[l]? = some o) (h1 : o.isCells = false) (h2 : o.isWalk = false) : Kq n₀ Bs W (W.putObj l o') :=
  ⟨belowK_b hn W l o o' hl h h1 h2, fun c fz x => ((belowK_b (n₀ := Bs + 1) (by omega) W l o o' hl h h1 h2).block Bs (Nat.lt_succ_self _)).trans x⟩
theorem cell_heap {W : World} {b : Nat} {v : Value} {t : TypeId} {fz : Nat × Nat} (h : W.heap[b]? = some (.cells #[v] t fz)) : W.cell? ⟨b, 0, none⟩ = some v := by
  simp [World.cell?, h]
set_option maxRecDepth 100000 in
set_option maxHeartbeats 2000000 in
theorem back1_in (F : Fence) (n : Nat) (h8 : F.fn 185) (hro : F.round = none) (hn : 1 ≤ n) (l Bs n₀ : Nat) (ad : Addr) (len cap : Nat) (zs : List W9) (hreach : len * 4 ≤ 140737488351232) (hb : ad.block < n₀) (J Jx : List (Nat × W9) → World → Prop)
    (hY : ∀ pre x W, J pre W → pre.length < len → YieldAt F (n - 1) Tryz.prog l #[.int .i64 (x.1 : Int), .int .u32 (x.2.val : Int)] W fun e W' =>
      (e = .returned (.bool true) ∧ J (pre ++ [x]) W' ∧ Kq n₀ Bs W W') ∨ (e = .returned (.bool false) ∧ Jx (pre ++ [x]) W'))
    (W : World) (fz : Nat × Nat) (hBs : W.heap[Bs]? = some (.cells #[.slice (some ad) len cap] 104 fz)) (hc : ∀ j, j < len → W.cell? (ad.add j) = some (.int .u32 ((zs[j]?.getD 0).val : Int))) (h0 : J [] W) :
    CallsIn F n Tryz.prog 185 #[.func (.yield l) #[] #[], .pointer (some ⟨Bs, 0, none⟩)] W fun e W' => (∃ v, e = .returned v) ∧
      ((∃ ys, ys = upto (bk zs len) len ∧ J ys W') ∨ (∃ pre, (∃ k, k ≤ len ∧ pre = upto (bk zs len) k) ∧ Jx pre W')) := by
  refine callsIn_of_wp Tryz.func185 rfl h8 ?_ hro
  simp only [Tryz.ntmps185, List.size_toArray, List.length_cons, List.length_nil, Nat.reduceAdd, Nat.reduceSub, Array.replicate_succ, Array.replicate_zero, List.push_toArray, List.append_toArray, List.nil_append, List.cons_append]
  have hBc := cell_heap hBs
  gi_wp2
  gi_loopw [3] (fun i wr => ∃ m : Nat, m ≤ len ∧ i = .int .i64 ((m : Int) - 1) ∧ J (upto (bk zs len) (len - m)) wr ∧ Kq n₀ Bs W wr)
    (fun i _ => (intOf i + 1).toNat)
  case atStart => exact ⟨len, Nat.le_refl _, by simp, by rw [Nat.sub_self]; exact h0, Kq.refl _ _ _⟩
  case round =>
    obtain ⟨m, hm, rfl, hJs, hnx⟩ := hrel
    have hBs' := cell_heap (hnx.2 _ _ hBs)
    cases m with
    | zero =>
      gi_wp2
      go_end0
      exact ⟨⟨_, rfl⟩, .inl ⟨_, rfl, hJs⟩⟩
    | succ m =>
      have hcx' : wr.cell? (ad.add m) = some (.int .u32 ((zs[m]?.getD 0).val : Int)) := (hnx.1.cell (p := ad.add m) (by rw [add_blk]; exact hb)).trans (hc m (by omega))
      obtain ⟨fn, tmps, assign, body, hy, hR⟩ := hY _ (m, zs[m]?.getD 0) wr hJs (by rw [upto_length]; omega)
      dsimp only at hy
      rw [show (((m + 1 : Nat) : Int) - 1) = (m : Int) by omega]
      gi_wp2
      refine hR.mono ?_
      rintro e W3 (⟨rfl, hJ3, hk3⟩ | ⟨rfl, hJx3⟩)
      · gi_wp2
        go_roundw
        case rel =>
          refine ⟨m, by omega, by simp, ?_, hnx.trans hk3⟩
          rw [show len - m = (len - (m + 1)) + 1 by omega, upto_succ]
          have : bk zs len (len - (m + 1)) = (m, zs[m]?.getD 0) := by unfold bk; rw [show len - 1 - (len - (m + 1)) = m by omega]
          rw [this]; exact hJ3
        case measure => simp [intOf]
      · gi_wp2
        refine bodyPost_ret (results_none rfl _ _ _) rfl ?_
        refine ⟨⟨_, rfl⟩, .inr ⟨_, ⟨(len - (m + 1)) + 1, by omega, rfl⟩, ?_⟩⟩
        have : bk zs len (len - (m + 1)) = (m, zs[m]?.getD 0) := by unfold bk; rw [show len - 1 - (len - (m + 1)) = m by omega]
        rw [upto_succ, this]; exact hJx3
set_option maxRecDepth 100000 in
set_option maxHeartbeats 1000000 in
theorem back1_nil_in (F : Fence) (n : Nat) (h8 : F.fn 185) (hro : F.round = none) (l Bs : Nat) (J : List (Nat × W9) → World → Prop) (W : World) (hBs : W.cell? ⟨Bs, 0, none⟩ = some (.slice none 0 0)) (h0 : J [] W) :
    CallsIn F n Tryz.prog 185 #[.func (.yield l) #[] #[], .pointer (some ⟨Bs, 0, none⟩)] W fun e W' => (∃ v, e = .returned v) ∧ J [] W' := by
  refine callsIn_of_wp Tryz.func185 rfl h8 ?_ hro
  simp only [Tryz.ntmps185, List.size_toArray, List.length_cons, List.length_nil, Nat.reduceAdd, Nat.reduceSub, Array.replicate_succ, Array.replicate_zero, List.push_toArray, List.append_toArray, List.nil_append, List.cons_append]
  gi_wp2
  gi_loopw [3] (fun i wr => i = .int .i64 (-1) ∧ J [] wr) (fun _ _ => 0)
  case atStart => exact ⟨by first | rfl | simp, h0⟩
  case round =>
    obtain ⟨rfl, hJs⟩ := hrel
    gi_wp2
    go_end0
    exact ⟨⟨_, rfl⟩, hJs⟩
set_option maxHeartbeats 1000000 in
theorem back_in (F : Fence) (n : Nat) (h6 : F.fn 149) (hro : F.round = none) (a : Option Addr) (len cap : Nat) (w : World) :
    CallsIn F n Tryz.prog 149 #[.slice a len cap] w fun e w' => e = .returned (.func (.func 185) #[] #[.pointer (some ⟨w.heap.size, 0, none⟩)]) ∧ w' = w.alloc (.cells #[.slice a len cap] 104) := by
  refine callsIn_of_wp Tryz.func149 rfl h6 ?_ hro
  simp only [Tryz.ntmps149, List.size_toArray, List.length_cons, List.length_nil, Nat.reduceAdd, Nat.reduceSub, Array.replicate_succ, Array.replicate_zero, List.push_toArray, List.append_toArray, List.nil_append, List.cons_append]
  gi_wp2
  go_ret
  exact ⟨rfl, rfl⟩
def Ints (n₀ : Nat) (w : World) (sv : Value) (zs : List W9) : Prop :=
  (zs = [] ∧ sv = .slice none 0 0) ∨ ∃ ad cap, sv = .slice (some ad) zs.length cap ∧ ad.block < n₀ ∧ ∀ j, j < zs.length → w.cell? (ad.add j) = some (.int .u32 ((zs[j]?.getD 0).val : Int))
theorem Ints.below {n₀ : Nat} {w w' : World} {sv : Value} {zs : List W9} (h : Ints n₀ w sv zs) (hB : Below n₀ w w') : Ints n₀ w' sv zs := by
  rcases h with h | ⟨ad, cap, rfl, hb, hc⟩
  · exact .inl h
  · exact .inr ⟨ad, cap, rfl, hb, fun j hj => (hB.cell (p := ad.add j) (by rw [add_blk]; exact hb)).trans (hc j hj)⟩
theorem back_stops (F : Fence) (n : Nat) (h8 : F.fn 185) (hro : F.round = none) (hn : 1 ≤ n) (Bs n₀ : Nat) (sv : Value) (zs : List W9) (hreach : zs.length * 4 ≤ 140737488351232) (w : World) (hBs : Bs < w.heap.size) (hn₀ : n₀ ≤ w.heap.size) (fz : Nat × Nat)
    (hc : w.heap[Bs]? = some (.cells #[sv] 104 fz)) (hI : Ints n₀ w sv zs) :
    SeqStopsK F n Tryz.prog 185 #[.pointer (some ⟨Bs, 0, none⟩)] (fun x : Nat × W9 => #[Value.int .i64 (x.1 : Int), Value.int .u32 (x.2.val : Int)]) (Kq n₀ Bs) (fun ys => ys = upto (bk zs zs.length) zs.length)
      (fun pre => ∃ k, k ≤ zs.length ∧ pre = upto (bk zs zs.length) k) zs.length w := fun l J Jx W hW _ _ hY h0 => by
  have hc' := (hW.block Bs hBs).trans hc
  rcases hI.below (hW.mono hn₀) with ⟨rfl, rfl⟩ | ⟨ad, cap, rfl, hb, hcs⟩
  · exact (back1_nil_in F n h8 hro l Bs J W (cell_heap hc') h0).mono fun e W' ⟨he, hj⟩ => ⟨he, .inl ⟨_, rfl, hj⟩⟩
  · exact back1_in F n h8 hro hn l Bs n₀ ad zs.length cap zs hreach hb J Jx hY W fz hc' hcs h0
end Go.Proofs.YtfbmphbmidlijaaGreatDoor.T
