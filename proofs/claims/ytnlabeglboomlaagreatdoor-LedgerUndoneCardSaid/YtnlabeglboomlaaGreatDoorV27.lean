/- A part of a proof; the last text of this claim says of what. -/
import Derived.Test.YtnlabeglboomlaaGreatDoorV26
import Derived.Test.YtnlabeglboomlaaGreatDoorProg
import Derived.KernelRfl
import Derived.Lib.ItoaNum
set_option linter.unusedVariables false
set_option linter.unusedSimpArgs false
set_option linter.unusedSectionVars false
namespace Go.Proofs.YtnlabeglboomlaaGreatDoor.S
open Go Go.Sx
set_option maxRecDepth 100000
def tab : TT := (.node (.node (.node (.node (.node (.node (.node (.node .nil 1 ⟨1, false, .func, [.val .nilFunc], [], 8⟩
 .nil) 2 ⟨1, false, .int .i64, [.val (.int .i64 0)], [], 8⟩
 (.node .nil 3 ⟨1, false, .int .i64, [.val (.int .i64 0)], [], 8⟩
 .nil)) 4 ⟨1, false, .bool, [.val (.bool false)], [], 1⟩
 (.node (.node .nil 5 ⟨1, false, .int .u8, [.val (.int .u8 0)], [], 1⟩
 .nil) 6 ⟨1, false, .int .u8, [.val (.int .u8 0)], [], 1⟩
 (.node .nil 7 ⟨4, true, .struct [(0, 2), (1, 3), (2, 4), (3, 6)], [.val (.int .i64 0), .val (.int .i64 0), .val (.bool false), .val (.int .u8 0)], [], 24⟩
 .nil))) 8 ⟨4, true, .struct [(0, 2), (1, 3), (2, 4), (3, 6)], [.val (.int .i64 0), .val (.int .i64 0), .val (.bool false), .val (.int .u8 0)], [], 24⟩
 (.node (.node (.node .nil 9 ⟨1, false, .string, [.val (.string ⟨#[]⟩)], [], 16⟩
 .nil) 10 ⟨1, false, .string, [.val (.string ⟨#[]⟩)], [], 16⟩
 (.node .nil 11 ⟨1, false, .string, [.val (.string ⟨#[]⟩)], [], 16⟩
 .nil)) 12 ⟨1, false, .int .u64, [.val (.int .u64 0)], [], 8⟩
 (.node (.node .nil 13 ⟨2, true, .struct [(0, 9), (1, 12)], [.val (.string ⟨#[]⟩), .val (.int .u64 0)], [], 24⟩
 .nil) 14 ⟨2, true, .struct [(0, 9), (1, 12)], [.val (.string ⟨#[]⟩), .val (.int .u64 0)], [], 24⟩
 (.node .nil 18 ⟨1, true, .struct [(0, 17)], [.val (.pointer none)], [], 8⟩
 .nil)))) 19 ⟨1, true, .struct [(0, 17)], [.val (.pointer none)], [], 8⟩
 (.node (.node (.node (.node .nil 21 ⟨1, false, .int .i32, [.val (.int .i32 0)], [], 4⟩
 .nil) 22 ⟨1, false, .slice 34, [.sl 0 []], [], 24⟩
 (.node .nil 23 ⟨1, false, .string, [.val (.string ⟨#[]⟩)], [], 16⟩
 .nil)) 24 ⟨1, false, .func, [.val .nilFunc], [], 8⟩
 (.node (.node .nil 25 ⟨1, false, .func, [.val .nilFunc], [], 8⟩
 .nil) 26 ⟨1, false, .func, [.val .nilFunc], [], 8⟩
 (.node .nil 27 ⟨3, true, .struct [(0, 23), (1, 23), (2, 23)], [.val (.string ⟨#[]⟩), .val (.string ⟨#[]⟩), .val (.string ⟨#[]⟩)], [], 48⟩
 .nil))) 28 ⟨3, true, .struct [(0, 23), (1, 23), (2, 23)], [.val (.string ⟨#[]⟩), .val (.string ⟨#[]⟩), .val (.string ⟨#[]⟩)], [.string, .string, .string], 48⟩
 (.node (.node (.node .nil 29 ⟨1, false, .int .i64, [.val (.int .i64 0)], [], 8⟩
 .nil) 31 ⟨1, false, .func, [.val .nilFunc], [], 8⟩
 (.node .nil 32 ⟨1, false, .func, [.val .nilFunc], [], 8⟩
 .nil)) 33 ⟨7, true, .struct [(0, 9), (1, 23), (2, 28), (5, 23), (6, 23)], [.val (.string ⟨#[]⟩), .val (.string ⟨#[]⟩), .val (.string ⟨#[]⟩), .val (.string ⟨#[]⟩), .val (.string ⟨#[]⟩), .val (.string ⟨#[]⟩), .val (.string ⟨#[]⟩)], [], 112⟩
 (.node (.node .nil 34 ⟨7, true, .struct [(0, 9), (1, 23), (2, 28), (5, 23), (6, 23)], [.val (.string ⟨#[]⟩), .val (.string ⟨#[]⟩), .val (.string ⟨#[]⟩), .val (.string ⟨#[]⟩), .val (.string ⟨#[]⟩), .val (.string ⟨#[]⟩), .val (.string ⟨#[]⟩)], [.string, .string, .string, .string, .string, .string, .string], 112⟩
 .nil) 36 ⟨1, false, .func, [.val .nilFunc], [], 8⟩
 .nil)))) 38 ⟨1, false, .func, [.val .nilFunc], [], 8⟩
 (.node (.node (.node (.node (.node .nil 39 ⟨1, false, .func, [.val .nilFunc], [], 8⟩
 .nil) 40 ⟨1, false, .func, [.val .nilFunc], [], 8⟩
 (.node .nil 41 ⟨1, false, .slice 95, [.sl 0 []], [], 24⟩
 .nil)) 42 ⟨1, false, .slice 95, [.sl 0 []], [], 24⟩
 (.node (.node .nil 43 ⟨2, true, .struct [(0, 4), (1, 42)], [.val (.bool false), .sl 0 []], [], 32⟩
 .nil) 44 ⟨2, true, .struct [(0, 4), (1, 42)], [.val (.bool false), .sl 0 []], [], 32⟩
 (.node .nil 45 ⟨3, true, .struct [(0, 44), (2, 42)], [.val (.bool false), .sl 0 [], .sl 0 []], [], 56⟩
 .nil))) 46 ⟨3, true, .struct [(0, 44), (2, 42)], [.val (.bool false), .sl 0 [], .sl 0 []], [], 56⟩
 (.node (.node (.node .nil 48 ⟨1, false, .func, [.val .nilFunc], [], 8⟩
 .nil) 50 ⟨1, false, .func, [.val .nilFunc], [], 8⟩
 (.node .nil 51 ⟨1, false, .func, [.val .nilFunc], [], 8⟩
 .nil)) 52 ⟨1, false, .func, [.val .nilFunc], [], 8⟩
 (.node (.node .nil 53 ⟨1, false, .func, [.val .nilFunc], [], 8⟩
 .nil) 54 ⟨1, false, .func, [.val .nilFunc], [], 8⟩
 (.node .nil 56 ⟨1, false, .func, [.val .nilFunc], [], 8⟩
 .nil)))) 57 ⟨1, false, .func, [.val .nilFunc], [], 8⟩
 (.node (.node (.node (.node .nil 58 ⟨1, false, .func, [.val .nilFunc], [], 8⟩
 .nil) 59 ⟨1, false, .func, [.val .nilFunc], [], 8⟩
 (.node .nil 60 ⟨1, false, .func, [.val .nilFunc], [], 8⟩
 .nil)) 61 ⟨1, false, .func, [.val .nilFunc], [], 8⟩
 (.node (.node .nil 62 ⟨9, true, .struct [(0, 46), (3, 46), (6, 46)], [.val (.bool false), .sl 0 [], .sl 0 [], .val (.bool false), .sl 0 [], .sl 0 [], .val (.bool false), .sl 0 [], .sl 0 []], [], 168⟩
 .nil) 63 ⟨9, true, .struct [(0, 46), (3, 46), (6, 46)], [.val (.bool false), .sl 0 [], .sl 0 [], .val (.bool false), .sl 0 [], .sl 0 [], .val (.bool false), .sl 0 [], .sl 0 []], [], 168⟩
 (.node .nil 65 ⟨1, false, .func, [.val .nilFunc], [], 8⟩
 .nil))) 66 ⟨1, false, .func, [.val .nilFunc], [], 8⟩
 (.node (.node (.node .nil 67 ⟨1, false, .func, [.val .nilFunc], [], 8⟩
 .nil) 68 ⟨1, false, .func, [.val .nilFunc], [], 8⟩
 (.node .nil 69 ⟨1, false, .func, [.val .nilFunc], [], 8⟩
 .nil)) 70 ⟨1, false, .func, [.val .nilFunc], [], 8⟩
 (.node (.node .nil 71 ⟨1, false, .func, [.val .nilFunc], [], 8⟩
 .nil) 72 ⟨1, false, .func, [.val .nilFunc], [], 8⟩
 .nil))))) 73 ⟨1, false, .func, [.val .nilFunc], [], 8⟩
 (.node (.node (.node (.node (.node (.node .nil 74 ⟨1, false, .func, [.val .nilFunc], [], 8⟩
 .nil) 75 ⟨1, false, .func, [.val .nilFunc], [], 8⟩
 (.node .nil 76 ⟨1, false, .func, [.val .nilFunc], [], 8⟩
 .nil)) 78 ⟨1, false, .func, [.val .nilFunc], [], 8⟩
 (.node (.node .nil 79 ⟨1, false, .func, [.val .nilFunc], [], 8⟩
 .nil) 80 ⟨1, false, .func, [.val .nilFunc], [], 8⟩
 (.node .nil 82 ⟨1, false, .func, [.val .nilFunc], [], 8⟩
 .nil))) 83 ⟨1, false, .func, [.val .nilFunc], [], 8⟩
 (.node (.node (.node .nil 84 ⟨1, false, .func, [.val .nilFunc], [], 8⟩
 .nil) 85 ⟨1, false, .func, [.val .nilFunc], [], 8⟩
 (.node .nil 86 ⟨1, false, .map 9, [.val (.map none)], [], 8⟩
 .nil)) 87 ⟨1, false, .func, [.val .nilFunc], [], 8⟩
 (.node (.node .nil 88 ⟨1, false, .func, [.val .nilFunc], [], 8⟩
 .nil) 90 ⟨1, false, .func, [.val .nilFunc], [], 8⟩
 (.node .nil 91 ⟨1, false, .func, [.val .nilFunc], [], 8⟩
 .nil)))) 92 ⟨1, false, .func, [.val .nilFunc], [], 8⟩
 (.node (.node (.node (.node .nil 93 ⟨1, false, .func, [.val .nilFunc], [], 8⟩
 .nil) 94 ⟨1, false, .func, [.val .nilFunc], [], 8⟩
 (.node .nil 95 ⟨1, false, .int .u32, [.val (.int .u32 0)], [], 4⟩
 .nil)) 96 ⟨1, false, .func, [.val .nilFunc], [], 8⟩
 (.node (.node .nil 97 ⟨1, false, .func, [.val .nilFunc], [], 8⟩
 .nil) 98 ⟨1, false, .func, [.val .nilFunc], [], 8⟩
 (.node .nil 99 ⟨1, false, .func, [.val .nilFunc], [], 8⟩
 .nil))) 100 ⟨1, false, .func, [.val .nilFunc], [], 8⟩
 (.node (.node (.node .nil 101 ⟨1, false, .func, [.val .nilFunc], [], 8⟩
 .nil) 102 ⟨1, false, .func, [.val .nilFunc], [], 8⟩
 (.node .nil 103 ⟨1, false, .func, [.val .nilFunc], [], 8⟩
 .nil)) 104 ⟨1, false, .func, [.val .nilFunc], [], 8⟩
 (.node (.node .nil 105 ⟨1, false, .func, [.val .nilFunc], [], 8⟩
 .nil) 106 ⟨1, false, .func, [.val .nilFunc], [], 8⟩
 .nil)))) 107 ⟨1, false, .func, [.val .nilFunc], [], 8⟩
 (.node (.node (.node (.node (.node .nil 108 ⟨1, false, .func, [.val .nilFunc], [], 8⟩
 .nil) 109 ⟨1, false, .func, [.val .nilFunc], [], 8⟩
 (.node .nil 110 ⟨1, false, .func, [.val .nilFunc], [], 8⟩
 .nil)) 111 ⟨1, false, .func, [.val .nilFunc], [], 8⟩
 (.node (.node .nil 112 ⟨1, false, .func, [.val .nilFunc], [], 8⟩
 .nil) 113 ⟨2, true, .struct [(0, 9), (1, 9)], [.val (.string ⟨#[]⟩), .val (.string ⟨#[]⟩)], [], 32⟩
 (.node .nil 114 ⟨2, true, .struct [(0, 9), (1, 9)], [.val (.string ⟨#[]⟩), .val (.string ⟨#[]⟩)], [.string, .string], 32⟩
 .nil))) 116 ⟨1, false, .func, [.val .nilFunc], [], 8⟩
 (.node (.node (.node .nil 118 ⟨1, false, .func, [.val .nilFunc], [], 8⟩
 .nil) 119 ⟨1, false, .func, [.val .nilFunc], [], 8⟩
 (.node .nil 120 ⟨1, false, .func, [.val .nilFunc], [], 8⟩
 .nil)) 121 ⟨1, false, .func, [.val .nilFunc], [], 8⟩
 (.node (.node .nil 122 ⟨1, false, .func, [.val .nilFunc], [], 8⟩
 .nil) 123 ⟨1, false, .func, [.val .nilFunc], [], 8⟩
 (.node .nil 124 ⟨1, false, .int .u64, [.val (.int .u64 0)], [], 8⟩
 .nil)))) 125 ⟨1, false, .func, [.val .nilFunc], [], 8⟩
 (.node (.node (.node (.node .nil 126 ⟨1, false, .func, [.val .nilFunc], [], 8⟩
 .nil) 128 ⟨1, false, .func, [.val .nilFunc], [], 8⟩
 (.node .nil 129 ⟨1, false, .func, [.val .nilFunc], [], 8⟩
 .nil)) 130 ⟨1, false, .func, [.val .nilFunc], [], 8⟩
 (.node (.node .nil 131 ⟨1, false, .func, [.val .nilFunc], [], 8⟩
 .nil) 132 ⟨3, true, .array 3 23, [.val (.string ⟨#[]⟩), .val (.string ⟨#[]⟩), .val (.string ⟨#[]⟩)], [], 48⟩
 (.node .nil 133 ⟨3, true, .struct [(0, 28)], [.val (.string ⟨#[]⟩), .val (.string ⟨#[]⟩), .val (.string ⟨#[]⟩)], [], 48⟩
 .nil))) 134 ⟨3, true, .struct [(0, 28)], [.val (.string ⟨#[]⟩), .val (.string ⟨#[]⟩), .val (.string ⟨#[]⟩)], [.string, .string, .string], 48⟩
 (.node (.node (.node .nil 135 ⟨1, false, .func, [.val .nilFunc], [], 8⟩
 .nil) 136 ⟨1, false, .func, [.val .nilFunc], [], 8⟩
 (.node .nil 137 ⟨1, false, .func, [.val .nilFunc], [], 8⟩
 .nil)) 138 ⟨1, false, .func, [.val .nilFunc], [], 8⟩
 (.node (.node .nil 139 ⟨1, false, .slice 5, [.sl 0 []], [], 24⟩
 .nil) 140 ⟨1, false, .func, [.val .nilFunc], [], 8⟩
 .nil)))))) 142 ⟨1, false, .func, [.val .nilFunc], [], 8⟩
 (.node (.node (.node (.node (.node (.node (.node .nil 143 ⟨1, false, .func, [.val .nilFunc], [], 8⟩
 .nil) 145 ⟨1, false, .func, [.val .nilFunc], [], 8⟩
 (.node .nil 146 ⟨1, false, .func, [.val .nilFunc], [], 8⟩
 .nil)) 147 ⟨1, false, .func, [.val .nilFunc], [], 8⟩
 (.node (.node .nil 148 ⟨1, false, .func, [.val .nilFunc], [], 8⟩
 .nil) 149 ⟨256, true, .array 256 4, List.replicate 256 (.val (.bool false)), [], 256⟩
 (.node .nil 150 ⟨256, true, .array 256 4, List.replicate 256 (.val (.bool false)), [], 256⟩
 .nil))) 152 ⟨1, false, .func, [.val .nilFunc], [], 8⟩
 (.node (.node (.node .nil 153 ⟨1, false, .func, [.val .nilFunc], [], 8⟩
 .nil) 155 ⟨1, false, .func, [.val .nilFunc], [], 8⟩
 (.node .nil 157 ⟨1, false, .func, [.val .nilFunc], [], 8⟩
 .nil)) 158 ⟨1, false, .func, [.val .nilFunc], [], 8⟩
 (.node (.node .nil 159 ⟨1, false, .func, [.val .nilFunc], [], 8⟩
 .nil) 160 ⟨1, false, .map 5, [.val (.map none)], [], 8⟩
 (.node .nil 161 ⟨1, false, .func, [.val .nilFunc], [], 8⟩
 .nil)))) 162 ⟨1, false, .func, [.val .nilFunc], [], 8⟩
 (.node (.node (.node (.node .nil 163 ⟨1, false, .slice 28, [.sl 0 []], [], 24⟩
 .nil) 164 ⟨2, true, .struct [(0, 4), (1, 9)], [.val (.bool false), .val (.string ⟨#[]⟩)], [], 24⟩
 (.node .nil 165 ⟨2, true, .struct [(0, 4), (1, 9)], [.val (.bool false), .val (.string ⟨#[]⟩)], [.bool, .string], 24⟩
 .nil)) 167 ⟨1, false, .func, [.val .nilFunc], [], 8⟩
 (.node (.node .nil 168 ⟨1, false, .func, [.val .nilFunc], [], 8⟩
 .nil) 169 ⟨1, false, .func, [.val .nilFunc], [], 8⟩
 (.node .nil 171 ⟨1, false, .func, [.val .nilFunc], [], 8⟩
 .nil))) 172 ⟨1, false, .func, [.val .nilFunc], [], 8⟩
 (.node (.node (.node .nil 173 ⟨1, false, .func, [.val .nilFunc], [], 8⟩
 .nil) 174 ⟨1, false, .func, [.val .nilFunc], [], 8⟩
 (.node .nil 175 ⟨1, false, .func, [.val .nilFunc], [], 8⟩
 .nil)) 177 ⟨1, false, .func, [.val .nilFunc], [], 8⟩
 (.node (.node .nil 178 ⟨1, false, .func, [.val .nilFunc], [], 8⟩
 .nil) 179 ⟨1, false, .func, [.val .nilFunc], [], 8⟩
 .nil)))) 181 ⟨1, false, .func, [.val .nilFunc], [], 8⟩
 (.node (.node (.node (.node (.node .nil 183 ⟨1, false, .func, [.val .nilFunc], [], 8⟩
 .nil) 184 ⟨1, false, .slice 95, [.sl 0 []], [], 24⟩
 (.node .nil 186 ⟨1, false, .func, [.val .nilFunc], [], 8⟩
 .nil)) 187 ⟨1, false, .func, [.val .nilFunc], [], 8⟩
 (.node (.node .nil 188 ⟨1, false, .func, [.val .nilFunc], [], 8⟩
 .nil) 189 ⟨1, false, .func, [.val .nilFunc], [], 8⟩
 (.node .nil 190 ⟨1, false, .func, [.val .nilFunc], [], 8⟩
 .nil))) 191 ⟨2, true, .array 2 190, [.val .nilFunc, .val .nilFunc], [], 16⟩
 (.node (.node (.node .nil 192 ⟨4, true, .array 2 191, [.val .nilFunc, .val .nilFunc, .val .nilFunc, .val .nilFunc], [], 32⟩
 .nil) 193 ⟨1, false, .func, [.val .nilFunc], [], 8⟩
 (.node .nil 194 ⟨1, false, .func, [.val .nilFunc], [], 8⟩
 .nil)) 195 ⟨1, false, .func, [.val .nilFunc], [], 8⟩
 (.node (.node .nil 196 ⟨1, false, .func, [.val .nilFunc], [], 8⟩
 .nil) 197 ⟨1, false, .func, [.val .nilFunc], [], 8⟩
 (.node .nil 198 ⟨1, false, .int .u64, [.val (.int .u64 0)], [], 8⟩
 .nil)))) 199 ⟨1, false, .func, [.val .nilFunc], [], 8⟩
 (.node (.node (.node (.node .nil 201 ⟨1, false, .func, [.val .nilFunc], [], 8⟩
 .nil) 202 ⟨1, false, .func, [.val .nilFunc], [], 8⟩
 (.node .nil 204 ⟨1, false, .func, [.val .nilFunc], [], 8⟩
 .nil)) 205 ⟨256, true, .array 256 5, List.replicate 256 (.val (.int .u8 0)), [], 256⟩
 (.node (.node .nil 206 ⟨2, true, .struct [(0, 5), (1, 5)], [.val (.int .u8 0), .val (.int .u8 0)], [], 2⟩
 .nil) 207 ⟨2, true, .struct [(0, 5), (1, 5)], [.val (.int .u8 0), .val (.int .u8 0)], [], 2⟩
 (.node .nil 208 ⟨32, true, .array 16 207, [.val (.int .u8 0), .val (.int .u8 0), .val (.int .u8 0), .val (.int .u8 0), .val (.int .u8 0), .val (.int .u8 0), .val (.int .u8 0), .val (.int .u8 0), .val (.int .u8 0), .val (.int .u8 0), .val (.int .u8 0), .val (.int .u8 0), .val (.int .u8 0), .val (.int .u8 0), .val (.int .u8 0), .val (.int .u8 0), .val (.int .u8 0), .val (.int .u8 0), .val (.int .u8 0), .val (.int .u8 0), .val (.int .u8 0), .val (.int .u8 0), .val (.int .u8 0), .val (.int .u8 0), .val (.int .u8 0), .val (.int .u8 0), .val (.int .u8 0), .val (.int .u8 0), .val (.int .u8 0), .val (.int .u8 0), .val (.int .u8 0), .val (.int .u8 0)], [], 32⟩
 .nil))) 209 ⟨1, false, .func, [.val .nilFunc], [], 8⟩
 (.node (.node (.node .nil 211 ⟨1, false, .func, [.val .nilFunc], [], 8⟩
 .nil) 212 ⟨1, false, .func, [.val .nilFunc], [], 8⟩
 (.node .nil 213 ⟨1, false, .func, [.val .nilFunc], [], 8⟩
 .nil)) 215 ⟨1, false, .func, [.val .nilFunc], [], 8⟩
 (.node (.node .nil 216 ⟨1, false, .func, [.val .nilFunc], [], 8⟩
 .nil) 220 ⟨1, false, .func, [.val .nilFunc], [], 8⟩
 .nil))))) 221 ⟨1, false, .func, [.val .nilFunc], [], 8⟩
 (.node (.node (.node (.node (.node (.node .nil 223 ⟨2, true, .struct [(0, 222), (1, 139)], [.val (.pointer none), .sl 0 []], [], 32⟩
 .nil) 224 ⟨2, true, .struct [(0, 222), (1, 139)], [.val (.pointer none), .sl 0 []], [], 32⟩
 (.node .nil 225 ⟨1, false, .func, [.val .nilFunc], [], 8⟩
 .nil)) 226 ⟨1, false, .func, [.val .nilFunc], [], 8⟩
 (.node (.node .nil 227 ⟨1, false, .func, [.val .nilFunc], [], 8⟩
 .nil) 228 ⟨1, false, .func, [.val .nilFunc], [], 8⟩
 (.node .nil 230 ⟨1, false, .func, [.val .nilFunc], [], 8⟩
 .nil))) 231 ⟨1, false, .func, [.val .nilFunc], [], 8⟩
 (.node (.node (.node .nil 232 ⟨1, false, .func, [.val .nilFunc], [], 8⟩
 .nil) 233 ⟨1, false, .func, [.val .nilFunc], [], 8⟩
 (.node .nil 235 ⟨1, false, .func, [.val .nilFunc], [], 8⟩
 .nil)) 236 ⟨1, false, .func, [.val .nilFunc], [], 8⟩
 (.node (.node .nil 238 ⟨1, false, .func, [.val .nilFunc], [], 8⟩
 .nil) 239 ⟨1, false, .func, [.val .nilFunc], [], 8⟩
 (.node .nil 240 ⟨1, false, .func, [.val .nilFunc], [], 8⟩
 .nil)))) 242 ⟨1, false, .func, [.val .nilFunc], [], 8⟩
 (.node (.node (.node (.node .nil 243 ⟨1, false, .func, [.val .nilFunc], [], 8⟩
 .nil) 245 ⟨1, false, .func, [.val .nilFunc], [], 8⟩
 (.node .nil 246 ⟨1, false, .func, [.val .nilFunc], [], 8⟩
 .nil)) 247 ⟨1, false, .func, [.val .nilFunc], [], 8⟩
 (.node (.node .nil 249 ⟨1, false, .func, [.val .nilFunc], [], 8⟩
 .nil) 250 ⟨1, false, .int .i64, [.val (.int .i64 0)], [], 8⟩
 (.node .nil 251 ⟨1, false, .func, [.val .nilFunc], [], 8⟩
 .nil))) 253 ⟨1, false, .func, [.val .nilFunc], [], 8⟩
 (.node (.node (.node .nil 254 ⟨1, false, .func, [.val .nilFunc], [], 8⟩
 .nil) 255 ⟨1, false, .func, [.val .nilFunc], [], 8⟩
 (.node .nil 256 ⟨24, true, .array 24 5, [.val (.int .u8 0), .val (.int .u8 0), .val (.int .u8 0), .val (.int .u8 0), .val (.int .u8 0), .val (.int .u8 0), .val (.int .u8 0), .val (.int .u8 0), .val (.int .u8 0), .val (.int .u8 0), .val (.int .u8 0), .val (.int .u8 0), .val (.int .u8 0), .val (.int .u8 0), .val (.int .u8 0), .val (.int .u8 0), .val (.int .u8 0), .val (.int .u8 0), .val (.int .u8 0), .val (.int .u8 0), .val (.int .u8 0), .val (.int .u8 0), .val (.int .u8 0), .val (.int .u8 0)], [], 24⟩
 .nil)) 257 ⟨1, false, .func, [.val .nilFunc], [], 8⟩
 (.node (.node .nil 258 ⟨1, false, .func, [.val .nilFunc], [], 8⟩
 .nil) 260 ⟨1, false, .func, [.val .nilFunc], [], 8⟩
 .nil)))) 262 ⟨1, false, .func, [.val .nilFunc], [], 8⟩
 (.node (.node (.node (.node (.node .nil 263 ⟨1, false, .func, [.val .nilFunc], [], 8⟩
 .nil) 265 ⟨1, false, .func, [.val .nilFunc], [], 8⟩
 (.node .nil 266 ⟨1, false, .func, [.val .nilFunc], [], 8⟩
 .nil)) 267 ⟨1, false, .func, [.val .nilFunc], [], 8⟩
 (.node (.node .nil 268 ⟨1, false, .func, [.val .nilFunc], [], 8⟩
 .nil) 269 ⟨3, true, .struct [(0, 9), (1, 9), (2, 218)], [.val (.string ⟨#[]⟩), .val (.string ⟨#[]⟩), .val .nilIface], [], 48⟩
 (.node .nil 270 ⟨3, true, .struct [(0, 9), (1, 9), (2, 218)], [.val (.string ⟨#[]⟩), .val (.string ⟨#[]⟩), .val .nilIface], [], 48⟩
 .nil))) 271 ⟨1, false, .func, [.val .nilFunc], [], 8⟩
 (.node (.node (.node .nil 272 ⟨20, true, .array 20 124, [.val (.int .u64 0), .val (.int .u64 0), .val (.int .u64 0), .val (.int .u64 0), .val (.int .u64 0), .val (.int .u64 0), .val (.int .u64 0), .val (.int .u64 0), .val (.int .u64 0), .val (.int .u64 0), .val (.int .u64 0), .val (.int .u64 0), .val (.int .u64 0), .val (.int .u64 0), .val (.int .u64 0), .val (.int .u64 0), .val (.int .u64 0), .val (.int .u64 0), .val (.int .u64 0), .val (.int .u64 0)], [], 160⟩
 .nil) 273 ⟨65, true, .array 65 5, List.replicate 65 (.val (.int .u8 0)), [], 65⟩
 (.node .nil 274 ⟨1, false, .func, [.val .nilFunc], [], 8⟩
 .nil)) 275 ⟨1, false, .func, [.val .nilFunc], [], 8⟩
 (.node (.node .nil 277 ⟨1, true, .struct [(0, 9)], [.val (.string ⟨#[]⟩)], [], 16⟩
 .nil) 278 ⟨1, true, .struct [(0, 9)], [.val (.string ⟨#[]⟩)], [], 16⟩
 .nil))) 279 ⟨1, false, .func, [.val .nilFunc], [], 8⟩
 (.node (.node (.node (.node .nil 280 ⟨32, true, .array 32 5, [.val (.int .u8 0), .val (.int .u8 0), .val (.int .u8 0), .val (.int .u8 0), .val (.int .u8 0), .val (.int .u8 0), .val (.int .u8 0), .val (.int .u8 0), .val (.int .u8 0), .val (.int .u8 0), .val (.int .u8 0), .val (.int .u8 0), .val (.int .u8 0), .val (.int .u8 0), .val (.int .u8 0), .val (.int .u8 0), .val (.int .u8 0), .val (.int .u8 0), .val (.int .u8 0), .val (.int .u8 0), .val (.int .u8 0), .val (.int .u8 0), .val (.int .u8 0), .val (.int .u8 0), .val (.int .u8 0), .val (.int .u8 0), .val (.int .u8 0), .val (.int .u8 0), .val (.int .u8 0), .val (.int .u8 0), .val (.int .u8 0), .val (.int .u8 0)], [], 32⟩
 .nil) 281 ⟨64, true, .array 64 5, [.val (.int .u8 0), .val (.int .u8 0), .val (.int .u8 0), .val (.int .u8 0), .val (.int .u8 0), .val (.int .u8 0), .val (.int .u8 0), .val (.int .u8 0), .val (.int .u8 0), .val (.int .u8 0), .val (.int .u8 0), .val (.int .u8 0), .val (.int .u8 0), .val (.int .u8 0), .val (.int .u8 0), .val (.int .u8 0), .val (.int .u8 0), .val (.int .u8 0), .val (.int .u8 0), .val (.int .u8 0), .val (.int .u8 0), .val (.int .u8 0), .val (.int .u8 0), .val (.int .u8 0), .val (.int .u8 0), .val (.int .u8 0), .val (.int .u8 0), .val (.int .u8 0), .val (.int .u8 0), .val (.int .u8 0), .val (.int .u8 0), .val (.int .u8 0), .val (.int .u8 0), .val (.int .u8 0), .val (.int .u8 0), .val (.int .u8 0), .val (.int .u8 0), .val (.int .u8 0), .val (.int .u8 0), .val (.int .u8 0), .val (.int .u8 0), .val (.int .u8 0), .val (.int .u8 0), .val (.int .u8 0), .val (.int .u8 0), .val (.int .u8 0), .val (.int .u8 0), .val (.int .u8 0), .val (.int .u8 0), .val (.int .u8 0), .val (.int .u8 0), .val (.int .u8 0), .val (.int .u8 0), .val (.int .u8 0), .val (.int .u8 0), .val (.int .u8 0), .val (.int .u8 0), .val (.int .u8 0), .val (.int .u8 0), .val (.int .u8 0), .val (.int .u8 0), .val (.int .u8 0), .val (.int .u8 0), .val (.int .u8 0)], [], 64⟩
 (.node .nil 282 ⟨4, true, .struct [(0, 17), (1, 17), (2, 17), (3, 9)], [.val (.pointer none), .val (.pointer none), .val (.pointer none), .val (.string ⟨#[]⟩)], [], 40⟩
 .nil)) 283 ⟨4, true, .struct [(0, 17), (1, 17), (2, 17), (3, 9)], [.val (.pointer none), .val (.pointer none), .val (.pointer none), .val (.string ⟨#[]⟩)], [], 40⟩
 (.node (.node .nil 284 ⟨0, true, .array 0 16, [], [], 0⟩
 .nil) 285 ⟨0, true, .struct [(0, 284)], [], [], 0⟩
 (.node .nil 286 ⟨0, true, .struct [(0, 284)], [], [], 0⟩
 .nil))) 287 ⟨1, false, .int .u8, [.val (.int .u8 0)], [], 1⟩
 (.node (.node (.node .nil 288 ⟨1, false, .int .u8, [.val (.int .u8 0)], [], 1⟩
 .nil) 289 ⟨1, false, .func, [.val .nilFunc], [], 8⟩
 (.node .nil 290 ⟨1, false, .int .i32, [.val (.int .i32 0)], [], 4⟩
 .nil)) 291 ⟨1, false, .int .i32, [.val (.int .i32 0)], [], 4⟩
 (.node (.node .nil 292 ⟨11, true, .struct [(0, 12), (1, 12), (2, 95), (3, 287), (4, 5), (5, 5), (6, 288), (7, 289), (8, 244), (9, 290), (10, 291)], [.val (.int .u64 0), .val (.int .u64 0), .val (.int .u32 0), .val (.int .u8 0), .val (.int .u8 0), .val (.int .u8 0), .val (.int .u8 0), .val .nilFunc, .val (.pointer none), .val (.int .i32 0), .val (.int .i32 0)], [], 48⟩
 .nil) 293 ⟨11, true, .struct [(0, 12), (1, 12), (2, 95), (3, 287), (4, 5), (5, 5), (6, 288), (7, 289), (8, 244), (9, 290), (10, 291)], [.val (.int .u64 0), .val (.int .u64 0), .val (.int .u32 0), .val (.int .u8 0), .val (.int .u8 0), .val (.int .u8 0), .val (.int .u8 0), .val .nilFunc, .val (.pointer none), .val (.int .i32 0), .val (.int .i32 0)], [], 48⟩
 .nil)))))))
def T : Tab := tab.get
theorem tk : TOk Tryz.prog T := tOk_of (by kernel_rfl)
theorem ty :
  T 1 = some ⟨1, false, .func, [.val .nilFunc], [], 8⟩ ∧
  T 2 = some ⟨1, false, .int .i64, [.val (.int .i64 0)], [], 8⟩ ∧
  T 3 = some ⟨1, false, .int .i64, [.val (.int .i64 0)], [], 8⟩ ∧
  T 4 = some ⟨1, false, .bool, [.val (.bool false)], [], 1⟩ ∧
  T 5 = some ⟨1, false, .int .u8, [.val (.int .u8 0)], [], 1⟩ ∧
  T 6 = some ⟨1, false, .int .u8, [.val (.int .u8 0)], [], 1⟩ ∧
  T 7 = some ⟨4, true, .struct [(0, 2), (1, 3), (2, 4), (3, 6)], [.val (.int .i64 0), .val (.int .i64 0), .val (.bool false), .val (.int .u8 0)], [], 24⟩ ∧
  T 8 = some ⟨4, true, .struct [(0, 2), (1, 3), (2, 4), (3, 6)], [.val (.int .i64 0), .val (.int .i64 0), .val (.bool false), .val (.int .u8 0)], [], 24⟩ ∧
  T 9 = some ⟨1, false, .string, [.val (.string ⟨#[]⟩)], [], 16⟩ ∧
  T 10 = some ⟨1, false, .string, [.val (.string ⟨#[]⟩)], [], 16⟩ ∧
  T 11 = some ⟨1, false, .string, [.val (.string ⟨#[]⟩)], [], 16⟩ ∧
  T 12 = some ⟨1, false, .int .u64, [.val (.int .u64 0)], [], 8⟩ ∧
  T 13 = some ⟨2, true, .struct [(0, 9), (1, 12)], [.val (.string ⟨#[]⟩), .val (.int .u64 0)], [], 24⟩ ∧
  T 14 = some ⟨2, true, .struct [(0, 9), (1, 12)], [.val (.string ⟨#[]⟩), .val (.int .u64 0)], [], 24⟩ ∧
  T 18 = some ⟨1, true, .struct [(0, 17)], [.val (.pointer none)], [], 8⟩ ∧
  T 19 = some ⟨1, true, .struct [(0, 17)], [.val (.pointer none)], [], 8⟩ ∧
  T 21 = some ⟨1, false, .int .i32, [.val (.int .i32 0)], [], 4⟩ ∧
  T 22 = some ⟨1, false, .slice 34, [.sl 0 []], [], 24⟩ ∧
  T 23 = some ⟨1, false, .string, [.val (.string ⟨#[]⟩)], [], 16⟩ ∧
  T 24 = some ⟨1, false, .func, [.val .nilFunc], [], 8⟩ ∧
  T 25 = some ⟨1, false, .func, [.val .nilFunc], [], 8⟩ ∧
  T 26 = some ⟨1, false, .func, [.val .nilFunc], [], 8⟩ ∧
  T 27 = some ⟨3, true, .struct [(0, 23), (1, 23), (2, 23)], [.val (.string ⟨#[]⟩), .val (.string ⟨#[]⟩), .val (.string ⟨#[]⟩)], [], 48⟩ ∧
  T 28 = some ⟨3, true, .struct [(0, 23), (1, 23), (2, 23)], [.val (.string ⟨#[]⟩), .val (.string ⟨#[]⟩), .val (.string ⟨#[]⟩)], [.string, .string, .string], 48⟩ ∧
  T 29 = some ⟨1, false, .int .i64, [.val (.int .i64 0)], [], 8⟩ ∧
  T 31 = some ⟨1, false, .func, [.val .nilFunc], [], 8⟩ ∧
  T 32 = some ⟨1, false, .func, [.val .nilFunc], [], 8⟩ ∧
  T 33 = some ⟨7, true, .struct [(0, 9), (1, 23), (2, 28), (5, 23), (6, 23)], [.val (.string ⟨#[]⟩), .val (.string ⟨#[]⟩), .val (.string ⟨#[]⟩), .val (.string ⟨#[]⟩), .val (.string ⟨#[]⟩), .val (.string ⟨#[]⟩), .val (.string ⟨#[]⟩)], [], 112⟩ ∧
  T 34 = some ⟨7, true, .struct [(0, 9), (1, 23), (2, 28), (5, 23), (6, 23)], [.val (.string ⟨#[]⟩), .val (.string ⟨#[]⟩), .val (.string ⟨#[]⟩), .val (.string ⟨#[]⟩), .val (.string ⟨#[]⟩), .val (.string ⟨#[]⟩), .val (.string ⟨#[]⟩)], [.string, .string, .string, .string, .string, .string, .string], 112⟩ ∧
  T 36 = some ⟨1, false, .func, [.val .nilFunc], [], 8⟩ ∧
  T 38 = some ⟨1, false, .func, [.val .nilFunc], [], 8⟩ ∧
  T 39 = some ⟨1, false, .func, [.val .nilFunc], [], 8⟩ ∧
  T 40 = some ⟨1, false, .func, [.val .nilFunc], [], 8⟩ ∧
  T 41 = some ⟨1, false, .slice 95, [.sl 0 []], [], 24⟩ ∧
  T 42 = some ⟨1, false, .slice 95, [.sl 0 []], [], 24⟩ ∧
  T 43 = some ⟨2, true, .struct [(0, 4), (1, 42)], [.val (.bool false), .sl 0 []], [], 32⟩ ∧
  T 44 = some ⟨2, true, .struct [(0, 4), (1, 42)], [.val (.bool false), .sl 0 []], [], 32⟩ ∧
  T 45 = some ⟨3, true, .struct [(0, 44), (2, 42)], [.val (.bool false), .sl 0 [], .sl 0 []], [], 56⟩ ∧
  T 46 = some ⟨3, true, .struct [(0, 44), (2, 42)], [.val (.bool false), .sl 0 [], .sl 0 []], [], 56⟩ ∧
  T 48 = some ⟨1, false, .func, [.val .nilFunc], [], 8⟩ ∧
  T 50 = some ⟨1, false, .func, [.val .nilFunc], [], 8⟩ ∧
  T 51 = some ⟨1, false, .func, [.val .nilFunc], [], 8⟩ ∧
  T 52 = some ⟨1, false, .func, [.val .nilFunc], [], 8⟩ ∧
  T 53 = some ⟨1, false, .func, [.val .nilFunc], [], 8⟩ ∧
  T 54 = some ⟨1, false, .func, [.val .nilFunc], [], 8⟩ ∧
  T 56 = some ⟨1, false, .func, [.val .nilFunc], [], 8⟩ ∧
  T 57 = some ⟨1, false, .func, [.val .nilFunc], [], 8⟩ ∧
  T 58 = some ⟨1, false, .func, [.val .nilFunc], [], 8⟩ ∧
  T 59 = some ⟨1, false, .func, [.val .nilFunc], [], 8⟩ ∧
  T 60 = some ⟨1, false, .func, [.val .nilFunc], [], 8⟩ ∧
  T 61 = some ⟨1, false, .func, [.val .nilFunc], [], 8⟩ ∧
  T 62 = some ⟨9, true, .struct [(0, 46), (3, 46), (6, 46)], [.val (.bool false), .sl 0 [], .sl 0 [], .val (.bool false), .sl 0 [], .sl 0 [], .val (.bool false), .sl 0 [], .sl 0 []], [], 168⟩ ∧
  T 63 = some ⟨9, true, .struct [(0, 46), (3, 46), (6, 46)], [.val (.bool false), .sl 0 [], .sl 0 [], .val (.bool false), .sl 0 [], .sl 0 [], .val (.bool false), .sl 0 [], .sl 0 []], [], 168⟩ ∧
  T 65 = some ⟨1, false, .func, [.val .nilFunc], [], 8⟩ ∧
  T 66 = some ⟨1, false, .func, [.val .nilFunc], [], 8⟩ ∧
  T 67 = some ⟨1, false, .func, [.val .nilFunc], [], 8⟩ ∧
  T 68 = some ⟨1, false, .func, [.val .nilFunc], [], 8⟩ ∧
  T 69 = some ⟨1, false, .func, [.val .nilFunc], [], 8⟩ ∧
  T 70 = some ⟨1, false, .func, [.val .nilFunc], [], 8⟩ ∧
  T 71 = some ⟨1, false, .func, [.val .nilFunc], [], 8⟩ ∧
  T 72 = some ⟨1, false, .func, [.val .nilFunc], [], 8⟩ ∧
  T 73 = some ⟨1, false, .func, [.val .nilFunc], [], 8⟩ ∧
  T 74 = some ⟨1, false, .func, [.val .nilFunc], [], 8⟩ ∧
  T 75 = some ⟨1, false, .func, [.val .nilFunc], [], 8⟩ ∧
  T 76 = some ⟨1, false, .func, [.val .nilFunc], [], 8⟩ ∧
  T 78 = some ⟨1, false, .func, [.val .nilFunc], [], 8⟩ ∧
  T 79 = some ⟨1, false, .func, [.val .nilFunc], [], 8⟩ ∧
  T 80 = some ⟨1, false, .func, [.val .nilFunc], [], 8⟩ ∧
  T 82 = some ⟨1, false, .func, [.val .nilFunc], [], 8⟩ ∧
  T 83 = some ⟨1, false, .func, [.val .nilFunc], [], 8⟩ ∧
  T 84 = some ⟨1, false, .func, [.val .nilFunc], [], 8⟩ ∧
  T 85 = some ⟨1, false, .func, [.val .nilFunc], [], 8⟩ ∧
  T 86 = some ⟨1, false, .map 9, [.val (.map none)], [], 8⟩ ∧
  T 87 = some ⟨1, false, .func, [.val .nilFunc], [], 8⟩ ∧
  T 88 = some ⟨1, false, .func, [.val .nilFunc], [], 8⟩ ∧
  T 90 = some ⟨1, false, .func, [.val .nilFunc], [], 8⟩ ∧
  T 91 = some ⟨1, false, .func, [.val .nilFunc], [], 8⟩ ∧
  T 92 = some ⟨1, false, .func, [.val .nilFunc], [], 8⟩ ∧
  T 93 = some ⟨1, false, .func, [.val .nilFunc], [], 8⟩ ∧
  T 94 = some ⟨1, false, .func, [.val .nilFunc], [], 8⟩ ∧
  T 95 = some ⟨1, false, .int .u32, [.val (.int .u32 0)], [], 4⟩ ∧
  T 96 = some ⟨1, false, .func, [.val .nilFunc], [], 8⟩ ∧
  T 97 = some ⟨1, false, .func, [.val .nilFunc], [], 8⟩ ∧
  T 98 = some ⟨1, false, .func, [.val .nilFunc], [], 8⟩ ∧
  T 99 = some ⟨1, false, .func, [.val .nilFunc], [], 8⟩ ∧
  T 100 = some ⟨1, false, .func, [.val .nilFunc], [], 8⟩ ∧
  T 101 = some ⟨1, false, .func, [.val .nilFunc], [], 8⟩ ∧
  T 102 = some ⟨1, false, .func, [.val .nilFunc], [], 8⟩ ∧
  T 103 = some ⟨1, false, .func, [.val .nilFunc], [], 8⟩ ∧
  T 104 = some ⟨1, false, .func, [.val .nilFunc], [], 8⟩ ∧
  T 105 = some ⟨1, false, .func, [.val .nilFunc], [], 8⟩ ∧
  T 106 = some ⟨1, false, .func, [.val .nilFunc], [], 8⟩ ∧
  T 107 = some ⟨1, false, .func, [.val .nilFunc], [], 8⟩ ∧
  T 108 = some ⟨1, false, .func, [.val .nilFunc], [], 8⟩ ∧
  T 109 = some ⟨1, false, .func, [.val .nilFunc], [], 8⟩ ∧
  T 110 = some ⟨1, false, .func, [.val .nilFunc], [], 8⟩ ∧
  T 111 = some ⟨1, false, .func, [.val .nilFunc], [], 8⟩ ∧
  T 112 = some ⟨1, false, .func, [.val .nilFunc], [], 8⟩ ∧
  T 113 = some ⟨2, true, .struct [(0, 9), (1, 9)], [.val (.string ⟨#[]⟩), .val (.string ⟨#[]⟩)], [], 32⟩ ∧
  T 114 = some ⟨2, true, .struct [(0, 9), (1, 9)], [.val (.string ⟨#[]⟩), .val (.string ⟨#[]⟩)], [.string, .string], 32⟩ ∧
  T 116 = some ⟨1, false, .func, [.val .nilFunc], [], 8⟩ ∧
  T 118 = some ⟨1, false, .func, [.val .nilFunc], [], 8⟩ ∧
  T 119 = some ⟨1, false, .func, [.val .nilFunc], [], 8⟩ ∧
  T 120 = some ⟨1, false, .func, [.val .nilFunc], [], 8⟩ ∧
  T 121 = some ⟨1, false, .func, [.val .nilFunc], [], 8⟩ ∧
  T 122 = some ⟨1, false, .func, [.val .nilFunc], [], 8⟩ ∧
  T 123 = some ⟨1, false, .func, [.val .nilFunc], [], 8⟩ ∧
  T 124 = some ⟨1, false, .int .u64, [.val (.int .u64 0)], [], 8⟩ ∧
  T 125 = some ⟨1, false, .func, [.val .nilFunc], [], 8⟩ ∧
  T 126 = some ⟨1, false, .func, [.val .nilFunc], [], 8⟩ ∧
  T 128 = some ⟨1, false, .func, [.val .nilFunc], [], 8⟩ ∧
  T 129 = some ⟨1, false, .func, [.val .nilFunc], [], 8⟩ ∧
  T 130 = some ⟨1, false, .func, [.val .nilFunc], [], 8⟩ ∧
  T 131 = some ⟨1, false, .func, [.val .nilFunc], [], 8⟩ ∧
  T 132 = some ⟨3, true, .array 3 23, [.val (.string ⟨#[]⟩), .val (.string ⟨#[]⟩), .val (.string ⟨#[]⟩)], [], 48⟩ ∧
  T 133 = some ⟨3, true, .struct [(0, 28)], [.val (.string ⟨#[]⟩), .val (.string ⟨#[]⟩), .val (.string ⟨#[]⟩)], [], 48⟩ ∧
  T 134 = some ⟨3, true, .struct [(0, 28)], [.val (.string ⟨#[]⟩), .val (.string ⟨#[]⟩), .val (.string ⟨#[]⟩)], [.string, .string, .string], 48⟩ ∧
  T 135 = some ⟨1, false, .func, [.val .nilFunc], [], 8⟩ ∧
  T 136 = some ⟨1, false, .func, [.val .nilFunc], [], 8⟩ ∧
  T 137 = some ⟨1, false, .func, [.val .nilFunc], [], 8⟩ ∧
  T 138 = some ⟨1, false, .func, [.val .nilFunc], [], 8⟩ ∧
  T 139 = some ⟨1, false, .slice 5, [.sl 0 []], [], 24⟩ ∧
  T 140 = some ⟨1, false, .func, [.val .nilFunc], [], 8⟩ ∧
  T 142 = some ⟨1, false, .func, [.val .nilFunc], [], 8⟩ ∧
  T 143 = some ⟨1, false, .func, [.val .nilFunc], [], 8⟩ ∧
  T 145 = some ⟨1, false, .func, [.val .nilFunc], [], 8⟩ ∧
  T 146 = some ⟨1, false, .func, [.val .nilFunc], [], 8⟩ ∧
  T 147 = some ⟨1, false, .func, [.val .nilFunc], [], 8⟩ ∧
  T 148 = some ⟨1, false, .func, [.val .nilFunc], [], 8⟩ ∧
  T 149 = some ⟨256, true, .array 256 4, List.replicate 256 (.val (.bool false)), [], 256⟩ ∧
  T 150 = some ⟨256, true, .array 256 4, List.replicate 256 (.val (.bool false)), [], 256⟩ ∧
  T 152 = some ⟨1, false, .func, [.val .nilFunc], [], 8⟩ ∧
  T 153 = some ⟨1, false, .func, [.val .nilFunc], [], 8⟩ ∧
  T 155 = some ⟨1, false, .func, [.val .nilFunc], [], 8⟩ ∧
  T 157 = some ⟨1, false, .func, [.val .nilFunc], [], 8⟩ ∧
  T 158 = some ⟨1, false, .func, [.val .nilFunc], [], 8⟩ ∧
  T 159 = some ⟨1, false, .func, [.val .nilFunc], [], 8⟩ ∧
  T 160 = some ⟨1, false, .map 5, [.val (.map none)], [], 8⟩ ∧
  T 161 = some ⟨1, false, .func, [.val .nilFunc], [], 8⟩ ∧
  T 162 = some ⟨1, false, .func, [.val .nilFunc], [], 8⟩ ∧
  T 163 = some ⟨1, false, .slice 28, [.sl 0 []], [], 24⟩ ∧
  T 164 = some ⟨2, true, .struct [(0, 4), (1, 9)], [.val (.bool false), .val (.string ⟨#[]⟩)], [], 24⟩ ∧
  T 165 = some ⟨2, true, .struct [(0, 4), (1, 9)], [.val (.bool false), .val (.string ⟨#[]⟩)], [.bool, .string], 24⟩ ∧
  T 167 = some ⟨1, false, .func, [.val .nilFunc], [], 8⟩ ∧
  T 168 = some ⟨1, false, .func, [.val .nilFunc], [], 8⟩ ∧
  T 169 = some ⟨1, false, .func, [.val .nilFunc], [], 8⟩ ∧
  T 171 = some ⟨1, false, .func, [.val .nilFunc], [], 8⟩ ∧
  T 172 = some ⟨1, false, .func, [.val .nilFunc], [], 8⟩ ∧
  T 173 = some ⟨1, false, .func, [.val .nilFunc], [], 8⟩ ∧
  T 174 = some ⟨1, false, .func, [.val .nilFunc], [], 8⟩ ∧
  T 175 = some ⟨1, false, .func, [.val .nilFunc], [], 8⟩ ∧
  T 177 = some ⟨1, false, .func, [.val .nilFunc], [], 8⟩ ∧
  T 178 = some ⟨1, false, .func, [.val .nilFunc], [], 8⟩ ∧
  T 179 = some ⟨1, false, .func, [.val .nilFunc], [], 8⟩ ∧
  T 181 = some ⟨1, false, .func, [.val .nilFunc], [], 8⟩ ∧
  T 183 = some ⟨1, false, .func, [.val .nilFunc], [], 8⟩ ∧
  T 184 = some ⟨1, false, .slice 95, [.sl 0 []], [], 24⟩ ∧
  T 186 = some ⟨1, false, .func, [.val .nilFunc], [], 8⟩ ∧
  T 187 = some ⟨1, false, .func, [.val .nilFunc], [], 8⟩ ∧
  T 188 = some ⟨1, false, .func, [.val .nilFunc], [], 8⟩ ∧
  T 189 = some ⟨1, false, .func, [.val .nilFunc], [], 8⟩ ∧
  T 190 = some ⟨1, false, .func, [.val .nilFunc], [], 8⟩ ∧
  T 191 = some ⟨2, true, .array 2 190, [.val .nilFunc, .val .nilFunc], [], 16⟩ ∧
  T 192 = some ⟨4, true, .array 2 191, [.val .nilFunc, .val .nilFunc, .val .nilFunc, .val .nilFunc], [], 32⟩ ∧
  T 193 = some ⟨1, false, .func, [.val .nilFunc], [], 8⟩ ∧
  T 194 = some ⟨1, false, .func, [.val .nilFunc], [], 8⟩ ∧
  T 195 = some ⟨1, false, .func, [.val .nilFunc], [], 8⟩ ∧
  T 196 = some ⟨1, false, .func, [.val .nilFunc], [], 8⟩ ∧
  T 197 = some ⟨1, false, .func, [.val .nilFunc], [], 8⟩ ∧
  T 198 = some ⟨1, false, .int .u64, [.val (.int .u64 0)], [], 8⟩ ∧
  T 199 = some ⟨1, false, .func, [.val .nilFunc], [], 8⟩ ∧
  T 201 = some ⟨1, false, .func, [.val .nilFunc], [], 8⟩ ∧
  T 202 = some ⟨1, false, .func, [.val .nilFunc], [], 8⟩ ∧
  T 204 = some ⟨1, false, .func, [.val .nilFunc], [], 8⟩ ∧
  T 205 = some ⟨256, true, .array 256 5, List.replicate 256 (.val (.int .u8 0)), [], 256⟩ ∧
  T 206 = some ⟨2, true, .struct [(0, 5), (1, 5)], [.val (.int .u8 0), .val (.int .u8 0)], [], 2⟩ ∧
  T 207 = some ⟨2, true, .struct [(0, 5), (1, 5)], [.val (.int .u8 0), .val (.int .u8 0)], [], 2⟩ ∧
  T 208 = some ⟨32, true, .array 16 207, [.val (.int .u8 0), .val (.int .u8 0), .val (.int .u8 0), .val (.int .u8 0), .val (.int .u8 0), .val (.int .u8 0), .val (.int .u8 0), .val (.int .u8 0), .val (.int .u8 0), .val (.int .u8 0), .val (.int .u8 0), .val (.int .u8 0), .val (.int .u8 0), .val (.int .u8 0), .val (.int .u8 0), .val (.int .u8 0), .val (.int .u8 0), .val (.int .u8 0), .val (.int .u8 0), .val (.int .u8 0), .val (.int .u8 0), .val (.int .u8 0), .val (.int .u8 0), .val (.int .u8 0), .val (.int .u8 0), .val (.int .u8 0), .val (.int .u8 0), .val (.int .u8 0), .val (.int .u8 0), .val (.int .u8 0), .val (.int .u8 0), .val (.int .u8 0)], [], 32⟩ ∧
  T 209 = some ⟨1, false, .func, [.val .nilFunc], [], 8⟩ ∧
  T 211 = some ⟨1, false, .func, [.val .nilFunc], [], 8⟩ ∧
  T 212 = some ⟨1, false, .func, [.val .nilFunc], [], 8⟩ ∧
  T 213 = some ⟨1, false, .func, [.val .nilFunc], [], 8⟩ ∧
  T 215 = some ⟨1, false, .func, [.val .nilFunc], [], 8⟩ ∧
  T 216 = some ⟨1, false, .func, [.val .nilFunc], [], 8⟩ ∧
  T 220 = some ⟨1, false, .func, [.val .nilFunc], [], 8⟩ ∧
  T 221 = some ⟨1, false, .func, [.val .nilFunc], [], 8⟩ ∧
  T 223 = some ⟨2, true, .struct [(0, 222), (1, 139)], [.val (.pointer none), .sl 0 []], [], 32⟩ ∧
  T 224 = some ⟨2, true, .struct [(0, 222), (1, 139)], [.val (.pointer none), .sl 0 []], [], 32⟩ ∧
  T 225 = some ⟨1, false, .func, [.val .nilFunc], [], 8⟩ ∧
  T 226 = some ⟨1, false, .func, [.val .nilFunc], [], 8⟩ ∧
  T 227 = some ⟨1, false, .func, [.val .nilFunc], [], 8⟩ ∧
  T 228 = some ⟨1, false, .func, [.val .nilFunc], [], 8⟩ ∧
  T 230 = some ⟨1, false, .func, [.val .nilFunc], [], 8⟩ ∧
  T 231 = some ⟨1, false, .func, [.val .nilFunc], [], 8⟩ ∧
  T 232 = some ⟨1, false, .func, [.val .nilFunc], [], 8⟩ ∧
  T 233 = some ⟨1, false, .func, [.val .nilFunc], [], 8⟩ ∧
  T 235 = some ⟨1, false, .func, [.val .nilFunc], [], 8⟩ ∧
  T 236 = some ⟨1, false, .func, [.val .nilFunc], [], 8⟩ ∧
  T 238 = some ⟨1, false, .func, [.val .nilFunc], [], 8⟩ ∧
  T 239 = some ⟨1, false, .func, [.val .nilFunc], [], 8⟩ ∧
  T 240 = some ⟨1, false, .func, [.val .nilFunc], [], 8⟩ ∧
  T 242 = some ⟨1, false, .func, [.val .nilFunc], [], 8⟩ ∧
  T 243 = some ⟨1, false, .func, [.val .nilFunc], [], 8⟩ ∧
  T 245 = some ⟨1, false, .func, [.val .nilFunc], [], 8⟩ ∧
  T 246 = some ⟨1, false, .func, [.val .nilFunc], [], 8⟩ ∧
  T 247 = some ⟨1, false, .func, [.val .nilFunc], [], 8⟩ ∧
  T 249 = some ⟨1, false, .func, [.val .nilFunc], [], 8⟩ ∧
  T 250 = some ⟨1, false, .int .i64, [.val (.int .i64 0)], [], 8⟩ ∧
  T 251 = some ⟨1, false, .func, [.val .nilFunc], [], 8⟩ ∧
  T 253 = some ⟨1, false, .func, [.val .nilFunc], [], 8⟩ ∧
  T 254 = some ⟨1, false, .func, [.val .nilFunc], [], 8⟩ ∧
  T 255 = some ⟨1, false, .func, [.val .nilFunc], [], 8⟩ ∧
  T 256 = some ⟨24, true, .array 24 5, [.val (.int .u8 0), .val (.int .u8 0), .val (.int .u8 0), .val (.int .u8 0), .val (.int .u8 0), .val (.int .u8 0), .val (.int .u8 0), .val (.int .u8 0), .val (.int .u8 0), .val (.int .u8 0), .val (.int .u8 0), .val (.int .u8 0), .val (.int .u8 0), .val (.int .u8 0), .val (.int .u8 0), .val (.int .u8 0), .val (.int .u8 0), .val (.int .u8 0), .val (.int .u8 0), .val (.int .u8 0), .val (.int .u8 0), .val (.int .u8 0), .val (.int .u8 0), .val (.int .u8 0)], [], 24⟩ ∧
  T 257 = some ⟨1, false, .func, [.val .nilFunc], [], 8⟩ ∧
  T 258 = some ⟨1, false, .func, [.val .nilFunc], [], 8⟩ ∧
  T 260 = some ⟨1, false, .func, [.val .nilFunc], [], 8⟩ ∧
  T 262 = some ⟨1, false, .func, [.val .nilFunc], [], 8⟩ ∧
  T 263 = some ⟨1, false, .func, [.val .nilFunc], [], 8⟩ ∧
  T 265 = some ⟨1, false, .func, [.val .nilFunc], [], 8⟩ ∧
  T 266 = some ⟨1, false, .func, [.val .nilFunc], [], 8⟩ ∧
  T 267 = some ⟨1, false, .func, [.val .nilFunc], [], 8⟩ ∧
  T 268 = some ⟨1, false, .func, [.val .nilFunc], [], 8⟩ ∧
  T 269 = some ⟨3, true, .struct [(0, 9), (1, 9), (2, 218)], [.val (.string ⟨#[]⟩), .val (.string ⟨#[]⟩), .val .nilIface], [], 48⟩ ∧
  T 270 = some ⟨3, true, .struct [(0, 9), (1, 9), (2, 218)], [.val (.string ⟨#[]⟩), .val (.string ⟨#[]⟩), .val .nilIface], [], 48⟩ ∧
  T 271 = some ⟨1, false, .func, [.val .nilFunc], [], 8⟩ ∧
  T 272 = some ⟨20, true, .array 20 124, [.val (.int .u64 0), .val (.int .u64 0), .val (.int .u64 0), .val (.int .u64 0), .val (.int .u64 0), .val (.int .u64 0), .val (.int .u64 0), .val (.int .u64 0), .val (.int .u64 0), .val (.int .u64 0), .val (.int .u64 0), .val (.int .u64 0), .val (.int .u64 0), .val (.int .u64 0), .val (.int .u64 0), .val (.int .u64 0), .val (.int .u64 0), .val (.int .u64 0), .val (.int .u64 0), .val (.int .u64 0)], [], 160⟩ ∧
  T 273 = some ⟨65, true, .array 65 5, List.replicate 65 (.val (.int .u8 0)), [], 65⟩ ∧
  T 274 = some ⟨1, false, .func, [.val .nilFunc], [], 8⟩ ∧
  T 275 = some ⟨1, false, .func, [.val .nilFunc], [], 8⟩ ∧
  T 277 = some ⟨1, true, .struct [(0, 9)], [.val (.string ⟨#[]⟩)], [], 16⟩ ∧
  T 278 = some ⟨1, true, .struct [(0, 9)], [.val (.string ⟨#[]⟩)], [], 16⟩ ∧
  T 279 = some ⟨1, false, .func, [.val .nilFunc], [], 8⟩ ∧
  T 280 = some ⟨32, true, .array 32 5, [.val (.int .u8 0), .val (.int .u8 0), .val (.int .u8 0), .val (.int .u8 0), .val (.int .u8 0), .val (.int .u8 0), .val (.int .u8 0), .val (.int .u8 0), .val (.int .u8 0), .val (.int .u8 0), .val (.int .u8 0), .val (.int .u8 0), .val (.int .u8 0), .val (.int .u8 0), .val (.int .u8 0), .val (.int .u8 0), .val (.int .u8 0), .val (.int .u8 0), .val (.int .u8 0), .val (.int .u8 0), .val (.int .u8 0), .val (.int .u8 0), .val (.int .u8 0), .val (.int .u8 0), .val (.int .u8 0), .val (.int .u8 0), .val (.int .u8 0), .val (.int .u8 0), .val (.int .u8 0), .val (.int .u8 0), .val (.int .u8 0), .val (.int .u8 0)], [], 32⟩ ∧
  T 281 = some ⟨64, true, .array 64 5, [.val (.int .u8 0), .val (.int .u8 0), .val (.int .u8 0), .val (.int .u8 0), .val (.int .u8 0), .val (.int .u8 0), .val (.int .u8 0), .val (.int .u8 0), .val (.int .u8 0), .val (.int .u8 0), .val (.int .u8 0), .val (.int .u8 0), .val (.int .u8 0), .val (.int .u8 0), .val (.int .u8 0), .val (.int .u8 0), .val (.int .u8 0), .val (.int .u8 0), .val (.int .u8 0), .val (.int .u8 0), .val (.int .u8 0), .val (.int .u8 0), .val (.int .u8 0), .val (.int .u8 0), .val (.int .u8 0), .val (.int .u8 0), .val (.int .u8 0), .val (.int .u8 0), .val (.int .u8 0), .val (.int .u8 0), .val (.int .u8 0), .val (.int .u8 0), .val (.int .u8 0), .val (.int .u8 0), .val (.int .u8 0), .val (.int .u8 0), .val (.int .u8 0), .val (.int .u8 0), .val (.int .u8 0), .val (.int .u8 0), .val (.int .u8 0), .val (.int .u8 0), .val (.int .u8 0), .val (.int .u8 0), .val (.int .u8 0), .val (.int .u8 0), .val (.int .u8 0), .val (.int .u8 0), .val (.int .u8 0), .val (.int .u8 0), .val (.int .u8 0), .val (.int .u8 0), .val (.int .u8 0), .val (.int .u8 0), .val (.int .u8 0), .val (.int .u8 0), .val (.int .u8 0), .val (.int .u8 0), .val (.int .u8 0), .val (.int .u8 0), .val (.int .u8 0), .val (.int .u8 0), .val (.int .u8 0), .val (.int .u8 0)], [], 64⟩ ∧
  T 282 = some ⟨4, true, .struct [(0, 17), (1, 17), (2, 17), (3, 9)], [.val (.pointer none), .val (.pointer none), .val (.pointer none), .val (.string ⟨#[]⟩)], [], 40⟩ ∧
  T 283 = some ⟨4, true, .struct [(0, 17), (1, 17), (2, 17), (3, 9)], [.val (.pointer none), .val (.pointer none), .val (.pointer none), .val (.string ⟨#[]⟩)], [], 40⟩ ∧
  T 284 = some ⟨0, true, .array 0 16, [], [], 0⟩ ∧
  T 285 = some ⟨0, true, .struct [(0, 284)], [], [], 0⟩ ∧
  T 286 = some ⟨0, true, .struct [(0, 284)], [], [], 0⟩ ∧
  T 287 = some ⟨1, false, .int .u8, [.val (.int .u8 0)], [], 1⟩ ∧
  T 288 = some ⟨1, false, .int .u8, [.val (.int .u8 0)], [], 1⟩ ∧
  T 289 = some ⟨1, false, .func, [.val .nilFunc], [], 8⟩ ∧
  T 290 = some ⟨1, false, .int .i32, [.val (.int .i32 0)], [], 4⟩ ∧
  T 291 = some ⟨1, false, .int .i32, [.val (.int .i32 0)], [], 4⟩ ∧
  T 292 = some ⟨11, true, .struct [(0, 12), (1, 12), (2, 95), (3, 287), (4, 5), (5, 5), (6, 288), (7, 289), (8, 244), (9, 290), (10, 291)], [.val (.int .u64 0), .val (.int .u64 0), .val (.int .u32 0), .val (.int .u8 0), .val (.int .u8 0), .val (.int .u8 0), .val (.int .u8 0), .val .nilFunc, .val (.pointer none), .val (.int .i32 0), .val (.int .i32 0)], [], 48⟩ ∧
  T 293 = some ⟨11, true, .struct [(0, 12), (1, 12), (2, 95), (3, 287), (4, 5), (5, 5), (6, 288), (7, 289), (8, 244), (9, 290), (10, 291)], [.val (.int .u64 0), .val (.int .u64 0), .val (.int .u32 0), .val (.int .u8 0), .val (.int .u8 0), .val (.int .u8 0), .val (.int .u8 0), .val .nilFunc, .val (.pointer none), .val (.int .i32 0), .val (.int .i32 0)], [], 48⟩ :=
  ⟨rfl, rfl, rfl, rfl, rfl, rfl, rfl, rfl, rfl, rfl, rfl, rfl, rfl, rfl, rfl, rfl, rfl, rfl, rfl, rfl, rfl, rfl, rfl, rfl, rfl, rfl, rfl, rfl, rfl, rfl, rfl, rfl, rfl, rfl, rfl, rfl, rfl, rfl, rfl, rfl, rfl, rfl, rfl, rfl, rfl, rfl, rfl, rfl, rfl, rfl, rfl, rfl, rfl, rfl, rfl, rfl, rfl, rfl, rfl, rfl, rfl, rfl, rfl, rfl, rfl, rfl, rfl, rfl, rfl, rfl, rfl, rfl, rfl, rfl, rfl, rfl, rfl, rfl, rfl, rfl, rfl, rfl, rfl, rfl, rfl, rfl, rfl, rfl, rfl, rfl, rfl, rfl, rfl, rfl, rfl, rfl, rfl, rfl, rfl, rfl, rfl, rfl, rfl, rfl, rfl, rfl, rfl, rfl, rfl, rfl, rfl, rfl, rfl, rfl, rfl, rfl, rfl, rfl, rfl, rfl, rfl, rfl, rfl, rfl, rfl, rfl, rfl, rfl, rfl, rfl, rfl, rfl, rfl, rfl, rfl, rfl, rfl, rfl, rfl, rfl, rfl, rfl, rfl, rfl, rfl, rfl, rfl, rfl, rfl, rfl, rfl, rfl, rfl, rfl, rfl, rfl, rfl, rfl, rfl, rfl, rfl, rfl, rfl, rfl, rfl, rfl, rfl, rfl, rfl, rfl, rfl, rfl, rfl, rfl, rfl, rfl, rfl, rfl, rfl, rfl, rfl, rfl, rfl, rfl, rfl, rfl, rfl, rfl, rfl, rfl, rfl, rfl, rfl, rfl, rfl, rfl, rfl, rfl, rfl, rfl, rfl, rfl, rfl, rfl, rfl, rfl, rfl, rfl, rfl, rfl, rfl, rfl, rfl, rfl, rfl, rfl, rfl, rfl, rfl, rfl, rfl, rfl, rfl, rfl, rfl, rfl, rfl, rfl, rfl, rfl, rfl, rfl, rfl, rfl, rfl, rfl, rfl, rfl, rfl, rfl, rfl, rfl, rfl, rfl, rfl, rfl⟩
theorem mix : Tryz.prog.follows .mixedOrders = true := by kernel_rfl
end Go.Proofs.YtnlabeglboomlaaGreatDoor.S
namespace Gb
open Go Go.RowKit
def val : List Int → Int
  | [] => 0
  | x :: xs => x + 1000000000 * val xs
def Dig (l : List Int) : Prop := ∀ x, x ∈ l → 0 ≤ x ∧ x < 1000000000
theorem Dig.nil : Dig [] := fun _ h => by cases h
theorem Dig.cons {x : Int} {l : List Int} (h0 : 0 ≤ x) (h1 : x < 1000000000) (h : Dig l) : Dig (x :: l) := by
  intro y hy
  rcases List.mem_cons.1 hy with rfl | hy
  · exact ⟨h0, h1⟩
  · exact h y hy
theorem Dig.head {x : Int} {l : List Int} (h : Dig (x :: l)) : 0 ≤ x ∧ x < 1000000000 := h x (List.mem_cons_self ..)
theorem Dig.tail {x : Int} {l : List Int} (h : Dig (x :: l)) : Dig l := fun y hy => h y (List.mem_cons_of_mem _ hy)
theorem Dig.append {a b : List Int} (ha : Dig a) (hb : Dig b) : Dig (a ++ b) := by
  intro y hy
  rcases List.mem_append.1 hy with h | h
  · exact ha y h
  · exact hb y h
theorem Dig.left {a b : List Int} (h : Dig (a ++ b)) : Dig a := fun y hy => h y (List.mem_append_left _ hy)
theorem Dig.right {a b : List Int} (h : Dig (a ++ b)) : Dig b := fun y hy => h y (List.mem_append_right _ hy)
theorem Dig.take {a : List Int} (h : Dig a) (n : Nat) : Dig (a.take n) := fun y hy => h y (List.mem_of_mem_take hy)
theorem Dig.drop {a : List Int} (h : Dig a) (n : Nat) : Dig (a.drop n) := fun y hy => h y (List.mem_of_mem_drop hy)
theorem Dig.replicate (n : Nat) : Dig (List.replicate n 0) := by
  intro y hy
  rw [List.mem_replicate] at hy
  omega
theorem Dig.set {l : List Int} (h : Dig l) (i : Nat) {v : Int} (h0 : 0 ≤ v) (h1 : v < 1000000000) : Dig (l.set i v) := by
  intro y hy
  rcases List.mem_or_eq_of_mem_set hy with hy | rfl
  · exact h y hy
  · exact ⟨h0, h1⟩
theorem Dig.getD {l : List Int} (h : Dig l) (i : Nat) : 0 ≤ l.getD i 0 ∧ l.getD i 0 < 1000000000 := by
  rw [List.getD_eq_getElem?_getD]
  by_cases hi : i < l.length
  · rw [List.getElem?_eq_getElem hi]; exact h _ (List.getElem_mem hi)
  · rw [List.getElem?_eq_none (by omega)]; simp
theorem val_nil : val [] = 0 := rfl
theorem val_cons (x : Int) (l : List Int) : val (x :: l) = x + 1000000000 * val l := rfl
theorem val_append (a b : List Int) : val (a ++ b) = val a + 1000000000 ^ a.length * val b := by
  induction a with
  | nil => simp [val]
  | cons x a ih => simp only [List.cons_append, val_cons, ih, List.length_cons, Int.pow_succ]; grind
theorem val_replicate (n : Nat) : val (List.replicate n 0) = 0 := by
  induction n with
  | zero => rfl
  | succ n ih => simp [List.replicate_succ, val_cons, ih]
theorem val_bounds {l : List Int} (h : Dig l) : 0 ≤ val l ∧ val l < 1000000000 ^ l.length := by
  induction l with
  | nil => simp [val]
  | cons x l ih =>
    have := h.head
    have := ih h.tail
    simp only [val_cons, List.length_cons, Int.pow_succ]
    omega
theorem val_nonneg {l : List Int} (h : Dig l) : 0 ≤ val l := (val_bounds h).1
theorem pow_pos (n : Nat) : (0 : Int) < 1000000000 ^ n := Int.pow_pos (by decide)
theorem val_set (l : List Int) (i : Nat) (v : Int) (hi : i < l.length) : val (l.set i v) = val l + (v - l.getD i 0) * 1000000000 ^ i := by
  induction l generalizing i with
  | nil => simp at hi
  | cons x l ih =>
    cases i with
    | zero => simp [val_cons]; omega
    | succ i =>
      simp only [List.length_cons] at hi
      simp only [List.set_cons_succ, val_cons, ih i (by omega), List.getD_cons_succ, Int.pow_succ]
      grind
theorem val_drop (l : List Int) (i : Nat) (hi : i < l.length) : val (l.drop i) = l.getD i 0 + 1000000000 * val (l.drop (i + 1)) := by
  rw [List.drop_eq_getElem_cons hi, val_cons, List.getD_eq_getElem?_getD, List.getElem?_eq_getElem hi]
  rfl
theorem val_take_drop (l : List Int) (i : Nat) (hi : i ≤ l.length) : val l = val (l.take i) + 1000000000 ^ i * val (l.drop i) := by
  conv => lhs; rw [← List.take_append_drop i l]
  rw [val_append, List.length_take, Nat.min_eq_left hi]
theorem val_take_succ (l : List Int) (i : Nat) (hi : i < l.length) : val (l.take (i + 1)) = val (l.take i) + l.getD i 0 * 1000000000 ^ i := by
  rw [List.take_succ_eq_append_getElem hi, val_append, List.length_take, Nat.min_eq_left (by omega), val_cons, val_nil, List.getD_eq_getElem?_getD, List.getElem?_eq_getElem hi]
  simp
  grind
def Zf (l : List Int) (i : Nat) : Prop := ∀ j, i ≤ j → l.getD j 0 = 0
theorem Zf.set {l : List Int} {i : Nat} (h : Zf l i) (j : Nat) (v : Int) (hj : j < i) : Zf (l.set j v) i := by
  intro q hq
  have := h q hq
  rw [List.getD_eq_getElem?_getD] at this ⊢
  rw [List.getElem?_set_ne (by omega)]
  exact this
theorem Zf.mono {l : List Int} {i j : Nat} (h : Zf l i) (hij : i ≤ j) : Zf l j := fun q hq => h q (by omega)
theorem Zf.replicate (n i : Nat) : Zf (List.replicate n 0) i := by
  intro j _
  rw [List.getD_eq_getElem?_getD, List.getElem?_replicate]
  split <;> rfl
theorem getD_set_same (l : List Int) (i : Nat) (v : Int) (hi : i < l.length) : (l.set i v).getD i 0 = v := by
  rw [List.getD_eq_getElem?_getD, List.getElem?_set_self hi]; rfl
theorem getD_set_ne (l : List Int) (i j : Nat) (v : Int) (h : i ≠ j) : (l.set i v).getD j 0 = l.getD j 0 := by
  rw [List.getD_eq_getElem?_getD, List.getElem?_set_ne h, ← List.getD_eq_getElem?_getD]
def Norm (l : List Int) : Prop := Dig l ∧ (l ≠ [] → l.getD (l.length - 1) 0 ≠ 0)
theorem Norm.nil : Norm [] := ⟨Dig.nil, fun h => absurd rfl h⟩
theorem Norm.lo {l : List Int} (h : Norm l) (hl : l ≠ []) : 1000000000 ^ (l.length - 1) ≤ val l := by
  have h1 : 0 < l.length := List.length_pos_iff.2 hl
  have h2 := h.2 hl
  have h3 := h.1.getD (l.length - 1)
  have h4 := val_take_drop l (l.length - 1) (by omega)
  rw [val_drop l (l.length - 1) (by omega), show l.length - 1 + 1 = l.length by omega, List.drop_length, val_nil] at h4
  have h5 := val_nonneg (h.1.take (l.length - 1))
  have h6 := pow_pos (l.length - 1)
  generalize l.getD (l.length - 1) 0 = d at *
  have h7 : 1000000000 ^ (l.length - 1) * 1 ≤ (1000000000 : Int) ^ (l.length - 1) * d := Int.mul_le_mul_of_nonneg_left (by omega) (by omega)
  have h8 : (1000000000 : Int) ^ (l.length - 1) * (d + 1000000000 * 0) = 1000000000 ^ (l.length - 1) * d := by grind
  omega
theorem Norm.pos {l : List Int} (h : Norm l) (hl : l ≠ []) : 0 < val l := by
  have := h.lo hl
  have := pow_pos (l.length - 1)
  omega
theorem pow_mono {a b : Nat} (h : a ≤ b) : (1000000000 : Int) ^ a ≤ 1000000000 ^ b := by
  obtain ⟨c, rfl⟩ := Nat.exists_eq_add_of_le h
  rw [Int.pow_add]
  have := pow_pos a
  have := pow_pos c
  have : (1000000000 : Int) ^ a * 1 ≤ 1000000000 ^ a * 1000000000 ^ c := Int.mul_le_mul_of_nonneg_left (by omega) (by omega)
  omega
theorem Norm.len_le {l m : List Int} (hl : Norm l) (hm : Dig m) (h : val l ≤ val m) : l.length ≤ m.length := by
  by_cases h0 : l = []
  · subst h0; simp
  · have h1 := hl.lo h0
    have h2 := (val_bounds hm).2
    by_cases h3 : l.length ≤ m.length
    · exact h3
    · have := pow_mono (show m.length ≤ l.length - 1 by omega)
      omega
theorem Norm.len_lt {l m : List Int} (hm : Norm m) (hl : Dig l) (h : l.length < m.length) : val l < val m := by
  by_cases h1 : val l < val m
  · exact h1
  · have := hm.len_le hl (by omega)
    omega
theorem Dig.inj : ∀ {l m : List Int}, Dig l → Dig m → l.length = m.length → val l = val m → l = m
  | [], [], _, _, _, _ => rfl
  | [], _ :: _, _, _, h, _ => by simp at h
  | _ :: _, [], _, _, h, _ => by simp at h
  | x :: l, y :: m, hl, hm, h, hv => by
    have := hl.head; have := hm.head
    simp only [val_cons] at hv
    obtain rfl : x = y := by omega
    rw [Dig.inj hl.tail hm.tail (by simpa using h) (by omega)]
theorem Norm.inj {l m : List Int} (hl : Norm l) (hm : Norm m) (h : val l = val m) : l = m :=
  Dig.inj hl.1 hm.1 (Nat.le_antisymm (hl.len_le hm.1 (by omega)) (hm.len_le hl.1 (by omega))) h
def trimL (l : List Int) : List Int := if h : l = [] then [] else if l.getD (l.length - 1) 0 = 0 then trimL l.dropLast else l
termination_by l.length
decreasing_by
  have := List.length_pos_iff.2 h
  simp; omega
theorem trimL_norm (l : List Int) (h : Dig l) : Norm (trimL l) ∧ val (trimL l) = val l ∧ (trimL l).length ≤ l.length := by
  induction hn : l.length using Nat.strongRecOn generalizing l with
  | _ n ih =>
    rw [trimL]
    split
    · rename_i h0; subst h0; exact ⟨Norm.nil, rfl, by simp⟩
    · rename_i h0
      have hp := List.length_pos_iff.2 h0
      split
      · rename_i hz
        have h1 := ih (l.length - 1) (by omega) l.dropLast (by rw [List.dropLast_eq_take]; exact h.take _) (by simp)
        refine ⟨h1.1, ?_, by omega⟩
        rw [h1.2.1, List.dropLast_eq_take]
        have h2 := val_take_succ l (l.length - 1) (by omega)
        rw [show l.length - 1 + 1 = l.length by omega, List.take_length, hz] at h2
        omega
      · rename_i hz
        exact ⟨⟨h, fun _ => hz⟩, rfl, by omega⟩
theorem tmod_pos {x y : Int} (h : 0 ≤ x) : Int.tmod x y = x % y := Int.tmod_eq_emod_of_nonneg h
theorem tdiv_pos {x y : Int} (h : 0 ≤ x) : Int.tdiv x y = x / y := Int.tdiv_eq_ediv_of_nonneg h
theorem mul_step {o x y c : Int} (ho : 0 ≤ o ∧ o < 1000000000) (hx : 0 ≤ x ∧ x < 1000000000) (hy : 0 ≤ y ∧ y < 1000000000) (hc : 0 ≤ c ∧ c < 1000000000) :
    0 ≤ x * y ∧ x * y ≤ 999999998000000001 := by
  constructor
  · exact Int.mul_nonneg hx.1 hy.1
  · exact Int.mul_le_mul (a := x) (b := y) (c := 999999999) (d := 999999999) (by omega) (by omega) (by omega) (by omega)
theorem getD_out {l : List Int} {i : Nat} (h : l.length ≤ i) : l.getD i 0 = 0 := by
  rw [List.getD_eq_getElem?_getD, List.getElem?_eq_none h]; rfl
theorem val_drop' (l : List Int) (i : Nat) : val (l.drop i) = l.getD i 0 + 1000000000 * val (l.drop (i + 1)) := by
  by_cases h : i < l.length
  · exact val_drop l i h
  · rw [getD_out (by omega), List.drop_eq_nil_of_le (by omega), List.drop_eq_nil_of_le (by omega), val_nil]; omega
theorem val_snoc (l : List Int) (x : Int) : val (l ++ [x]) = val l + 1000000000 ^ l.length * x := by
  rw [val_append, val_cons, val_nil]; grind
theorem Dig.snoc {l : List Int} (h : Dig l) {x : Int} (h0 : 0 ≤ x) (h1 : x < 1000000000) : Dig (l ++ [x]) := h.append (Dig.cons h0 h1 Dig.nil)
def cmpI (x y : Int) : Int := if x < y then -1 else if y < x then 1 else 0
theorem cmp_drop (a b : List Int) (ha : Dig a) (hb : Dig b) (i : Nat) (h : val (a.drop (i + 1)) = val (b.drop (i + 1))) (hlt : a.getD i 0 < b.getD i 0) (hia : i ≤ a.length) (hib : i ≤ b.length) : val a < val b := by
  have h1 := val_take_drop a i hia
  have h2 := val_take_drop b i hib
  rw [val_drop' a i] at h1
  rw [val_drop' b i] at h2
  have h3 := val_bounds (ha.take i)
  have h4 := val_nonneg (hb.take i)
  rw [List.length_take, Nat.min_eq_left hia] at h3
  have hp := pow_pos i
  rw [h] at h1
  generalize val (b.drop (i + 1)) = q at *
  have h5 : (1000000000 : Int) ^ i * (a.getD i 0 + 1000000000 * q + 1) ≤ 1000000000 ^ i * (b.getD i 0 + 1000000000 * q) := Int.mul_le_mul_of_nonneg_left (by omega) (by omega)
  have h6 : (1000000000 : Int) ^ i * (a.getD i 0 + 1000000000 * q + 1) = 1000000000 ^ i * (a.getD i 0 + 1000000000 * q) + 1000000000 ^ i := by grind
  omega
theorem by_step {r x w : Int} (hr : 0 ≤ r ∧ r < w) (hx : 0 ≤ x ∧ x < 1000000000) (hw : 0 < w ∧ w < 1000000000) :
    0 ≤ r * 1000000000 + x ∧ r * 1000000000 + x < 1000000000000000000 ∧ 0 ≤ (r * 1000000000 + x) / w ∧ (r * 1000000000 + x) / w < 1000000000 ∧ 0 ≤ (r * 1000000000 + x) % w ∧ (r * 1000000000 + x) % w < w ∧
      r * 1000000000 + x = w * ((r * 1000000000 + x) / w) + (r * 1000000000 + x) % w := by
  have h1 := Int.emod_nonneg (r * 1000000000 + x) (show w ≠ 0 by omega)
  have h2 := Int.emod_lt_of_pos (r * 1000000000 + x) hw.1
  have h3 := (Int.mul_ediv_add_emod (r * 1000000000 + x) w).symm
  refine ⟨by omega, by omega, Int.ediv_nonneg (by omega) (by omega), ?_, h1, h2, h3⟩
  apply Int.ediv_lt_of_lt_mul hw.1
  omega
def wl (n : Nat) : List Int := if n = 0 then [] else ((n % 1000000000 : Nat) : Int) :: wl (n / 1000000000)
theorem wl_zero : wl 0 = [] := by rw [wl]; rfl
theorem wl_pos {n : Nat} (h : n ≠ 0) : wl n = ((n % 1000000000 : Nat) : Int) :: wl (n / 1000000000) := by rw [wl, if_neg h]
theorem wl_spec (n : Nat) : Norm (wl n) ∧ val (wl n) = n := by
  induction n using Nat.strongRecOn with
  | _ n ih =>
    by_cases h : n = 0
    · subst h; rw [wl_zero]; exact ⟨Norm.nil, rfl⟩
    · obtain ⟨h1, h2⟩ := ih (n / 1000000000) (by omega)
      rw [wl_pos h]
      refine ⟨⟨Dig.cons (by omega) (by omega) h1.1, fun _ => ?_⟩, ?_⟩
      · by_cases h3 : wl (n / 1000000000) = []
        · rw [h3] at h2 ⊢
          simp [val] at h2
          simp
          omega
        · have h4 := h1.2 h3
          have h5 := List.length_pos_iff.2 h3
          rw [List.length_cons, show (wl (n / 1000000000)).length + 1 - 1 = (wl (n / 1000000000)).length - 1 + 1 by omega, List.getD_cons_succ]
          exact h4
      · rw [val_cons, h2]; omega
theorem wl_norm (n : Nat) : Norm (wl n) := (wl_spec n).1
theorem wl_dig (n : Nat) : Dig (wl n) := (wl_norm n).1
theorem wl_val (n : Nat) : val (wl n) = n := (wl_spec n).2
theorem eq_wl {l : List Int} (h : Norm l) {n : Nat} (hv : val l = n) : l = wl n := h.inj (wl_norm n) (by rw [hv, wl_val])
theorem trimL_wl {l : List Int} (h : Dig l) {n : Nat} (hv : val l = n) : trimL l = wl n := by
  obtain ⟨h1, h2, _⟩ := trimL_norm l h
  exact eq_wl h1 (by rw [h2, hv])
theorem cast_pow (k : Nat) : ((1000000000 ^ k : Nat) : Int) = (1000000000 : Int) ^ k := by
  induction k with
  | zero => rfl
  | succ k ih => rw [Nat.pow_succ, Int.pow_succ, ← ih, Int.natCast_mul]; rfl
def Lw (n : Nat) : Nat := (wl n).length
theorem Lw_le {n k : Nat} (h : n < 1000000000 ^ k) : Lw n ≤ k := by
  unfold Lw
  by_cases h0 : wl n = []
  · rw [h0]; simp
  · have h1 := (wl_norm n).lo h0
    rw [wl_val] at h1
    by_cases h2 : (wl n).length ≤ k
    · exact h2
    · have h3 := pow_mono (show k ≤ (wl n).length - 1 by omega)
      have h4 := Int.ofNat_lt.2 h
      rw [cast_pow] at h4
      omega
theorem lt_Lw (n : Nat) : n < 1000000000 ^ Lw n := by
  have := (val_bounds (wl_dig n)).2
  rw [wl_val, ← cast_pow] at this
  exact Int.ofNat_lt.1 this
theorem Lw_mono {a b : Nat} (h : a ≤ b) : Lw a ≤ Lw b := Lw_le (Nat.lt_of_le_of_lt h (lt_Lw b))
theorem Lw_mul (a b : Nat) : Lw (a * b) ≤ Lw a + Lw b := by
  refine Lw_le ?_
  rw [Nat.pow_add]
  exact Nat.mul_lt_mul'' (lt_Lw a) (lt_Lw b)
theorem Lw_add (a b : Nat) : Lw (a + b) ≤ max (Lw a) (Lw b) + 1 := by
  refine Lw_le ?_
  have h1 : 1000000000 ^ Lw a ≤ 1000000000 ^ max (Lw a) (Lw b) := Nat.pow_le_pow_right (by omega) (by omega)
  have h2 : 1000000000 ^ Lw b ≤ 1000000000 ^ max (Lw a) (Lw b) := Nat.pow_le_pow_right (by omega) (by omega)
  have := lt_Lw a
  have := lt_Lw b
  rw [Nat.pow_succ]
  omega
open Go.Sx
def wv (n : Int) : PV := .val (.int .u32 n)
theorem wv_c (n : Int) : wv n = .val (.int .u32 n) := rfl
def wsP (l : List Int) : PV := .sl l.length (l.map wv)
theorem wsP_c (l : List Int) : wsP l = .sl l.length (l.map wv) := rfl
def nP (n : Nat) : PV := wsP (wl n)
theorem nP_c (n : Nat) : nP n = .sl (wl n).length ((wl n).map wv) := rfl
def iP (n : Int) : PV := .val (.int .i64 n)
theorem iP_c (n : Int) : iP n = .val (.int .i64 n) := rfl
theorem rep_wv (n : Nat) : rep n [.val (.int .u32 0)] = (List.replicate n (0 : Int)).map wv := by
  induction n with
  | zero => rfl
  | succ n ih => rw [rep, List.replicate_succ, List.flatten_cons, List.replicate_succ, List.map_cons, ← ih]; rfl
theorem set_wv (l : List Int) (i : Nat) (x : Int) (hi : i < l.length) : (l.take i).map wv ++ [.val (.int .u32 x)] ++ (l.drop (i + 1)).map wv = (l.set i x).map wv := by
  rw [List.set_eq_take_append_cons_drop, if_pos hi, List.map_append, List.map_cons, wv_c, List.append_assoc]; rfl
theorem wv_leaf (l : List Int) : (l.map wv).all leafP = true := by
  induction l with
  | nil => rfl
  | cons x l ih => simp only [List.map_cons, List.all_cons, ih, Bool.and_true]; rfl
end Gb
namespace Go.Proofs.YtnlabeglboomlaaGreatDoor.S
open Go Go.Sx Go.RowKit Gb
variable {G : World → Prop} (hG : ∀ w w', G w → Below w.heap.size w w' → G w')
include hG
set_option maxRecDepth 100000 in
set_option maxHeartbeats 8000000 in
theorem trim_c (l0 : List Int) (hl0 : l0.length < 1000000000000) : Meets Tryz.prog G 104 [.sl l0.length (l0.map wv)] (wsP (trimL l0)) := by
  refine meets_of_vc (Y := {}) (N := 21) (rs := [.tmp 2]) mix tk hG Tryz.func104 rfl (by kernel_rfl) rfl rfl (by simp) (by kernel_rfl) ?_
  simp (maxSteps := 10000000) only [↓sx, sx, ↓ty, wsP_c]
  refine loopK_of (fun l : List Int => [(0, .p (.sl l.length (l.map wv)))]) (fun _ => []) (fun _ => []) (fun l => l.length < 1000000000000 ∧ trimL l = trimL l0) (fun l => l.length) l0 ⟨hl0, rfl⟩ ?_ ?_
  · simp (maxSteps := 10000000) only [isE_nil, is_cons, bo_p, all_nil', ↓sx, sx, ↓reduceIte, Nat.reduceEqDiff]
  · rintro l ⟨hl, ht⟩
    simp (maxSteps := 10000000) only [↓sx, sx, ↓ty, ↓reduceIte, Nat.reduceEqDiff, Nat.reduceLT, wv_c]
    refine vcIf_dec (fun h => ?_) (fun h => ?_)
    · have hw : IntKind.i64.wrap (l.length - 1 : Int) = ((l.length - 1 : Nat) : Int) := by rw [i64_id] <;> omega
      rw [hw]
      simp only [Int.toNat_natCast]
      refine ⟨⟨by omega, by omega, by omega⟩, by omega, ?_⟩
      rw [trimL, dif_neg (by intro h0; rw [h0] at h; simp at h)] at ht
      refine vcIf_b (fun hz => ?_) (fun hz => ?_)
      · rw [beq_iff_eq] at hz
        rw [if_pos hz, List.dropLast_eq_take] at ht
        refine ⟨⟨by omega, by omega, by omega⟩, NextK.mk (l.take (l.length - 1)) ?_ ⟨?_, ht⟩ ?_⟩
        · simp; omega
        · simp; omega
        · simp (maxSteps := 10000000) only [isE_nil, is_cons, bo_p, all_nil', ↓sx, sx, ↓reduceIte]
          simp [hw]
      · rw [beq_eq_false_iff_ne] at hz
        rw [if_neg hz] at ht
        rw [← ht]
    · have h0 : l = [] := List.eq_nil_of_length_eq_zero (by omega)
      subst h0
      rw [trimL, dif_pos rfl] at ht
      rw [← ht]
theorem trim_n (l : List Int) (hl : l.length < 1000000000000) (hd : Dig l) (n : Nat) (hv : val l = n) : Meets Tryz.prog G 104 [.sl l.length (l.map wv)] (nP n) := by
  have := trim_c hG l hl
  rwa [trimL_wl hd hv] at this
set_option maxRecDepth 100000 in
set_option maxHeartbeats 8000000 in
theorem small_n (n : Nat) (hn : n < 4294967296) : Meets Tryz.prog G 68 [.val (.int .u32 n)] (nP n) := by
  refine meets_of_vc (Y := {}) (N := 9) (rs := [.tmp 2]) mix tk hG Tryz.func68 rfl (by kernel_rfl) rfl rfl (by simp) (by kernel_rfl) ?_
  simp (maxSteps := 10000000) only [↓sx, sx, ↓ty, ↓reduceIte, Nat.reduceEqDiff, Nat.reduceAdd, Nat.reduceLeDiff, Int.reduceEq, ne_eq, not_false_eq_true]
  have e1 : (n : Int).tmod 1000000000 = (n : Int) % 1000000000 := tmod_pos (by omega)
  have e2 : IntKind.u32.wrap ((n : Int).tdiv 1000000000) = (n : Int) / 1000000000 := by rw [tdiv_pos (by omega), u32_id (by omega) (by omega)]
  refine CallT.to (trim_n hG [(n : Int) % 1000000000, (n : Int) / 1000000000] (by simp) (Dig.cons (by omega) (by omega) (Dig.cons (by omega) (by omega) Dig.nil)) n (by simp [val]; omega)) (by rw [e1, e2]; rfl) ?_
  simp (maxSteps := 10000000) only [↓sx, sx, ↓reduceIte]
def plusInv (A B : List Int) (s : List Int × Int × Nat) : Prop :=
  s.1.length = s.2.2 ∧ Dig s.1 ∧ 0 ≤ s.2.1 ∧ s.2.1 ≤ 1 ∧ (s.2.2 ≤ max A.length B.length ∨ s.2.2 = max A.length B.length + 1 ∧ s.2.1 = 0) ∧ val s.1 + 1000000000 ^ s.2.2 * (val (A.drop s.2.2) + val (B.drop s.2.2) + s.2.1) = val A + val B
set_option maxRecDepth 100000 in
set_option maxHeartbeats 8000000 in
theorem plus_n (a b : Nat) (ha : Lw a < 1000000) (hb : Lw b < 1000000) : Meets Tryz.prog G 124 [nP a, nP b] (nP (a + b)) := by
  refine meets_of_vc (Y := {}) (N := 55) (rs := [.tmp 4]) mix tk hG Tryz.func124 rfl (by kernel_rfl) rfl rfl (by simp) (by kernel_rfl) ?_
  unfold Lw at ha hb
  rw [show nP a = .sl (wl a).length ((wl a).map wv) from rfl, show nP b = .sl (wl b).length ((wl b).map wv) from rfl]
  have hA := wl_dig a
  have hB := wl_dig b
  have hva := wl_val a
  have hvb := wl_val b
  generalize wl a = A at *
  generalize wl b = B at *
  simp (maxSteps := 10000000) only [↓sx, sx, ↓ty, ↓reduceIte, Nat.reduceEqDiff]
  refine loopK_of (fun s : List Int × Int × Nat => [(0, .p (.sl A.length (A.map wv))), (1, .p (.sl B.length (B.map wv))), (5, .orow 5), (6, .p (.val (.int .u32 s.2.1))), (7, .p (.val (.int .i64 (s.2.2 : Nat))))]) (fun _ => []) (fun s => [(5, ⟨95, 1, s.1.length, s.1.map wv, false⟩)]) (plusInv A B) (fun s => max A.length B.length + 2 - s.2.2) ([], 0, 0) ?_ ?_ ?_
  · refine ⟨rfl, Dig.nil, Int.le_refl _, by decide, .inl (Nat.zero_le _), ?_⟩
    simp [val_nil]
  · simp (maxSteps := 10000000) only [isE_nil, is_cons, bo_p, bo_orow, any_cons', all_cons', all_nil', Bool.true_or, ↓sx, sx, ↓reduceIte, Nat.reduceEqDiff]
    rfl
  · rintro ⟨out, c, i⟩ ⟨h1, h2, h3, h4, h5, h6⟩
    dsimp only at h1 h2 h3 h4 h5 h6 ⊢
    simp (maxSteps := 10000000) only [↓sx, sx, ↓ty, ↓reduceIte, Nat.reduceEqDiff, Nat.reduceAdd, Nat.reduceLeDiff, Nat.reduceLT, Int.reduceEq, ne_eq, not_false_eq_true, wv_c]
    have hx : 0 ≤ A.getD i 0 ∧ A.getD i 0 < 1000000000 := hA.getD i
    have hy : 0 ≤ B.getD i 0 ∧ B.getD i 0 < 1000000000 := hB.getD i
    have fin : ∀ {e : Env} {h : Hp} {ρ : Rws} {t : Tag (plusInv A B, (fun s : List Int × Int × Nat => max A.length B.length + 2 - s.2.2), e, h, ρ)} (s : Int), s = c + A.getD i 0 + B.getD i 0 → (i < max A.length B.length ∨ 0 < c) →
        e 0 = .p (.sl A.length (A.map wv)) → e 1 = .p (.sl B.length (B.map wv)) → e 5 = .orow 5 → e 6 = .p (.val (.int .u32 (IntKind.u32.wrap (s.tdiv 1000000000)))) → e 7 = .p (.val (.int .i64 (IntKind.i64.wrap ((i : Int) + 1)))) → ρ 5 = some ⟨95, 1, out.length + 1, out.map wv ++ [.val (.int .u32 (s.tmod 1000000000))], false⟩ →
        (out.length + 1 ≤ maxLen ∧ (out.length + 1) * 4 ≤ 140737488355328) ∧ NextK (fun s : List Int × Int × Nat => [(0, .p (.sl A.length (A.map wv))), (1, .p (.sl B.length (B.map wv))), (5, .orow 5), (6, .p (.val (.int .u32 s.2.1))), (7, .p (.val (.int .i64 (s.2.2 : Nat))))]) (fun _ => []) (fun s => [(5, ⟨95, 1, s.1.length, s.1.map wv, false⟩)]) (plusInv A B) (fun s => max A.length B.length + 2 - s.2.2) (out, c, i) e h ρ t := by
      intro e h ρ t s hs hgo e0 e1 e5 e6 e7 r5
      have hs0 : 0 ≤ s ∧ s < 2000000000 := by omega
      rw [tdiv_pos hs0.1, u32_id (by omega) (by omega)] at e6
      rw [tmod_pos hs0.1] at r5
      rw [i64_id (by omega) (by omega)] at e7
      refine ⟨⟨by simp only [maxLen]; omega, by omega⟩, NextK.mk (out ++ [s % 1000000000], s / 1000000000, i + 1) (by dsimp only; omega) ?_ ?_⟩
      · refine ⟨by simp [h1], h2.snoc (by omega) (by omega), by dsimp only; omega, by dsimp only; omega, ?_, ?_⟩
        · dsimp only
          rcases h5 with h5 | h5
          · rcases Nat.lt_or_ge i (max A.length B.length) with hi | hi
            · exact .inl hi
            · right
              have h7 : A.getD i 0 = 0 := getD_out (by omega)
              have h8 : B.getD i 0 = 0 := getD_out (by omega)
              omega
          · omega
        · dsimp only
          rw [val_snoc, h1]
          rw [val_drop' A i, val_drop' B i] at h6
          rw [← h6, Int.pow_succ]
          have : s = 1000000000 * (s / 1000000000) + s % 1000000000 := by omega
          generalize s / 1000000000 = q at *
          generalize s % 1000000000 = r at *
          generalize val (A.drop (i + 1)) = p1 at *
          generalize val (B.drop (i + 1)) = p2 at *
          grind
      · simp (maxSteps := 10000000) only [isE_nil, is_cons, bo_p, bo_orow, any_cons', all_cons', all_nil', Bool.true_or, ↓sx, sx, e0, e1, e5, e6, e7, r5]
        simp [wv_c]
    refine vcIf_dec (fun ha => ?_) (fun ha => ?_)
    · simp only [ha, decide_true, vcIf_true]
      refine ⟨⟨by omega, by omega, by omega⟩, by omega, ?_⟩
      refine vcIf_dec (fun hb => ?_) (fun hb => ?_)
      · refine ⟨⟨by omega, by omega, by omega⟩, by omega, ?_⟩
        rw [u32_id (x := c + A.getD i 0) (by omega) (by omega), u32_id (x := c + A.getD i 0 + B.getD i 0) (by omega) (by omega)]
        refine fin (c + A.getD i 0 + B.getD i 0) rfl (by omega) ?_ ?_ ?_ ?_ ?_ ?_
        all_goals (simp (maxSteps := 10000000) only [↓sx, sx, ↓reduceIte, Nat.reduceEqDiff]; done)
      · have h8 : B.getD i 0 = 0 := getD_out (by omega)
        rw [u32_id (x := c + A.getD i 0) (by omega) (by omega)]
        refine fin (c + A.getD i 0) (by omega) (by omega) ?_ ?_ ?_ ?_ ?_ ?_
        all_goals (simp (maxSteps := 10000000) only [↓sx, sx, ↓reduceIte, Nat.reduceEqDiff]; done)
    · have h7 : A.getD i 0 = 0 := getD_out (by omega)
      simp only [ha, decide_false, vcIf_false]
      refine vcIf_dec (fun hb => ?_) (fun hb => ?_)
      · simp only [hb, decide_true, vcIf_true]
        refine ⟨⟨by omega, by omega, by omega⟩, by omega, ?_⟩
        rw [u32_id (x := c + B.getD i 0) (by omega) (by omega)]
        refine fin (c + B.getD i 0) (by omega) (by omega) ?_ ?_ ?_ ?_ ?_ ?_
        all_goals (simp (maxSteps := 10000000) only [↓sx, sx, ↓reduceIte, Nat.reduceEqDiff]; done)
      · have h8 : B.getD i 0 = 0 := getD_out (by omega)
        simp only [hb, decide_false, vcIf_false]
        refine vcIf_dec (fun hc => ?_) (fun hc => ?_)
        · refine fin c (by omega) (by omega) ?_ ?_ ?_ ?_ ?_ ?_
          all_goals (simp (maxSteps := 10000000) only [↓sx, sx, ↓reduceIte, Nat.reduceEqDiff]; done)
        · obtain rfl : c = 0 := by omega
          rw [List.drop_eq_nil_of_le (show A.length ≤ i by omega), List.drop_eq_nil_of_le (show B.length ≤ i by omega)] at h6
          simp only [val_nil, Int.add_zero, Int.mul_zero] at h6
          refine CallT.mk (trim_n hG out (by omega) h2 (a + b) (by omega)) ?_
          simp (maxSteps := 10000000) only [↓sx, sx, ↓reduceIte]
end Go.Proofs.YtnlabeglboomlaaGreatDoor.S
namespace Go.Proofs.YtnlabeglboomlaaGreatDoor.S
open Go Go.Sx Go.RowKit Gb
variable {G : World → Prop} (hG : ∀ w w', G w → Below w.heap.size w w' → G w')
include hG
set_option maxRecDepth 100000 in
set_option maxHeartbeats 8000000 in
theorem cmp_n (a b : Nat) (ha : Lw a < 1000000000) (hb : Lw b < 1000000000) : Meets Tryz.prog G 69 [nP a, nP b] (iP (cmpI a b)) := by
  refine meets_of_vc (Y := {}) (N := 41) (rs := [.tmp 4]) mix tk hG Tryz.func69 rfl (by kernel_rfl) rfl rfl (by simp) (by kernel_rfl) ?_
  unfold Lw at ha hb
  rw [show nP a = .sl (wl a).length ((wl a).map wv) from rfl, show nP b = .sl (wl b).length ((wl b).map wv) from rfl]
  have hA := wl_norm a
  have hB := wl_norm b
  have hva := wl_val a
  have hvb := wl_val b
  generalize wl a = A at *
  generalize wl b = B at *
  simp (maxSteps := 10000000) only [↓sx, sx, ↓ty, ↓reduceIte, Nat.reduceEqDiff, iP_c]
  refine vcIf_b (fun hl => ?_) (fun hl => ?_)
  · rw [bne_iff_ne] at hl
    refine vcIf_dec (fun h => ?_) (fun h => ?_)
    · have := hB.len_lt hA.1 (by omega)
      rw [cmpI, if_pos (by omega)]
    · have := hA.len_lt hB.1 (by omega)
      rw [cmpI, if_neg (by omega), if_pos (by omega)]
  · have hl : A.length = B.length := by simp at hl; omega
    have hw : IntKind.i64.wrap ((A.length : Int) - 1) = (A.length : Int) - 1 := i64_id (by omega) (by omega)
    rw [hw]
    refine loopK_of (fun n : Nat => [(0, .p (.sl A.length (A.map wv))), (1, .p (.sl B.length (B.map wv))), (5, .p (.val (.int .i64 ((n : Int) - 1))))]) (fun _ => []) (fun _ => []) (fun n => n ≤ A.length ∧ val (A.drop n) = val (B.drop n)) (fun n => n) A.length ⟨Nat.le_refl _, ?_⟩ ?_ ?_
    · rw [List.drop_length, hl, List.drop_length]
    · simp (maxSteps := 10000000) only [isE_nil, is_cons, bo_p, all_nil', ↓sx, sx, ↓reduceIte, Nat.reduceEqDiff]
    · rintro n ⟨h1, h2⟩
      simp (maxSteps := 10000000) only [↓sx, sx, ↓ty, ↓reduceIte, Nat.reduceEqDiff, wv_c]
      refine vcIf_dec (fun h => ?_) (fun h => ?_)
      · obtain ⟨m, rfl⟩ : ∃ m, n = m + 1 := ⟨n - 1, by omega⟩
        rw [show (((m + 1 : Nat) : Int) - 1) = (m : Int) by omega]
        simp only [Int.toNat_natCast]
        refine ⟨by omega, by omega, by omega, by omega, ?_⟩
        have hx := hA.1.getD m
        have hy := hB.1.getD m
        refine vcIf_dec (fun h3 => ?_) (fun h3 => ?_)
        · have := cmp_drop A B hA.1 hB.1 m h2 h3 (by omega) (by omega)
          rw [cmpI, if_pos (by omega)]
        · refine ⟨by omega, by omega, by omega, by omega, ?_⟩
          refine vcIf_dec (fun h4 => ?_) (fun h4 => ?_)
          · have := cmp_drop B A hB.1 hA.1 m h2.symm h4 (by omega) (by omega)
            rw [cmpI, if_neg (by omega), if_pos (by omega)]
          · refine NextK.mk m (by omega) ⟨by omega, ?_⟩ ?_
            · rw [val_drop' A m, val_drop' B m, h2]; omega
            · simp (maxSteps := 10000000) only [isE_nil, is_cons, bo_p, all_nil', ↓sx, sx, ↓reduceIte, Nat.reduceEqDiff, i64_id (x := (m : Int) - 1) (by omega) (by omega)]
      · obtain rfl : n = 0 := by omega
        simp only [List.drop_zero] at h2
        rw [cmpI, if_neg (by omega), if_neg (by omega)]
def minusInv (A B : List Int) (s : List Int × Int × Nat) : Prop :=
  s.1.length = s.2.2 ∧ Dig s.1 ∧ 0 ≤ s.2.1 ∧ s.2.1 ≤ 1 ∧ s.2.2 ≤ A.length ∧ s.2.1 + val (B.drop s.2.2) ≤ val (A.drop s.2.2) ∧ val s.1 + 1000000000 ^ s.2.2 * (val (A.drop s.2.2) - val (B.drop s.2.2) - s.2.1) = val A - val B
set_option maxRecDepth 100000 in
set_option maxHeartbeats 8000000 in
theorem minus_n (a b : Nat) (ha : Lw a < 1000000) (hb : Lw b < 1000000) (hle : b ≤ a) : Meets Tryz.prog G 125 [nP a, nP b] (nP (a - b)) := by
  refine meets_of_vc (Y := {}) (N := 44) (rs := [.tmp 4]) mix tk hG Tryz.func125 rfl (by kernel_rfl) rfl rfl (by simp) (by kernel_rfl) ?_
  unfold Lw at ha hb
  rw [show nP a = .sl (wl a).length ((wl a).map wv) from rfl, show nP b = .sl (wl b).length ((wl b).map wv) from rfl]
  have hA := wl_norm a
  have hB := wl_norm b
  have hva := wl_val a
  have hvb := wl_val b
  generalize wl a = A at *
  generalize wl b = B at *
  simp (maxSteps := 10000000) only [↓sx, sx, ↓ty, ↓reduceIte, Nat.reduceEqDiff]
  refine loopK_of (fun s : List Int × Int × Nat => [(0, .p (.sl A.length (A.map wv))), (1, .p (.sl B.length (B.map wv))), (5, .orow 5), (6, .p (.val (.int .i64 s.2.1))), (7, .p (.val (.int .i64 (s.2.2 : Nat))))]) (fun _ => []) (fun s => [(5, ⟨95, 1, s.1.length, s.1.map wv, false⟩)]) (minusInv A B) (fun s => A.length - s.2.2) ([], 0, 0) ?_ ?_ ?_
  · refine ⟨rfl, Dig.nil, Int.le_refl _, by decide, Nat.zero_le _, ?_, ?_⟩
    · simp only [List.drop_zero]; omega
    · simp [val_nil]
  · simp (maxSteps := 10000000) only [isE_nil, is_cons, bo_p, bo_orow, any_cons', all_cons', all_nil', Bool.true_or, ↓sx, sx, ↓reduceIte, Nat.reduceEqDiff]
    rfl
  · rintro ⟨out, c, i⟩ ⟨h1, h2, h3, h4, h5, h5b, h6⟩
    dsimp only at h1 h2 h3 h4 h5 h5b h6 ⊢
    simp (maxSteps := 10000000) only [↓sx, sx, ↓ty, ↓reduceIte, Nat.reduceEqDiff, Nat.reduceAdd, Nat.reduceLeDiff, Nat.reduceLT, ne_eq, not_false_eq_true, wv_c]
    have hx : 0 ≤ A.getD i 0 ∧ A.getD i 0 < 1000000000 := hA.1.getD i
    have hy : 0 ≤ B.getD i 0 ∧ B.getD i 0 < 1000000000 := hB.1.getD i
    refine vcIf_dec (fun hi => ?_) (fun hi => ?_)
    · have fin : ∀ {e : Env} {h : Hp} {ρ : Rws} {t : Tag (minusInv A B, (fun s : List Int × Int × Nat => A.length - s.2.2), e, h, ρ)} (s c' : Int), s = A.getD i 0 - c - B.getD i 0 + 1000000000 * c' → 0 ≤ s → s < 1000000000 → 0 ≤ c' → c' ≤ 1 →
        e 0 = .p (.sl A.length (A.map wv)) → e 1 = .p (.sl B.length (B.map wv)) → e 5 = .orow 5 → e 6 = .p (.val (.int .i64 c')) → e 7 = .p (.val (.int .i64 (IntKind.i64.wrap ((i : Int) + 1)))) → ρ 5 = some ⟨95, 1, out.length + 1, out.map wv ++ [.val (.int .u32 s)], false⟩ →
        (out.length + 1 ≤ maxLen ∧ (out.length + 1) * 4 ≤ 140737488355328) ∧ NextK (fun s : List Int × Int × Nat => [(0, .p (.sl A.length (A.map wv))), (1, .p (.sl B.length (B.map wv))), (5, .orow 5), (6, .p (.val (.int .i64 s.2.1))), (7, .p (.val (.int .i64 (s.2.2 : Nat))))]) (fun _ => []) (fun s => [(5, ⟨95, 1, s.1.length, s.1.map wv, false⟩)]) (minusInv A B) (fun s => A.length - s.2.2) (out, c, i) e h ρ t := by
        intro e h ρ t s c' hs hs0 hs1 hc0 hc1 e0 e1 e5 e6 e7 r5
        rw [i64_id (by omega) (by omega)] at e7
        rw [val_drop' A i, val_drop' B i] at h5b h6
        refine ⟨⟨by simp only [maxLen]; omega, by omega⟩, NextK.mk (out ++ [s], c', i + 1) (by dsimp only; omega) ?_ ?_⟩
        · refine ⟨by simp [h1], h2.snoc (by omega) (by omega), hc0, hc1, by dsimp only; omega, by dsimp only; omega, ?_⟩
          dsimp only
          rw [val_snoc, h1, ← h6, Int.pow_succ]
          generalize val (A.drop (i + 1)) = p1 at *
          generalize val (B.drop (i + 1)) = p2 at *
          subst hs
          grind
        · simp (maxSteps := 10000000) only [isE_nil, is_cons, bo_p, bo_orow, any_cons', all_cons', all_nil', Bool.true_or, ↓sx, sx, e0, e1, e5, e6, e7, r5]
          simp [wv_c]
      rw [i64_id (x := A.getD i 0) (by omega) (by omega), i64_id (x := A.getD i 0 - c) (by omega) (by omega)]
      refine ⟨by omega, by omega, ?_⟩
      refine vcIf_dec (fun hb => ?_) (fun hb => ?_)
      · rw [i64_id (x := B.getD i 0) (by omega) (by omega), i64_id (x := A.getD i 0 - c - B.getD i 0) (by omega) (by omega)]
        refine ⟨by omega, by omega, ?_⟩
        refine vcIf_dec (fun hn => ?_) (fun hn => ?_)
        · rw [i64_id (x := A.getD i 0 - c - B.getD i 0 + 1000000000) (by omega) (by omega), u32_id (x := A.getD i 0 - c - B.getD i 0 + 1000000000) (by omega) (by omega)]
          refine fin (A.getD i 0 - c - B.getD i 0 + 1000000000) 1 (by omega) (by omega) (by omega) (by omega) (by omega) ?_ ?_ ?_ ?_ ?_ ?_
          all_goals (simp (maxSteps := 10000000) only [↓sx, sx, ↓reduceIte, Nat.reduceEqDiff]; done)
        · rw [u32_id (x := A.getD i 0 - c - B.getD i 0) (by omega) (by omega)]
          refine fin (A.getD i 0 - c - B.getD i 0) 0 (by omega) (by omega) (by omega) (by omega) (by omega) ?_ ?_ ?_ ?_ ?_ ?_
          all_goals (simp (maxSteps := 10000000) only [↓sx, sx, ↓reduceIte, Nat.reduceEqDiff]; done)
      · have h8 : B.getD i 0 = 0 := getD_out (by omega)
        refine vcIf_dec (fun hn => ?_) (fun hn => ?_)
        · rw [i64_id (x := A.getD i 0 - c + 1000000000) (by omega) (by omega), u32_id (x := A.getD i 0 - c + 1000000000) (by omega) (by omega)]
          refine fin (A.getD i 0 - c + 1000000000) 1 (by omega) (by omega) (by omega) (by omega) (by omega) ?_ ?_ ?_ ?_ ?_ ?_
          all_goals (simp (maxSteps := 10000000) only [↓sx, sx, ↓reduceIte, Nat.reduceEqDiff]; done)
        · rw [u32_id (x := A.getD i 0 - c) (by omega) (by omega)]
          refine fin (A.getD i 0 - c) 0 (by omega) (by omega) (by omega) (by omega) (by omega) ?_ ?_ ?_ ?_ ?_ ?_
          all_goals (simp (maxSteps := 10000000) only [↓sx, sx, ↓reduceIte, Nat.reduceEqDiff]; done)
    · obtain rfl : i = A.length := by omega
      rw [List.drop_length, val_nil] at h5b h6
      have := val_nonneg (hB.1.drop A.length)
      have h9 : c = 0 := by omega
      have h10 : val (B.drop A.length) = 0 := by omega
      rw [h9, h10] at h6
      simp only [Int.sub_zero, Int.mul_zero, Int.add_zero] at h6
      refine CallT.mk (trim_n hG out (by omega) h2 (a - b) (by omega)) ?_
      simp (maxSteps := 10000000) only [↓sx, sx, ↓reduceIte]
end Go.Proofs.YtnlabeglboomlaaGreatDoor.S
namespace Go.Proofs.YtnlabeglboomlaaGreatDoor.S
open Go Go.Sx Go.RowKit Gb
variable {G : World → Prop} (hG : ∀ w w', G w → Below w.heap.size w w' → G w')
include hG
set_option maxRecDepth 100000 in
set_option maxHeartbeats 8000000 in
theorem word_n (a : Nat) (ha : Lw a ≤ 2) : Meets Tryz.prog G 105 [nP a] (.val (.int .u64 a)) := by
  refine meets_of_vc (Y := {}) (N := 21) (rs := [.tmp 2]) mix tk hG Tryz.func105 rfl (by kernel_rfl) rfl rfl (by simp) (by kernel_rfl) ?_
  unfold Lw at ha
  rw [show nP a = .sl (wl a).length ((wl a).map wv) from rfl]
  have hA := wl_norm a
  have hva := wl_val a
  generalize wl a = A at *
  simp (maxSteps := 10000000) only [↓sx, sx, ↓ty, ↓reduceIte, Nat.reduceEqDiff]
  have hw : IntKind.i64.wrap ((A.length : Int) - 1) = (A.length : Int) - 1 := i64_id (by omega) (by omega)
  rw [hw]
  refine loopK_of (fun n : Nat => [(0, .p (.sl A.length (A.map wv))), (3, .p (.val (.int .u64 (val (A.drop n))))), (4, .p (.val (.int .i64 ((n : Int) - 1))))]) (fun _ => []) (fun _ => []) (fun n => n ≤ A.length) (fun n => n) A.length (Nat.le_refl _) ?_ ?_
  · simp (maxSteps := 10000000) only [isE_nil, is_cons, bo_p, all_nil', ↓sx, sx, ↓reduceIte, Nat.reduceEqDiff]
    rw [List.drop_length]; rfl
  · intro n h1
    simp (maxSteps := 10000000) only [↓sx, sx, ↓ty, ↓reduceIte, Nat.reduceEqDiff, wv_c]
    refine vcIf_dec (fun h => ?_) (fun h => ?_)
    · obtain ⟨m, rfl⟩ : ∃ m, n = m + 1 := ⟨n - 1, by omega⟩
      rw [show (((m + 1 : Nat) : Int) - 1) = (m : Int) by omega]
      simp only [Int.toNat_natCast]
      have hx := hA.1.getD m
      have hd := val_bounds (hA.1.drop (m + 1))
      have hl : (A.drop (m + 1)).length ≤ 1 := by rw [List.length_drop]; omega
      have hp := pow_mono hl
      have h9 : val (A.drop (m + 1)) < 1000000000 := by omega
      refine ⟨by omega, by omega, NextK.mk m (by omega) (by omega) ?_⟩
      simp (maxSteps := 10000000) only [isE_nil, is_cons, bo_p, all_nil', ↓sx, sx, ↓reduceIte, Nat.reduceEqDiff, i64_id (x := (m : Int) - 1) (by omega) (by omega), u64_id (x := A.getD m 0) (by omega) (by omega), u64_id (x := val (A.drop (m + 1)) * 1000000000) (by omega) (by omega), u64_id (x := val (A.drop (m + 1)) * 1000000000 + A.getD m 0) (by omega) (by omega)]
      rw [val_drop' A m, show val (A.drop (m + 1)) * 1000000000 + A.getD m 0 = A.getD m 0 + 1000000000 * val (A.drop (m + 1)) by omega]
    · obtain rfl : n = 0 := by omega
      rw [List.drop_zero, hva]
set_option maxRecDepth 100000 in
set_option maxHeartbeats 8000000 in
theorem wide_n (n : Nat) (hn : n < 1000000000000000000) : Meets Tryz.prog G 106 [.val (.int .u64 n)] (nP n) := by
  refine meets_of_vc (Y := {}) (N := 16) (rs := [.tmp 2]) mix tk hG Tryz.func106 rfl (by kernel_rfl) rfl rfl (by simp) (by kernel_rfl) ?_
  simp (maxSteps := 10000000) only [↓sx, sx, ↓ty, ↓reduceIte, Nat.reduceEqDiff, Nat.reduceAdd, Nat.reduceLeDiff, Int.reduceEq, ne_eq, not_false_eq_true]
  have e1 : IntKind.u32.wrap ((n : Int).tmod 1000000000) = (n : Int) % 1000000000 := by rw [tmod_pos (by omega), u32_id (by omega) (by omega)]
  have e2 : IntKind.u64.wrap ((n : Int).tdiv 1000000000) = (n : Int) / 1000000000 := by rw [tdiv_pos (by omega), u64_id (by omega) (by omega)]
  have e3 : IntKind.u32.wrap (((n : Int) / 1000000000).tmod 1000000000) = (n : Int) / 1000000000 := by rw [tmod_pos (by omega), u32_id (by omega) (by omega)]; omega
  have e4 : IntKind.u32.wrap (IntKind.u64.wrap (((n : Int) / 1000000000).tdiv 1000000000)) = 0 := by rw [tdiv_pos (by omega), u64_id (by omega) (by omega), u32_id (by omega) (by omega)]; omega
  refine CallT.to (trim_n hG [(n : Int) % 1000000000, (n : Int) / 1000000000, 0] (by simp) (Dig.cons (by omega) (by omega) (Dig.cons (by omega) (by omega) (Dig.cons (by omega) (by omega) Dig.nil))) n (by simp [val]; omega)) (by rw [e1, e2, e3, e4]; rfl) ?_
  simp (maxSteps := 10000000) only [↓sx, sx, ↓reduceIte]
def timesInv (A B : List Int) (s : List Int × Nat) : Prop :=
  Dig s.1 ∧ s.1.length = A.length + B.length ∧ Zf s.1 (s.2 + B.length) ∧ s.2 ≤ A.length ∧ val s.1 + 1000000000 ^ s.2 * val (A.drop s.2) * val B = val A * val B
def timesInv2 (A B : List Int) (i : Nat) (s : List Int × Int × Nat) : Prop :=
  Dig s.1 ∧ s.1.length = A.length + B.length ∧ Zf s.1 (i + B.length) ∧ 0 ≤ s.2.1 ∧ s.2.1 < 1000000000 ∧ s.2.2 ≤ B.length ∧
    val s.1 + s.2.1 * 1000000000 ^ (i + s.2.2) + A.getD i 0 * 1000000000 ^ (i + s.2.2) * val (B.drop s.2.2) + 1000000000 ^ (i + 1) * val (A.drop (i + 1)) * val B = val A * val B
set_option maxRecDepth 100000 in
set_option maxHeartbeats 8000000 in
theorem times_n (a b : Nat) (ha : Lw a < 1000000) (hb : Lw b < 1000000) : Meets Tryz.prog G 98 [nP a, nP b] (nP (a * b)) := by
  refine meets_of_vc (Y := {}) (N := 77) (rs := [.tmp 4]) mix tk hG Tryz.func98 rfl (by kernel_rfl) rfl rfl (by simp) (by kernel_rfl) ?_
  unfold Lw at ha hb
  rw [show nP a = .sl (wl a).length ((wl a).map wv) from rfl, show nP b = .sl (wl b).length ((wl b).map wv) from rfl]
  have hA := wl_norm a
  have hB := wl_norm b
  have hva := wl_val a
  have hvb := wl_val b
  generalize wl a = A at *
  generalize wl b = B at *
  simp (maxSteps := 10000000) only [↓sx, sx, ↓ty, ↓reduceIte, Nat.reduceEqDiff, Nat.reduceAdd, Nat.reduceLT]
  refine vcIf_b (fun h0 => ?_) (fun h0 => ?_)
  · have : A = [] := by simpa using h0
    subst this
    rw [show a * b = 0 by rw [show a = 0 by simp [val] at hva; omega, Nat.zero_mul]]
    rw [nP_c, wl_zero]; rfl
  refine vcIf_b (fun h1 => ?_) (fun h1 => ?_)
  · have : B = [] := by simpa using h1
    subst this
    rw [show a * b = 0 by rw [show b = 0 by simp [val] at hvb; omega, Nat.mul_zero]]
    rw [nP_c, wl_zero]; rfl
  have hw : IntKind.i64.wrap ((A.length : Int) + (B.length : Int)) = ((A.length + B.length : Nat) : Int) := by rw [i64_id] <;> omega
  rw [hw]
  refine ⟨by omega, ?_⟩
  refine loopK_of (fun s : List Int × Nat => [(0, .p (.sl A.length (A.map wv))), (1, .p (.sl B.length (B.map wv))), (5, .orow 23), (6, .p (.val (.int .i64 (s.2 : Nat))))]) (fun _ => []) (fun s => [(23, ⟨95, 1, s.1.length, s.1.map wv, false⟩)]) (timesInv A B) (fun s => A.length - s.2) (List.replicate (A.length + B.length) 0, 0) ?_ ?_ ?_
  · refine ⟨Dig.replicate _, by simp, Zf.replicate _ _, Nat.zero_le _, ?_⟩
    simp [val_replicate]
  · simp (maxSteps := 10000000) only [isE_nil, is_cons, bo_p, bo_orow, any_cons', all_cons', all_nil', Bool.true_or, ↓sx, sx, ↓reduceIte, Nat.reduceEqDiff]
    simp [rep_wv, hw]
  · rintro ⟨out, i⟩ ⟨h2, h3, h4, h5, h6⟩
    dsimp only at h2 h3 h4 h5 h6 ⊢
    simp (maxSteps := 10000000) only [↓sx, sx, ↓ty, ↓reduceIte, Nat.reduceEqDiff]
    refine vcIf_dec (fun hi => ?_) (fun hi => ?_)
    · refine loopK_of (fun s : List Int × Int × Nat => [(0, .p (.sl A.length (A.map wv))), (1, .p (.sl B.length (B.map wv))), (5, .orow 23), (6, .p (.val (.int .i64 (i : Nat)))), (7, .p (.val (.int .u64 s.2.1))), (8, .p (.val (.int .i64 (s.2.2 : Nat))))]) (fun _ => []) (fun s => [(23, ⟨95, 1, s.1.length, s.1.map wv, false⟩)]) (timesInv2 A B i) (fun s => B.length - s.2.2) (out, 0, 0) ?_ ?_ ?_
      · refine ⟨h2, h3, h4, Int.le_refl _, by dsimp only; omega, Nat.zero_le _, ?_⟩
        dsimp only
        rw [← h6, val_drop' A i, List.drop_zero, Int.pow_succ]
        simp only [Nat.add_zero]
        generalize val (A.drop (i + 1)) = p
        grind
      · simp (maxSteps := 10000000) only [isE_nil, is_cons, bo_p, bo_orow, any_cons', all_cons', all_nil', Bool.true_or, ↓sx, sx, ↓reduceIte, Nat.reduceEqDiff]
        rfl
      · rintro ⟨o, c, j⟩ ⟨g1, g2, g3, g4, g4b, g5, g6⟩
        dsimp only at g1 g2 g3 g4 g4b g5 g6 ⊢
        simp (maxSteps := 10000000) only [↓sx, sx, ↓ty, ↓reduceIte, Nat.reduceEqDiff, Nat.reduceAdd, Int.reduceEq, wv_c]
        refine vcIf_dec (fun hj => ?_) (fun hj => ?_)
        · have hx := hA.1.getD i
          have hy := hB.1.getD j
          have ho := g1.getD (i + j)
          have hs := mul_step ho hx hy ⟨g4, g4b⟩
          have e1 : IntKind.i64.wrap ((i : Int) + (j : Int)) = ((i + j : Nat) : Int) := by rw [i64_id] <;> omega
          rw [e1]
          simp only [Int.toNat_natCast]
          rw [u64_id (x := o.getD (i + j) 0) (by omega) (by omega), u64_id (x := A.getD i 0) (by omega) (by omega), u64_id (x := B.getD j 0) (by omega) (by omega), u64_id (x := A.getD i 0 * B.getD j 0) (by omega) (by omega), u64_id (x := o.getD (i + j) 0 + A.getD i 0 * B.getD j 0) (by omega) (by omega), u64_id (x := o.getD (i + j) 0 + A.getD i 0 * B.getD j 0 + c) (by omega) (by omega)]
          generalize hs' : o.getD (i + j) 0 + A.getD i 0 * B.getD j 0 + c = s at *
          have hs0 : 0 ≤ s ∧ s < 1000000000000000000 := by omega
          rw [tmod_pos hs0.1, tdiv_pos hs0.1, u32_id (x := s % 1000000000) (by omega) (by omega), u64_id (x := s / 1000000000) (by omega) (by omega)]
          refine ⟨by omega, by omega, by omega, by omega, by omega, by omega, by omega, by omega, ?_⟩
          refine NextK.mk (o.set (i + j) (s % 1000000000), s / 1000000000, j + 1) (by dsimp only; omega) ⟨g1.set _ (by omega) (by omega), by simp [g2], g3.set _ _ (by omega), by dsimp only; omega, by dsimp only; omega, by dsimp only; omega, ?_⟩ ?_
          · dsimp only
            rw [val_set _ _ _ (by omega), ← g6, val_drop B j (by omega), ← Nat.add_assoc, Int.pow_succ]
            have : s = 1000000000 * (s / 1000000000) + s % 1000000000 := by omega
            generalize s / 1000000000 = q at *
            generalize s % 1000000000 = t at *
            subst this
            generalize val (A.drop (i + 1)) = p1 at *
            generalize val (B.drop (j + 1)) = p2 at *
            grind
          · simp (maxSteps := 10000000) only [isE_nil, is_cons, bo_p, bo_orow, any_cons', all_cons', all_nil', Bool.true_or, ↓sx, sx, ↓reduceIte, Nat.reduceEqDiff]
            rw [set_wv _ _ _ (by omega), i64_id (by omega) (by omega)]
            simp
        · obtain rfl : j = B.length := by omega
          have e1 : IntKind.i64.wrap ((i : Int) + (B.length : Int)) = ((i + B.length : Nat) : Int) := by rw [i64_id] <;> omega
          rw [e1]
          simp only [Int.toNat_natCast]
          rw [u32_id (x := c) (by omega) (by omega)]
          refine ⟨by omega, by omega, ?_⟩
          have hz := g3 (i + B.length) (Nat.le_refl _)
          refine NextK.mk (o.set (i + B.length) c, i + 1) (by dsimp only; omega) ⟨g1.set _ g4 g4b, by simp [g2], (Zf.mono g3 (by omega)).set _ _ (by dsimp only; omega), by dsimp only; omega, ?_⟩ ?_
          · dsimp only
            rw [val_set _ _ _ (by omega), ← g6, hz, List.drop_length, val_nil]
            grind
          · simp (maxSteps := 10000000) only [isE_nil, is_cons, bo_p, bo_orow, any_cons', all_cons', all_nil', Bool.true_or, ↓sx, sx, ↓reduceIte, Nat.reduceEqDiff]
            rw [set_wv _ _ _ (by omega), i64_id (by omega) (by omega)]
            simp
    · obtain rfl : i = A.length := by omega
      rw [List.drop_length, val_nil] at h6
      refine CallT.mk (trim_n hG out (by omega) h2 (a * b) (by rw [Int.natCast_mul]; grind)) ?_
      simp (maxSteps := 10000000) only [↓sx, sx, ↓reduceIte]
end Go.Proofs.YtnlabeglboomlaaGreatDoor.S
namespace Go.Proofs.YtnlabeglboomlaaGreatDoor.S
open Go Go.Sx Go.RowKit Gb
variable {G : World → Prop} (hG : ∀ w w', G w → Below w.heap.size w w' → G w')
include hG
def smallInv (A : List Int) (w : Int) (s : List Int × Int × Nat) : Prop :=
  s.2.2 ≤ A.length ∧ Dig s.1 ∧ s.1.length = A.length ∧ (∀ j, j < s.2.2 → s.1.getD j 0 = 0) ∧ 0 ≤ s.2.1 ∧ s.2.1 < w ∧ s.2.1 * 1000000000 ^ s.2.2 + val (A.take s.2.2) + w * val s.1 = val A
set_option maxRecDepth 100000 in
set_option maxHeartbeats 8000000 in
theorem smal_n (a w : Nat) (ha : Lw a < 1000000) (hw0 : 0 < w) (hw1 : w < 1000000000) : Meets Tryz.prog G 135 [nP a, .val (.int .u32 w)] (.tup [nP (a / w), .val (.int .u32 ((a % w : Nat) : Int))]) := by
  refine meets_of_vc (Y := {}) (N := 44) (rs := [.tmp 4, .tmp 5]) mix tk hG Tryz.func135 rfl (by kernel_rfl) rfl rfl (by simp) (by kernel_rfl) ?_
  unfold Lw at ha
  rw [show nP a = .sl (wl a).length ((wl a).map wv) from rfl]
  have hA := wl_norm a
  have hva := wl_val a
  generalize wl a = A at *
  simp (maxSteps := 10000000) only [↓sx, sx, ↓ty, ↓reduceIte, Nat.reduceEqDiff]
  have hw : IntKind.i64.wrap ((A.length : Int) - 1) = (A.length : Int) - 1 := i64_id (by omega) (by omega)
  rw [hw]
  refine ⟨by omega, ?_⟩
  refine loopK_of (fun s : List Int × Int × Nat => [(0, .p (.sl A.length (A.map wv))), (1, .p (.val (.int .u32 w))), (6, .orow 12), (7, .p (.val (.int .u64 s.2.1))), (8, .p (.val (.int .i64 ((s.2.2 : Int) - 1))))]) (fun _ => []) (fun s => [(12, ⟨95, 1, s.1.length, s.1.map wv, false⟩)]) (smallInv A w) (fun s => s.2.2) (List.replicate A.length 0, 0, A.length) ?_ ?_ ?_
  · refine ⟨Nat.le_refl _, Dig.replicate _, by simp, fun j _ => Zf.replicate _ 0 j (Nat.zero_le _), Int.le_refl _, by dsimp only; omega, ?_⟩
    simp [val_replicate]
  · simp (maxSteps := 10000000) only [isE_nil, is_cons, bo_p, bo_orow, any_cons', all_cons', all_nil', Bool.true_or, ↓sx, sx, ↓reduceIte, Nat.reduceEqDiff]
    simp [rep_wv]
  · rintro ⟨out, r, n⟩ ⟨h1, h2, h3, h4, h5, h5b, h6⟩
    dsimp only at h1 h2 h3 h4 h5 h5b h6 ⊢
    simp (maxSteps := 10000000) only [↓sx, sx, ↓ty, ↓reduceIte, Nat.reduceEqDiff, Nat.reduceAdd, wv_c]
    refine vcIf_dec (fun h => ?_) (fun h => ?_)
    · obtain ⟨m, rfl⟩ : ∃ m, n = m + 1 := ⟨n - 1, by omega⟩
      rw [show (((m + 1 : Nat) : Int) - 1) = (m : Int) by omega]
      simp only [Int.toNat_natCast]
      have hx := hA.1.getD m
      obtain ⟨s0, s1, s2, s3, s4, s5, s6⟩ := by_step (r := r) (x := A.getD m 0) (w := (w : Int)) ⟨h5, h5b⟩ hx (by omega)
      rw [u64_id (x := A.getD m 0) (by omega) (by omega), u64_id (x := r * 1000000000) (by omega) (by omega), u64_id (x := r * 1000000000 + A.getD m 0) (by omega) (by omega), u64_id (x := (w : Int)) (by omega) (by omega), tdiv_pos s0, tmod_pos s0, u64_id (x := (r * 1000000000 + A.getD m 0) / w) (by omega) (by omega), u32_id (x := (r * 1000000000 + A.getD m 0) / w) (by omega) (by omega)]
      refine ⟨by omega, by omega, by omega, by omega, by omega, by omega, ?_⟩
      refine NextK.mk (out.set m ((r * 1000000000 + A.getD m 0) / w), (r * 1000000000 + A.getD m 0) % w, m) (by dsimp only; omega) ⟨by dsimp only; omega, h2.set _ s2 s3, by simp [h3], (fun j hj => by dsimp only at hj ⊢; rw [Gb.getD_set_ne _ _ _ _ (by omega)]; exact h4 j (by omega)), s4, s5, ?_⟩ ?_
      · dsimp only
        rw [← h6, val_set _ _ _ (by omega), h4 m (by omega), val_take_succ _ _ (by omega), Int.pow_succ]
        generalize A.getD m 0 = x at *
        generalize (r * 1000000000 + x) / (w : Int) = sq at *
        generalize (r * 1000000000 + x) % (w : Int) = sr at *
        grind
      · simp (maxSteps := 10000000) only [isE_nil, is_cons, bo_p, bo_orow, any_cons', all_cons', all_nil', Bool.true_or, ↓sx, sx, ↓reduceIte, Nat.reduceEqDiff]
        rw [set_wv _ _ _ (by omega), i64_id (by omega) (by omega)]
        simp
    · obtain rfl : n = 0 := by omega
      rw [List.take_zero, val_nil, Int.pow_zero] at h6
      have hvo := val_nonneg h2
      have hq : val out = ((a / w : Nat) : Int) := by
        rw [Int.natCast_ediv, ← hva, ← h6, show r * 1 + 0 + (w : Int) * val out = r + w * val out by omega, Int.add_mul_ediv_left _ _ (by omega), Int.ediv_eq_zero_of_lt h5 h5b]; omega
      have hr : r = ((a % w : Nat) : Int) := by
        rw [Int.natCast_emod, ← hva, ← h6, show r * 1 + 0 + (w : Int) * val out = r + w * val out by omega, Int.add_mul_emod_self_left, Int.emod_eq_of_lt h5 h5b]
      refine CallT.mk (trim_n hG out (by omega) h2 (a / w) hq) ?_
      simp (maxSteps := 10000000) only [↓sx, sx, ↓ty, ↓reduceIte, Nat.reduceEqDiff]
      rw [u32_id (x := r) (by omega) (by omega), hr]
end Go.Proofs.YtnlabeglboomlaaGreatDoor.S
namespace Gb
open Go Go.RowKit
def dg : Nat → Nat → List Int
  | 0, _ => []
  | k + 1, n => ((n % 1000000000 : Nat) : Int) :: dg k (n / 1000000000)
theorem dg_spec : ∀ (k n : Nat), Dig (dg k n) ∧ (dg k n).length = k ∧ (n < 1000000000 ^ k → val (dg k n) = n)
  | 0, n => ⟨Dig.nil, rfl, fun h => by simp at h; subst h; rfl⟩
  | k + 1, n => by
    obtain ⟨h1, h2, h3⟩ := dg_spec k (n / 1000000000)
    refine ⟨Dig.cons (by omega) (by omega) h1, by simp [dg, h2], fun h => ?_⟩
    rw [Nat.pow_succ] at h
    rw [dg, val_cons, h3 (Nat.div_lt_of_lt_mul (by omega))]
    omega
theorem take_set_of_le (l : List Int) (i j : Nat) (v : Int) (h : i ≤ j) : (l.set j v).take i = l.take i := by
  rw [List.take_set_of_le (h := h)]
theorem zf_val {l : List Int} (h : Zf l 0) : val l = 0 := by
  induction l with
  | nil => rfl
  | cons x l ih =>
    have h0 := h 0 (Nat.le_refl _)
    simp at h0
    rw [val_cons, h0, ih (fun j _ => by have := h (j + 1) (by omega); simpa using this)]; omega
theorem zf_drop {l : List Int} {n : Nat} (h : Zf l n) : val (l.drop n) = 0 := by
  apply zf_val
  intro j _
  rw [List.getD_eq_getElem?_getD, List.getElem?_drop, ← List.getD_eq_getElem?_getD]
  exact h _ (by omega)
def redU (u v : List Int) (at_ : Nat) : List Int := u.take at_ ++ dg (u.length - at_) (val (u.drop at_) % val v).toNat
theorem redU_of {u v x : List Int} {at_ : Nat} (hv : Dig v) (hV : 0 < val v) (hat : at_ + v.length < u.length) (hx : Dig x) (hl : x.length = u.length) (ht : x.take at_ = u.take at_) (hm : val (x.drop at_) = val (u.drop at_) % val v) : x = redU u v at_ := by
  have h0 := Int.emod_nonneg (val (u.drop at_)) (show val v ≠ 0 by omega)
  have h1 := Int.emod_lt_of_pos (val (u.drop at_)) hV
  have h2 := (val_bounds hv).2
  have h3 := pow_mono (show v.length ≤ u.length - at_ by omega)
  obtain ⟨d1, d2, d3⟩ := dg_spec (u.length - at_) (val (u.drop at_) % val v).toNat
  have h4 : (val (u.drop at_) % val v).toNat < 1000000000 ^ (u.length - at_) := by
    have : ((val (u.drop at_) % val v).toNat : Int) < ((1000000000 ^ (u.length - at_) : Nat) : Int) := by rw [cast_pow]; omega
    exact Int.ofNat_lt.1 this
  have h5 := d3 h4
  unfold redU
  rw [← ht]
  conv => lhs; rw [← List.take_append_drop at_ x]
  congr 1
  refine Dig.inj (hx.drop _) d1 (by rw [List.length_drop, d2, hl]) ?_
  rw [h5, hm]; omega
theorem redU_len {u v : List Int} {at_ : Nat} (h : at_ ≤ u.length) : (redU u v at_).length = u.length := by
  unfold redU
  rw [List.length_append, (dg_spec _ _).2.1, List.length_take]; omega
theorem redU_take {u v : List Int} {at_ : Nat} (h : at_ ≤ u.length) : (redU u v at_).take at_ = u.take at_ := by
  unfold redU
  rw [List.take_append_of_le_length (by rw [List.length_take]; omega), List.take_take, Nat.min_self]
theorem redU_dig {u v : List Int} {at_ : Nat} (hu : Dig u) : Dig (redU u v at_) := (hu.take _).append (dg_spec _ _).1
theorem redU_val {u v : List Int} {at_ : Nat} (hv : Dig v) (hV : 0 < val v) (hat : at_ + v.length < u.length) : val ((redU u v at_).drop at_) = val (u.drop at_) % val v := by
  have h0 := Int.emod_nonneg (val (u.drop at_)) (show val v ≠ 0 by omega)
  have h1 := Int.emod_lt_of_pos (val (u.drop at_)) hV
  have h2 := (val_bounds hv).2
  have h3 := pow_mono (show v.length ≤ u.length - at_ by omega)
  obtain ⟨d1, d2, d3⟩ := dg_spec (u.length - at_) (val (u.drop at_) % val v).toNat
  have h4 : (val (u.drop at_) % val v).toNat < 1000000000 ^ (u.length - at_) := by
    have : ((val (u.drop at_) % val v).toNat : Int) < ((1000000000 ^ (u.length - at_) : Nat) : Int) := by rw [cast_pow]; omega
    exact Int.ofNat_lt.1 this
  have h5 := d3 h4
  unfold redU
  rw [List.drop_append, List.length_take, List.drop_eq_nil_of_le (by rw [List.length_take]; omega), show at_ - min at_ u.length = 0 by omega, List.drop_zero, List.nil_append, h5]
  omega
structure Red (u v u1 : List Int) (at_ : Nat) (t b1 c1 : Int) : Prop where
  du : Dig u
  dv : Dig v
  hat : at_ + v.length < u.length
  ht : 0 ≤ t ∧ t < 1000000000
  lo : (t - 1) * val v ≤ val (u.drop at_)
  hi : val (u.drop at_) < (t + 1) * val v
  hV : 0 < val v
  hz : Zf u (at_ + v.length + 1)
  g1 : Dig u1
  g2 : u1.length = u.length
  g3 : u1.take at_ = u.take at_
  g4 : ∀ j, at_ + v.length ≤ j → u1.getD j 0 = u.getD j 0
  g5 : 0 ≤ b1 ∧ b1 ≤ 1
  g6 : 0 ≤ c1 ∧ c1 < 1000000000
  g7 : val u1 + 1000000000 ^ at_ * (t * val v) = val u + 1000000000 ^ (at_ + v.length) * (c1 + b1)
section
variable {u v u1 : List Int} {at_ : Nat} {t b1 c1 : Int}
theorem Red.facts (r : Red u v u1 at_ t b1 c1) : val (u1.drop at_) + t * val v = val (u.drop at_) + 1000000000 ^ v.length * (c1 + b1) ∧
    (0 ≤ val ((u1.drop at_).take v.length) ∧ val ((u1.drop at_).take v.length) < 1000000000 ^ v.length) ∧
    val (u1.drop at_) = val ((u1.drop at_).take v.length) + 1000000000 ^ v.length * u.getD (at_ + v.length) 0 ∧
    val ((u1.drop at_).take v.length) + 1000000000 ^ v.length * (u.getD (at_ + v.length) 0 - c1 - b1) = val (u.drop at_) - t * val v := by
  have hat := r.hat
  have g2 := r.g2
  have hPa := pow_pos at_
  have e0 := val_take_drop u at_ (by omega)
  have e1 := val_take_drop u1 at_ (by omega)
  rw [r.g3] at e1
  have g7 := r.g7
  have hU1 : val (u1.drop at_) + t * val v = val (u.drop at_) + 1000000000 ^ v.length * (c1 + b1) := by
    rw [Int.pow_add] at g7
    have : (1000000000 : Int) ^ at_ * (val (u1.drop at_) + t * val v) = 1000000000 ^ at_ * (val (u.drop at_) + 1000000000 ^ v.length * (c1 + b1)) := by grind
    exact Int.eq_of_mul_eq_mul_left (by omega) this
  have hlow1 := val_bounds ((r.g1.drop at_).take v.length)
  rw [List.length_take, List.length_drop, Nat.min_eq_left (by omega)] at hlow1
  have hz1 : Zf u1 (at_ + v.length + 1) := fun j hj => by rw [r.g4 j (by omega)]; exact r.hz j hj
  have hU1s : val (u1.drop at_) = val ((u1.drop at_).take v.length) + 1000000000 ^ v.length * u.getD (at_ + v.length) 0 := by
    have := val_take_drop (u1.drop at_) v.length (by simp; omega)
    rw [List.drop_drop, val_drop' u1 (at_ + v.length), zf_drop hz1, r.g4 _ (Nat.le_refl _)] at this
    rw [this]; simp
  refine ⟨hU1, hlow1, hU1s, ?_⟩
  generalize (1000000000 : Int) ^ v.length = P at *
  generalize val ((u1.drop at_).take v.length) = low at *
  generalize val (u.drop at_) = U at *
  generalize val (u1.drop at_) = U1 at *
  generalize u.getD (at_ + v.length) 0 = dw at *
  grind
theorem Red.pos (r : Red u v u1 at_ t b1 c1) (hn : 0 ≤ u.getD (at_ + v.length) 0 - c1 - b1) : u.getD (at_ + v.length) 0 - c1 - b1 < 1000000000 ∧ t = val (u.drop at_) / val v ∧ u1.set (at_ + v.length) (u.getD (at_ + v.length) 0 - c1 - b1) = redU u v at_ := by
  obtain ⟨f1, f2, f3, f4⟩ := r.facts
  have hat := r.hat
  have g2 := r.g2
  have hdig := r.du.getD (at_ + v.length)
  have g5 := r.g5; have g6 := r.g6; have hV := r.hV; have hhi := r.hi
  have hw := r.g4 (at_ + v.length) (Nat.le_refl _)
  have hP := pow_pos v.length
  have hle : t * val v ≤ val (u.drop at_) := by
    have : 0 ≤ 1000000000 ^ v.length * (u.getD (at_ + v.length) 0 - c1 - b1) := Int.mul_nonneg (by omega) hn
    omega
  have hfin := val_set u1 (at_ + v.length) (u.getD (at_ + v.length) 0 - c1 - b1) (by omega)
  have e1 := val_take_drop u1 at_ (by omega)
  have e3 := val_take_drop (u1.set (at_ + v.length) (u.getD (at_ + v.length) 0 - c1 - b1)) at_ (by simp; omega)
  rw [take_set_of_le _ _ _ _ (by omega), hfin, hw, Int.pow_add, e1] at e3
  have hPa := pow_pos at_
  have hU3 : val ((u1.set (at_ + v.length) (u.getD (at_ + v.length) 0 - c1 - b1)).drop at_) = val (u.drop at_) - t * val v := by
    have : (1000000000 : Int) ^ at_ * (val ((u1.set (at_ + v.length) (u.getD (at_ + v.length) 0 - c1 - b1)).drop at_)) = 1000000000 ^ at_ * (val (u.drop at_) - t * val v) := by
      generalize val ((u1.set (at_ + v.length) (u.getD (at_ + v.length) 0 - c1 - b1)).drop at_) = X at *
      generalize val (u1.drop at_) = U1 at *
      generalize val ((u1.drop at_).take v.length) = low at *
      generalize val (u.drop at_) = U at *
      generalize u.getD (at_ + v.length) 0 = dw at *
      generalize val v = V at *
      grind
    exact Int.eq_of_mul_eq_mul_left (by omega) this
  have h2 : (t + 1) * val v = t * val v + val v := by grind
  have hq : t = val (u.drop at_) / val v := by
    have : val (u.drop at_) = val v * t + (val (u.drop at_) - t * val v) := by rw [Int.mul_comm (val v) t]; omega
    rw [this, Int.add_comm, Int.add_mul_ediv_left _ _ (by omega), Int.ediv_eq_zero_of_lt (by omega) (by omega)]; omega
  have hr : val (u.drop at_) - t * val v = val (u.drop at_) % val v := by
    have : val (u.drop at_) = val v * t + (val (u.drop at_) - t * val v) := by rw [Int.mul_comm (val v) t]; omega
    conv => rhs; rw [this, Int.add_comm, Int.add_mul_emod_self_left]
    rw [Int.emod_eq_of_lt (by omega) (by omega)]
  exact ⟨by omega, hq, redU_of r.dv hV hat (r.g1.set _ (by omega) (by omega)) (by simp [g2]) (by rw [take_set_of_le _ _ _ _ (by omega), r.g3]) (by rw [hU3, hr])⟩
theorem Red.neg (r : Red u v u1 at_ t b1 c1) (hn : u.getD (at_ + v.length) 0 - c1 - b1 < 0) : 1 ≤ t ∧ u.getD (at_ + v.length) 0 - c1 - b1 = -1 ∧
    ∀ (u2 : List Int) (c2 : Int), Dig u2 → u2.length = u.length → u2.take at_ = (u1.set (at_ + v.length) 999999999).take at_ → (∀ j, at_ + v.length ≤ j → u2.getD j 0 = (u1.set (at_ + v.length) 999999999).getD j 0) → 0 ≤ c2 → c2 ≤ 1 →
      val u2 + 1000000000 ^ (at_ + v.length) * c2 = val (u1.set (at_ + v.length) 999999999) + 1000000000 ^ at_ * val v → c2 = 1 ∧ t - 1 = val (u.drop at_) / val v ∧ u2.getD (at_ + v.length) 0 = 999999999 ∧ u2.set (at_ + v.length) 0 = redU u v at_ := by
  obtain ⟨f1, f2, f3, f4⟩ := r.facts
  have hat := r.hat
  have g2 := r.g2
  have hdig := r.du.getD (at_ + v.length)
  have g5 := r.g5; have g6 := r.g6; have hV := r.hV; have hhi := r.hi; have hlo := r.lo; have ht := r.ht
  have hw := r.g4 (at_ + v.length) (Nat.le_refl _)
  have hP := pow_pos v.length
  have hPa := pow_pos at_
  have hVn := (val_bounds r.dv).2
  have hU0 := val_nonneg (r.du.drop at_)
  have hlt : val (u.drop at_) < t * val v := by
    have : (1000000000 : Int) ^ v.length * (u.getD (at_ + v.length) 0 - c1 - b1) ≤ 1000000000 ^ v.length * (-1) := Int.mul_le_mul_of_nonneg_left (by omega) (by omega)
    omega
  have htp : 1 ≤ t := by
    by_cases h : t = 0
    · subst h; omega
    · omega
  have h2 : (t - 1) * val v = t * val v - val v := by grind
  have hm1 : u.getD (at_ + v.length) 0 - c1 - b1 = -1 := by
    by_cases h : u.getD (at_ + v.length) 0 - c1 - b1 = -1
    · exact h
    · have h1 : (1000000000 : Int) ^ v.length * (u.getD (at_ + v.length) 0 - c1 - b1) ≤ 1000000000 ^ v.length * (-2) := Int.mul_le_mul_of_nonneg_left (by omega) (by omega)
      omega
  refine ⟨htp, hm1, ?_⟩
  intro u2 c2 k1 k2 k3 k4 k5 k5b k7
  rw [Int.pow_add, val_set _ _ _ (by omega), hw, Int.pow_add] at k7
  rw [take_set_of_le _ _ _ _ (by omega), r.g3] at k3
  have k4w := k4 (at_ + v.length) (Nat.le_refl _)
  rw [getD_set_same _ _ _ (by omega)] at k4w
  have hz1 : Zf u1 (at_ + v.length + 1) := fun j hj => by rw [r.g4 j (by omega)]; exact r.hz j hj
  have hz2 : Zf u2 (at_ + v.length + 1) := fun j hj => by rw [k4 j (by omega), getD_set_ne _ _ _ _ (by omega)]; exact hz1 j hj
  have e1 := val_take_drop u1 at_ (by omega)
  rw [r.g3] at e1
  have e2 := val_take_drop u2 at_ (by omega)
  rw [k3] at e2
  have hlow2 := val_bounds ((k1.drop at_).take v.length)
  rw [List.length_take, List.length_drop, Nat.min_eq_left (by omega)] at hlow2
  have hU2s : val (u2.drop at_) = val ((u2.drop at_).take v.length) + 1000000000 ^ v.length * 999999999 := by
    have := val_take_drop (u2.drop at_) v.length (by simp; omega)
    rw [List.drop_drop, val_drop' u2 (at_ + v.length), zf_drop hz2, k4w] at this
    rw [this]; simp
  generalize hP' : (1000000000 : Int) ^ v.length = P at *
  generalize hlw : val ((u1.drop at_).take v.length) = low at *
  generalize hUU : val (u.drop at_) = U at *
  generalize hdw : u.getD (at_ + v.length) 0 = dw at *
  have hU2 : val (u2.drop at_) + P * c2 = val (u1.drop at_) + P * (999999999 - dw) + val v := by
    have : (1000000000 : Int) ^ at_ * (val (u2.drop at_) + P * c2) = 1000000000 ^ at_ * (val (u1.drop at_) + P * (999999999 - dw) + val v) := by grind
    exact Int.eq_of_mul_eq_mul_left (by omega) this
  generalize hl2 : val ((u2.drop at_).take v.length) = low2 at *
  have hsum : low2 + P * c2 = low + val v := by grind
  have hUq : low + val v = U - (t - 1) * val v + P := by
    rw [hm1] at f4
    omega
  have hc2 : c2 = 1 := by
    by_cases h : c2 = 1
    · exact h
    · obtain rfl : c2 = 0 := by omega
      simp at hsum
      omega
  subst hc2
  have hfin := val_set u2 (at_ + v.length) 0 (by omega)
  have e3 := val_take_drop (u2.set (at_ + v.length) 0) at_ (by simp; omega)
  rw [take_set_of_le _ _ _ _ (by omega), k3, hfin, k4w, Int.pow_add, hP', e2] at e3
  have hU3 : val ((u2.set (at_ + v.length) 0).drop at_) = low2 := by
    have : (1000000000 : Int) ^ at_ * (val ((u2.set (at_ + v.length) 0).drop at_)) = 1000000000 ^ at_ * low2 := by grind
    exact Int.eq_of_mul_eq_mul_left (by omega) this
  have hres : low2 = U - (t - 1) * val v := by omega
  have hq : t - 1 = U / val v := by
    have : U = val v * (t - 1) + (U - (t - 1) * val v) := by rw [Int.mul_comm (val v) (t - 1)]; omega
    rw [this, Int.add_comm, Int.add_mul_ediv_left _ _ (by omega), Int.ediv_eq_zero_of_lt (by omega) (by omega)]; omega
  have hr : U - (t - 1) * val v = U % val v := by
    have : U = val v * (t - 1) + (U - (t - 1) * val v) := by rw [Int.mul_comm (val v) (t - 1)]; omega
    conv => rhs; rw [this, Int.add_comm, Int.add_mul_emod_self_left]
    rw [Int.emod_eq_of_lt (by omega) (by omega)]
  exact ⟨rfl, hq, k4w, redU_of r.dv hV hat (k1.set _ (by omega) (by omega)) (by simp [k2]) (by rw [take_set_of_le _ _ _ _ (by omega), k3]) (by rw [hU3, hres, hUU, hr])⟩
end
end Gb
namespace Go.Proofs.YtnlabeglboomlaaGreatDoor.S
open Go Go.Sx Go.RowKit Gb
variable {G : World → Prop} (hG : ∀ w w', G w → Below w.heap.size w w' → G w')
def redInv (u v : List Int) (at_ : Nat) (t : Int) (s : List Int × Int × Int × Nat) : Prop :=
  Dig s.1 ∧ s.1.length = u.length ∧ s.1.take at_ = u.take at_ ∧ (∀ j, at_ + v.length ≤ j → s.1.getD j 0 = u.getD j 0) ∧ (0 ≤ s.2.1 ∧ s.2.1 ≤ 1) ∧ (0 ≤ s.2.2.1 ∧ s.2.2.1 < 1000000000) ∧ s.2.2.2 ≤ v.length ∧
    val s.1 + 1000000000 ^ at_ * (t * val (v.take s.2.2.2)) = val u + 1000000000 ^ (at_ + s.2.2.2) * (s.2.2.1 + s.2.1)
def redInv2 (u v : List Int) (at_ : Nat) (s : List Int × Int × Nat) : Prop :=
  Dig s.1 ∧ s.1.length = u.length ∧ s.1.take at_ = u.take at_ ∧ (∀ j, at_ + v.length ≤ j → s.1.getD j 0 = u.getD j 0) ∧ 0 ≤ s.2.1 ∧ s.2.1 ≤ 1 ∧ s.2.2 ≤ v.length ∧
    val s.1 + 1000000000 ^ (at_ + s.2.2) * s.2.1 = val u + 1000000000 ^ at_ * val (v.take s.2.2)
set_option maxRecDepth 100000 in
set_option maxHeartbeats 20000000 in
theorem reduce_c (u v : List Int) (at_ : Nat) (t : Int) (hu : Dig u) (hv : Dig v) (hlen : u.length < 10000000) (hat : at_ + v.length < u.length) (ht : 0 ≤ t ∧ t < 1000000000) (hlo : (t - 1) * val v ≤ val (u.drop at_)) (hhi : val (u.drop at_) < (t + 1) * val v) (hV : 0 < val v) (hz : Zf u (at_ + v.length + 1)) :
    MeetsM Tryz.prog G 136 ⟨95, 1, u.length, u.map wv, false⟩ ⟨95, 1, u.length, (redU u v at_).map wv, false⟩ [.sl v.length (v.map wv), .val (.int .i64 (at_ : Nat)), .val (.int .u64 t)] (.val (.int .u32 (val (u.drop at_) / val v))) := by
  refine meetsM_of_vc (Y := {}) (N := 136) (rs := [.tmp 8]) mix tk Tryz.func136 rfl (by kernel_rfl) rfl rfl (by simp) (by kernel_rfl) rfl ?_
  simp (maxSteps := 10000000) only [↓sx, sx, ↓ty, ↓reduceIte, Nat.reduceEqDiff]
  refine loopK_of (fun s : List Int × Int × Int × Nat => [(0, .orow 0), (1, .p (.sl v.length (v.map wv))), (2, .p (.val (.int .i64 (at_ : Nat)))), (3, .p (.val (.int .u64 t))), (9, .p (.val (.int .i64 (v.length : Nat)))), (10, .p (.val (.int .i64 s.2.1))), (11, .p (.val (.int .u64 s.2.2.1))), (12, .p (.val (.int .i64 (s.2.2.2 : Nat))))]) (fun _ => []) (fun s => [(0, ⟨95, 1, s.1.length, s.1.map wv, true⟩)]) (redInv u v at_ t) (fun s => v.length - s.2.2.2) (u, 0, 0, 0) ?_ ?_ ?_
  · refine ⟨hu, rfl, rfl, fun _ _ => rfl, by dsimp only; omega, by dsimp only; omega, Nat.zero_le _, ?_⟩
    simp [val_nil]
  · simp (maxSteps := 10000000) only [isE_nil, is_cons, bo_p, bo_orow, any_cons', all_cons', all_nil', Bool.true_or, ↓sx, sx, ↓reduceIte, Nat.reduceEqDiff]
    simp
  · rintro ⟨u1, b, c, i⟩ ⟨g1, g2, g3, g4, g5, g6, g7, g8⟩
    dsimp only at g1 g2 g3 g4 g5 g6 g7 g8 ⊢
    simp (maxSteps := 10000000) only [↓sx, sx, ↓ty, ↓reduceIte, Nat.reduceEqDiff, Nat.reduceAdd, Int.reduceEq, wv_c]
    refine vcIf_dec (fun hi => ?_) (fun hi => ?_)
    · have hy := hv.getD i
      have hx := g1.getD (at_ + i)
      have hm := mul_step (o := 0) (by omega) ht hy g6
      have hval := val_take_succ v i (by omega)
      have e1 : IntKind.i64.wrap ((at_ : Int) + (i : Int)) = ((at_ + i : Nat) : Int) := by rw [i64_id] <;> omega
      rw [e1, Int.toNat_natCast (at_ + i)]
      rw [u64_id (x := v.getD i 0) (by omega) (by omega), u64_id (x := t * v.getD i 0) (by omega) (by omega), u64_id (x := t * v.getD i 0 + c) (by omega) (by omega)]
      generalize hp : t * v.getD i 0 + c = p at *
      have hp0 : 0 ≤ p ∧ p < 1000000000000000000 := by omega
      have hpe : p = 1000000000 * (p / 1000000000) + p % 1000000000 := by omega
      rw [tmod_pos hp0.1, tdiv_pos hp0.1, u64_id (x := p / 1000000000) (by omega) (by omega), i64_id (x := u1.getD (at_ + i) 0) (by omega) (by omega), i64_id (x := p % 1000000000) (by omega) (by omega), i64_id (x := u1.getD (at_ + i) 0 - p % 1000000000) (by omega) (by omega), i64_id (x := u1.getD (at_ + i) 0 - p % 1000000000 - b) (by omega) (by omega)]
      refine ⟨by omega, by omega, by omega, by omega, ?_⟩
      have fin : ∀ {e : Env} {h : Hp} {ρ : Rws} {tg : Tag (redInv u v at_ t, (fun s : List Int × Int × Int × Nat => v.length - s.2.2.2), e, h, ρ)} (s b' : Int), s = u1.getD (at_ + i) 0 - p % 1000000000 - b + 1000000000 * b' → 0 ≤ s → s < 1000000000 → 0 ≤ b' → b' ≤ 1 →
          e 0 = .orow 0 → e 1 = .p (.sl v.length (v.map wv)) → e 2 = .p (.val (.int .i64 (at_ : Nat))) → e 3 = .p (.val (.int .u64 t)) → e 9 = .p (.val (.int .i64 (v.length : Nat))) → e 10 = .p (.val (.int .i64 b')) → e 11 = .p (.val (.int .u64 (p / 1000000000))) → e 12 = .p (.val (.int .i64 (IntKind.i64.wrap ((i : Int) + 1)))) →
          ρ 0 = some ⟨95, 1, u1.length, (u1.take (at_ + i)).map wv ++ [.val (.int .u32 s)] ++ (u1.drop (at_ + i + 1)).map wv, true⟩ →
          NextK (fun s : List Int × Int × Int × Nat => [(0, .orow 0), (1, .p (.sl v.length (v.map wv))), (2, .p (.val (.int .i64 (at_ : Nat)))), (3, .p (.val (.int .u64 t))), (9, .p (.val (.int .i64 (v.length : Nat)))), (10, .p (.val (.int .i64 s.2.1))), (11, .p (.val (.int .u64 s.2.2.1))), (12, .p (.val (.int .i64 (s.2.2.2 : Nat))))]) (fun _ => []) (fun s => [(0, ⟨95, 1, s.1.length, s.1.map wv, true⟩)]) (redInv u v at_ t) (fun s => v.length - s.2.2.2) (u1, b, c, i) e h ρ tg := by
        intro e h ρ tg s b' hs hs0 hs1 hb0 hb1 e0 e1 e2 e3 e9 e10 e11 e12 r0
        rw [i64_id (by omega) (by omega)] at e12
        rw [set_wv _ _ _ (by omega)] at r0
        refine NextK.mk (u1.set (at_ + i) s, b', p / 1000000000, i + 1) (by dsimp only; omega) ⟨g1.set _ hs0 hs1, by simp [g2], by rw [take_set_of_le _ _ _ _ (by omega)]; exact g3, (fun j hj => by dsimp only; rw [Gb.getD_set_ne _ _ _ _ (by omega)]; exact g4 j hj), ⟨hb0, hb1⟩, by dsimp only; omega, by dsimp only; omega, ?_⟩ ?_
        · dsimp only
          rw [val_set _ _ _ (by omega), hval, ← Nat.add_assoc, Int.pow_succ]
          rw [Int.pow_add] at g8 ⊢
          generalize (1000000000 : Int) ^ at_ = Pa at *
          generalize (1000000000 : Int) ^ i = Pi at *
          generalize p / 1000000000 = q at *
          generalize p % 1000000000 = r at *
          subst hs
          grind
        · simp (maxSteps := 10000000) only [isE_nil, is_cons, bo_p, bo_orow, any_cons', all_cons', all_nil', Bool.true_or, ↓sx, sx, e0, e1, e2, e3, e9, e10, e11, e12, r0]
          simp
      refine vcIf_dec (fun hn => ?_) (fun hn => ?_)
      · rw [i64_id (x := u1.getD (at_ + i) 0 - p % 1000000000 - b + 1000000000) (by omega) (by omega), u32_id (x := u1.getD (at_ + i) 0 - p % 1000000000 - b + 1000000000) (by omega) (by omega)]
        refine ⟨by omega, by omega, ?_⟩
        refine fin (u1.getD (at_ + i) 0 - p % 1000000000 - b + 1000000000) 1 (by omega) (by omega) (by omega) (by omega) (by omega) ?_ ?_ ?_ ?_ ?_ ?_ ?_ ?_ ?_
        all_goals (simp (maxSteps := 10000000) only [↓sx, sx, ↓reduceIte, Nat.reduceEqDiff]; done)
      · rw [u32_id (x := u1.getD (at_ + i) 0 - p % 1000000000 - b) (by omega) (by omega)]
        refine ⟨by omega, by omega, ?_⟩
        refine fin (u1.getD (at_ + i) 0 - p % 1000000000 - b) 0 (by omega) (by omega) (by omega) (by omega) (by omega) ?_ ?_ ?_ ?_ ?_ ?_ ?_ ?_ ?_
        all_goals (simp (maxSteps := 10000000) only [↓sx, sx, ↓reduceIte, Nat.reduceEqDiff]; done)
    · obtain rfl : i = v.length := by omega
      rw [List.take_length] at g8
      have R0 : Red u v u1 at_ t b c := ⟨hu, hv, hat, ht, hlo, hhi, hV, hz, g1, g2, g3, g4, g5, g6, g8⟩
      have hx := hu.getD (at_ + v.length)
      have hw := g4 (at_ + v.length) (Nat.le_refl _)
      have e1 : IntKind.i64.wrap ((at_ : Int) + (v.length : Int)) = ((at_ + v.length : Nat) : Int) := by rw [i64_id] <;> omega
      rw [e1, Int.toNat_natCast (at_ + v.length), hw]
      rw [i64_id (x := u.getD (at_ + v.length) 0) (by omega) (by omega), i64_id (x := c) (by omega) (by omega), i64_id (x := u.getD (at_ + v.length) 0 - c) (by omega) (by omega), i64_id (x := u.getD (at_ + v.length) 0 - c - b) (by omega) (by omega)]
      refine ⟨by omega, by omega, ?_⟩
      refine vcIf_dec (fun hn => ?_) (fun hn => ?_)
      · obtain ⟨p1, p2, p3⟩ := R0.pos (by omega)
        refine ⟨by omega, by omega, ?_, ?_⟩
        · rw [u32_id (x := t) (by omega) (by omega), p2]
        · rw [u32_id (x := u.getD (at_ + v.length) 0 - c - b) (by omega) (by omega), set_wv _ _ _ (by omega), p3, g2]
      · obtain ⟨n1, n2, n3⟩ := R0.neg (by omega)
        refine ⟨by omega, by omega, ?_⟩
        rw [n2, show IntKind.u32.wrap (IntKind.i64.wrap (-1 + 1000000000)) = 999999999 by decide]
        have h0 : (u1.set (at_ + v.length) 999999999).length = u.length := by simp [g2]
        have hd0 : Dig (u1.set (at_ + v.length) 999999999) := g1.set _ (by omega) (by omega)
        refine loopK_of (fun s : List Int × Int × Nat => [(0, .orow 0), (1, .p (.sl v.length (v.map wv))), (2, .p (.val (.int .i64 (at_ : Nat)))), (3, .p (.val (.int .u64 t))), (9, .p (.val (.int .i64 (v.length : Nat)))), (16, .p (.val (.int .u32 s.2.1))), (17, .p (.val (.int .i64 (s.2.2 : Nat))))]) (fun _ => []) (fun s => [(0, ⟨95, 1, s.1.length, s.1.map wv, true⟩)]) (redInv2 (u1.set (at_ + v.length) 999999999) v at_) (fun s => v.length - s.2.2) (u1.set (at_ + v.length) 999999999, 0, 0) ?_ ?_ ?_
        · refine ⟨hd0, rfl, rfl, fun _ _ => rfl, Int.le_refl _, by dsimp only; omega, Nat.zero_le _, ?_⟩
          simp [val_nil]
        · simp (maxSteps := 10000000) only [isE_nil, is_cons, bo_p, bo_orow, any_cons', all_cons', all_nil', Bool.true_or, ↓sx, sx, ↓reduceIte, Nat.reduceEqDiff]
          rw [set_wv _ _ _ (by omega)]
          simp
        · generalize u1.set (at_ + v.length) 999999999 = w0 at *
          rintro ⟨u2, c2, i⟩ ⟨k1, k2, k3, k4, k5, k5b, k6, k7⟩
          dsimp only at k1 k2 k3 k4 k5 k5b k6 k7 ⊢
          simp (maxSteps := 10000000) only [↓sx, sx, ↓ty, ↓reduceIte, Nat.reduceEqDiff, Nat.reduceAdd, Int.reduceEq, wv_c]
          refine vcIf_dec (fun hi => ?_) (fun hi => ?_)
          · have hy := hv.getD i
            have hx := k1.getD (at_ + i)
            have hval := val_take_succ v i (by omega)
            have e1 : IntKind.i64.wrap ((at_ : Int) + (i : Int)) = ((at_ + i : Nat) : Int) := by rw [i64_id] <;> omega
            rw [e1, Int.toNat_natCast (at_ + i)]
            rw [u32_id (x := u2.getD (at_ + i) 0 + v.getD i 0) (by omega) (by omega), u32_id (x := u2.getD (at_ + i) 0 + v.getD i 0 + c2) (by omega) (by omega)]
            generalize hs : u2.getD (at_ + i) 0 + v.getD i 0 + c2 = s at *
            rw [tmod_pos (x := s) (by omega), tdiv_pos (x := s) (by omega), u32_id (x := s / 1000000000) (by omega) (by omega)]
            refine ⟨by omega, by omega, by omega, by omega, by omega, by omega, ?_⟩
            refine NextK.mk (u2.set (at_ + i) (s % 1000000000), s / 1000000000, i + 1) (by dsimp only; omega) ⟨k1.set _ (by omega) (by omega), by simp [k2], by rw [take_set_of_le _ _ _ _ (by omega)]; exact k3, (fun j hj => by dsimp only; rw [Gb.getD_set_ne _ _ _ _ (by omega)]; exact k4 j hj), by dsimp only; omega, by dsimp only; omega, by dsimp only; omega, ?_⟩ ?_
            · dsimp only
              rw [val_set _ _ _ (by omega), hval, ← Nat.add_assoc, Int.pow_succ]
              rw [Int.pow_add] at k7 ⊢
              have : s = 1000000000 * (s / 1000000000) + s % 1000000000 := by omega
              generalize (1000000000 : Int) ^ at_ = Pa at *
              generalize (1000000000 : Int) ^ i = Pi at *
              generalize s / 1000000000 = q at *
              generalize s % 1000000000 = r at *
              grind
            · simp (maxSteps := 10000000) only [isE_nil, is_cons, bo_p, bo_orow, any_cons', all_cons', all_nil', Bool.true_or, ↓sx, sx, ↓reduceIte, Nat.reduceEqDiff]
              rw [set_wv _ _ _ (by omega), i64_id (by omega) (by omega)]
              simp
          · obtain rfl : i = v.length := by omega
            rw [List.take_length] at k7
            obtain ⟨m1, m2, m3, m4⟩ := n3 u2 c2 k1 (k2.trans h0) k3 k4 k5 k5b k7
            subst m1
            rw [e1, Int.toNat_natCast (at_ + v.length), m3]
            refine ⟨by omega, by omega, by omega, by omega, ?_, ?_⟩
            · rw [u64_id (by omega) (by omega), u32_id (by omega) (by omega), m2]
            · rw [show Int.tmod (IntKind.u32.wrap (999999999 + 1)) 1000000000 = 0 by decide, set_wv _ _ _ (by omega), m4, k2, h0]
end Go.Proofs.YtnlabeglboomlaaGreatDoor.S
namespace Gb
open Go Go.RowKit
theorem k_start {U V P top u2 U0 v1 v2 V0 t ρ : Int} (hP : 0 < P) (hU : U = (top * 1000000000 + u2) * P + U0) (hV : V = (v1 * 1000000000 + v2) * P + V0)
    (hu2 : u2 < 1000000000) (hU0 : U0 < P) (hv2 : 0 ≤ v2) (hV0 : 0 ≤ V0) (hv1 : 0 < v1) (ht : 0 ≤ t) (e : t * v1 + ρ = top) (hρ : ρ < v1) : U < (t + 1) * V := by
  have h1 : (top * 1000000000 + u2 + 1) * P ≤ ((t + 1) * (v1 * 1000000000)) * P := by
    apply Int.mul_le_mul_of_nonneg_right _ (by omega)
    have : (t + 1) * (v1 * 1000000000) = (t * v1 + v1) * 1000000000 := by grind
    rw [this]; omega
  have h2 : (t + 1) * ((v1 * 1000000000) * P) ≤ (t + 1) * V := by
    apply Int.mul_le_mul_of_nonneg_left _ (by omega)
    rw [hV]
    have : 0 ≤ v2 * P := Int.mul_nonneg hv2 (by omega)
    grind
  have h3 : (top * 1000000000 + u2 + 1) * P = (top * 1000000000 + u2) * P + P := by grind
  have h4 : ((t + 1) * (v1 * 1000000000)) * P = (t + 1) * ((v1 * 1000000000) * P) := by grind
  omega
theorem k_less {U V P top u2 U0 v1 v2 V0 t ρ : Int} (hP : 0 < P) (hU : U = (top * 1000000000 + u2) * P + U0) (hV : V = (v1 * 1000000000 + v2) * P + V0)
    (hU0 : U0 < P) (hV0 : 0 ≤ V0) (ht : 0 ≤ t) (e : t * v1 + ρ = top) (h : ρ * 1000000000 + u2 < t * v2) : U < t * V := by
  have h1 : (top * 1000000000 + u2 + 1) * P ≤ (t * (v1 * 1000000000 + v2)) * P := by
    apply Int.mul_le_mul_of_nonneg_right _ (by omega)
    have : t * (v1 * 1000000000 + v2) = (t * v1) * 1000000000 + t * v2 := by grind
    rw [this]; omega
  have h2 : 0 ≤ t * V0 := Int.mul_nonneg ht hV0
  have h3 : t * V = (t * (v1 * 1000000000 + v2)) * P + t * V0 := by rw [hV]; grind
  have h4 : (top * 1000000000 + u2 + 1) * P = (top * 1000000000 + u2) * P + P := by grind
  omega
theorem k_most {U V P top u2 U0 v1 v2 V0 t ρ : Int} (hP : 0 < P) (hU : U = (top * 1000000000 + u2) * P + U0) (hV : V = (v1 * 1000000000 + v2) * P + V0)
    (hU0 : 0 ≤ U0) (hV0 : V0 < P) (hv2 : 0 ≤ v2) (hV00 : 0 ≤ V0) (hv1 : 0 < v1) (ht : 0 ≤ t) (ht2 : t ≤ 1000000000) (e : t * v1 + ρ = top) (h : t * v2 ≤ ρ * 1000000000 + u2) : (t - 1) * V ≤ U := by
  have h1 : (t * (v1 * 1000000000 + v2)) * P ≤ (top * 1000000000 + u2) * P := by
    apply Int.mul_le_mul_of_nonneg_right _ (by omega)
    have : t * (v1 * 1000000000 + v2) = (t * v1) * 1000000000 + t * v2 := by grind
    rw [this]; omega
  have h2 : t * V0 ≤ 1000000000 * P := Int.mul_le_mul (by omega) (by omega) (by omega) (by omega)
  have h3 : t * V = (t * (v1 * 1000000000 + v2)) * P + t * V0 := by rw [hV]; grind
  have h4 : 1000000000 * P ≤ V := by
    have a1 : 1000000000 * P ≤ (v1 * 1000000000) * P := Int.mul_le_mul_of_nonneg_right (by omega) (by omega)
    have a2 : 0 ≤ v2 * P := Int.mul_nonneg hv2 (by omega)
    have a3 : (v1 * 1000000000 + v2) * P = (v1 * 1000000000) * P + v2 * P := by grind
    omega
  have h5 : (t - 1) * V = t * V - V := by grind
  omega
theorem seg_top (u : List Int) (at_ n : Nat) (hu : Dig u) (hn : 2 ≤ n) (hl : at_ + n < u.length) (hz : Zf u (at_ + n + 1)) :
    ∃ U0, 0 ≤ U0 ∧ U0 < 1000000000 ^ (n - 2) ∧ val (u.drop at_) = ((u.getD (at_ + n) 0 * 1000000000 + u.getD (at_ + n - 1) 0) * 1000000000 + u.getD (at_ + n - 2) 0) * 1000000000 ^ (n - 2) + U0 := by
  refine ⟨val ((u.drop at_).take (n - 2)), (val_bounds ((hu.drop _).take _)).1, ?_, ?_⟩
  · have := (val_bounds ((hu.drop at_).take (n - 2))).2
    rw [List.length_take, List.length_drop, Nat.min_eq_left (by omega)] at this
    exact this
  · have h1 := val_take_drop (u.drop at_) (n - 2) (by simp; omega)
    rw [List.drop_drop, val_drop' u (at_ + (n - 2)), val_drop' u (at_ + (n - 2) + 1), val_drop' u (at_ + (n - 2) + 1 + 1)] at h1
    have h2 : val (u.drop (at_ + (n - 2) + 1 + 1 + 1)) = 0 := by
      have : ∀ (l : List Int), Zf l 0 → val l = 0 := by
        intro l
        induction l with
        | nil => intro _; rfl
        | cons x l ih =>
          intro h
          have h0 := h 0 (Nat.le_refl _)
          simp at h0
          rw [val_cons, h0, ih (fun j _ => by have := h (j + 1) (by omega); simpa using this)]; omega
      apply this
      intro j _
      rw [List.getD_eq_getElem?_getD, List.getElem?_drop, ← List.getD_eq_getElem?_getD]
      exact hz _ (by omega)
    rw [h2] at h1
    rw [h1, show at_ + (n - 2) + 1 + 1 = at_ + n by omega, show at_ + (n - 2) + 1 = at_ + n - 1 by omega, show at_ + (n - 2) = at_ + n - 2 by omega]
    generalize (1000000000 : Int) ^ (n - 2) = P
    grind
theorem div_top (v : List Int) (hv : Dig v) (hn : 2 ≤ v.length) :
    ∃ V0, 0 ≤ V0 ∧ V0 < 1000000000 ^ (v.length - 2) ∧ val v = (v.getD (v.length - 1) 0 * 1000000000 + v.getD (v.length - 2) 0) * 1000000000 ^ (v.length - 2) + V0 := by
  refine ⟨val (v.take (v.length - 2)), (val_bounds (hv.take _)).1, ?_, ?_⟩
  · have := (val_bounds (hv.take (v.length - 2))).2
    rw [List.length_take, Nat.min_eq_left (by omega)] at this
    exact this
  · have h1 := val_take_drop v (v.length - 2) (by omega)
    rw [val_drop' v (v.length - 2), val_drop' v (v.length - 2 + 1), show v.length - 2 + 1 + 1 = v.length by omega, List.drop_length, val_nil, show v.length - 2 + 1 = v.length - 1 by omega] at h1
    rw [h1]
    generalize (1000000000 : Int) ^ (v.length - 2) = P
    grind
theorem zf_of_lt (u : List Int) (hu : Dig u) (i n : Nat) (h : val (u.drop i) < 1000000000 ^ n) : Zf u (i + n) := by
  induction n generalizing i with
  | zero =>
    have h0 := val_nonneg (hu.drop i)
    have hz : val (u.drop i) = 0 := by simp at h; omega
    have : ∀ (l : List Int), Dig l → val l = 0 → Zf l 0 := by
      intro l
      induction l with
      | nil => intro _ _ j _; rfl
      | cons x l ih =>
        intro hd hv j _
        have := hd.head
        have := val_nonneg hd.tail
        rw [val_cons] at hv
        cases j with
        | zero => simp; omega
        | succ j => rw [List.getD_cons_succ]; exact ih hd.tail (by omega) j (Nat.zero_le _)
    have h1 := this _ (hu.drop i) hz
    intro j hj
    have h2 := h1 (j - i) (Nat.zero_le _)
    rw [List.getD_eq_getElem?_getD, List.getElem?_drop, ← List.getD_eq_getElem?_getD, show i + (j - i) = j by omega] at h2
    exact h2
  | succ n ih =>
    have h1 := val_drop' u i
    have h2 := hu.getD i
    have h3 : val (u.drop (i + 1)) < 1000000000 ^ n := by
      rw [h1, Int.pow_succ] at h
      generalize val (u.drop (i + 1)) = x at *
      generalize (1000000000 : Int) ^ n = P at *
      omega
    have := ih (i + 1) h3
    rwa [show i + 1 + n = i + (n + 1) by omega] at this
theorem guess_top {U V P top uh ul u2 U0 v1 v2 V0 : Int} (hP : 0 < P) (hU : U = (top * 1000000000 + u2) * P + U0) (hV : V = (v1 * 1000000000 + v2) * P + V0) (ht : top = uh * 1000000000 + ul)
    (hu2 : 0 ≤ u2) (hU0 : 0 ≤ U0) (hul : 0 ≤ ul) (hv2 : v2 < 1000000000) (hV0 : V0 < P) (h : U < 1000000000 * V) : uh ≤ v1 := by
  have h1 : (uh * 1000000000 * 1000000000) * P ≤ (top * 1000000000 + u2) * P := Int.mul_le_mul_of_nonneg_right (by omega) (by omega)
  have h2 : (v1 * 1000000000 + v2) * P + V0 < (v1 * 1000000000 + v2 + 1) * P := by
    have : (v1 * 1000000000 + v2 + 1) * P = (v1 * 1000000000 + v2) * P + P := by grind
    omega
  have h3 : (v1 * 1000000000 + v2 + 1) * P ≤ ((v1 + 1) * 1000000000) * P := Int.mul_le_mul_of_nonneg_right (by omega) (by omega)
  have h4 : (uh * 1000000000 * 1000000000) * P < ((v1 + 1) * 1000000000 * 1000000000) * P := by
    have : ((v1 + 1) * 1000000000 * 1000000000) * P = 1000000000 * (((v1 + 1) * 1000000000) * P) := by grind
    omega
  have := Int.lt_of_mul_lt_mul_right h4 (by omega)
  omega
structure Guess (u v : List Int) (at_ : Nat) : Prop where
  du : Dig u
  dv : Dig v
  n2 : 2 ≤ v.length
  lu : u.length ≤ 35184372088800
  la : at_ + v.length < u.length
  top : v.getD (v.length - 1) 0 ≠ 0
  lt : val (u.drop (at_ + 1)) < val v
theorem Guess.v1 {u v : List Int} {at_ : Nat} (g : Guess u v at_) : 1 ≤ v.getD (v.length - 1) 0 ∧ v.getD (v.length - 1) 0 < 1000000000 := by
  have := g.dv.getD (v.length - 1)
  have := g.top
  omega
theorem Guess.vpos {u v : List Int} {at_ : Nat} (g : Guess u v at_) : 0 < val v := Norm.pos ⟨g.dv, fun _ => g.top⟩ (by intro h; have := g.n2; rw [h] at this; simp at this)
theorem Guess.zf {u v : List Int} {at_ : Nat} (g : Guess u v at_) : Zf u (at_ + v.length + 1) := by
  have := zf_of_lt u g.du (at_ + 1) v.length (by have := g.lt; have := (val_bounds g.dv).2; omega)
  rwa [show at_ + 1 + v.length = at_ + v.length + 1 by omega] at this
theorem Guess.ltB {u v : List Int} {at_ : Nat} (g : Guess u v at_) : val (u.drop at_) < 1000000000 * val v := by
  have h1 := val_drop' u at_
  have h2 := g.du.getD at_
  have := g.lt
  omega
theorem val_zero_of_zf : ∀ (l : List Int), Zf l 0 → val l = 0 := by
  intro l
  induction l with
  | nil => intro _; rfl
  | cons x l ih =>
    intro h
    have h0 := h 0 (Nat.le_refl _)
    simp at h0
    rw [val_cons, h0, ih (fun j _ => by have := h (j + 1) (by omega); simpa using this)]; omega
theorem val_take_zf (l : List Int) (n : Nat) (hn : n ≤ l.length) (h : Zf l n) : val (l.take n) = val l := by
  have h1 := val_take_drop l n hn
  have h2 : val (l.drop n) = 0 := by
    apply val_zero_of_zf
    intro j _
    rw [List.getD_eq_getElem?_getD, List.getElem?_drop, ← List.getD_eq_getElem?_getD]
    exact h _ (by omega)
  rw [h2] at h1
  omega
theorem guess_begin {u v : List Int} {at_ : Nat} (g : Guess u v at_) (T : Int) (hT : T = u.getD (at_ + v.length) 0 * 1000000000 + u.getD (at_ + v.length - 1) 0) :
    0 ≤ T ∧ T < 1000000000000000000 ∧ 0 ≤ T / v.getD (v.length - 1) 0 ∧ T / v.getD (v.length - 1) 0 < 2000000000 ∧ 0 ≤ T % v.getD (v.length - 1) 0 ∧ T % v.getD (v.length - 1) 0 < 1000000000 ∧
      T / v.getD (v.length - 1) 0 * v.getD (v.length - 1) 0 + T % v.getD (v.length - 1) 0 = T ∧ val (u.drop at_) < (T / v.getD (v.length - 1) 0 + 1) * val v := by
  have hv1 := g.v1
  have hv2 := g.dv.getD (v.length - 2)
  have hu2 := g.du.getD (at_ + v.length - 2)
  have hul := g.du.getD (at_ + v.length - 1)
  have huh := g.du.getD (at_ + v.length)
  obtain ⟨U0, a1, a2, a3⟩ := seg_top u at_ v.length g.du g.n2 g.la g.zf
  obtain ⟨V0, c1, c2, c3⟩ := div_top v g.dv g.n2
  have hP := pow_pos (v.length - 2)
  have huv := guess_top hP a3 c3 rfl hu2.1 a1 hul.1 hv2.2 c2 g.ltB
  have hT0 : 0 ≤ T := by omega
  have e1 := Int.ediv_nonneg hT0 (show 0 ≤ v.getD (v.length - 1) 0 by omega)
  have e2 := Int.emod_nonneg T (show v.getD (v.length - 1) 0 ≠ 0 by omega)
  have e3 := Int.emod_lt_of_pos T (show 0 < v.getD (v.length - 1) 0 by omega)
  have e4 := Int.mul_ediv_add_emod T (v.getD (v.length - 1) 0)
  have e5 : T / v.getD (v.length - 1) 0 * v.getD (v.length - 1) 0 + T % v.getD (v.length - 1) 0 = T := by rw [Int.mul_comm]; exact e4
  refine ⟨hT0, by omega, e1, ?_, e2, by omega, e5, ?_⟩
  · apply Int.ediv_lt_of_lt_mul (by omega)
    omega
  · rw [← hT] at a3
    exact k_start hP a3 c3 hu2.2 a2 hv2.1 c1 (by omega) e1 e5 e3
theorem pow_le_mul {a b : Int} {n : Nat} (h : a ≤ b) : a * 1000000000 ^ n ≤ b * 1000000000 ^ n := Int.mul_le_mul_of_nonneg_right h (by have := pow_pos n; omega)
theorem scaled_len {b v : List Int} (hb : Norm b) (hne : b ≠ []) (hv : Norm v) (s : Int) (hs : 1 ≤ s) (hsb : s * (b.getD (b.length - 1) 0 + 1) ≤ 1000000000) (he : val v = val b * s) : v.length = b.length := by
  have hp := List.length_pos_iff.2 hne
  have h1 := hb.lo hne
  have hpos := hb.pos hne
  have h2 : val b < (b.getD (b.length - 1) 0 + 1) * 1000000000 ^ (b.length - 1) := by
    have e := val_take_drop b (b.length - 1) (by omega)
    rw [val_drop' b (b.length - 1), show b.length - 1 + 1 = b.length by omega, List.drop_length, val_nil] at e
    have := (val_bounds (hb.1.take (b.length - 1))).2
    rw [List.length_take, Nat.min_eq_left (by omega)] at this
    have e2 : (b.getD (b.length - 1) 0 + 1) * 1000000000 ^ (b.length - 1) = 1000000000 ^ (b.length - 1) * (b.getD (b.length - 1) 0 + 1000000000 * 0) + 1000000000 ^ (b.length - 1) := by grind
    omega
  have h3 : val b ≤ val v := by
    rw [he]
    have : val b * 1 ≤ val b * s := Int.mul_le_mul_of_nonneg_left hs (by omega)
    omega
  have hle := hb.len_le hv.1 h3
  have h4 : val v < 1000000000 ^ b.length := by
    rw [he]
    have e1 : val b * s < ((b.getD (b.length - 1) 0 + 1) * 1000000000 ^ (b.length - 1)) * s := Int.mul_lt_mul_of_pos_right h2 (by omega)
    have e2 : ((b.getD (b.length - 1) 0 + 1) * 1000000000 ^ (b.length - 1)) * s = (s * (b.getD (b.length - 1) 0 + 1)) * 1000000000 ^ (b.length - 1) := by grind
    have e3 : (s * (b.getD (b.length - 1) 0 + 1)) * 1000000000 ^ (b.length - 1) ≤ 1000000000 * 1000000000 ^ (b.length - 1) := pow_le_mul hsb
    have e4 : (1000000000 : Int) ^ b.length = 1000000000 * 1000000000 ^ (b.length - 1) := by
      conv => lhs; rw [show b.length = (b.length - 1) + 1 by omega, Int.pow_succ]
      grind
    omega
  by_cases h : v.length ≤ b.length
  · omega
  · have hvne : v ≠ [] := by intro h0; subst h0; simp at h
    have := hv.lo hvne
    have := pow_mono (show b.length ≤ v.length - 1 by omega)
    omega
theorem scale_ok {x : Int} (h : 1 ≤ x ∧ x < 1000000000) : 1 ≤ 1000000000 / (x + 1) ∧ 1000000000 / (x + 1) < 1000000000 ∧ 1000000000 / (x + 1) * (x + 1) ≤ 1000000000 := by
  have h1 := Int.mul_ediv_add_emod 1000000000 (x + 1)
  have h2 := Int.emod_nonneg 1000000000 (show x + 1 ≠ 0 by omega)
  have h3 := Int.emod_lt_of_pos 1000000000 (show 0 < x + 1 by omega)
  have h4 : 1000000000 / (x + 1) * (x + 1) = (x + 1) * (1000000000 / (x + 1)) := Int.mul_comm _ _
  refine ⟨?_, ?_, by omega⟩
  · exact Int.le_ediv_of_mul_le (by omega) (by omega)
  · apply Int.ediv_lt_of_lt_mul (by omega)
    omega
theorem scaled_head {a b u : List Int} (ha : Dig a) (hb : Norm b) (hne : b ≠ []) (hu : Dig u) (s : Int) (hs : 1 ≤ s) (he : val u = val a * s) (hl : a.length + 1 ≤ u.length) (hbu : b.length ≤ u.length) (V : Int) (hV : V = val b * s) :
    val (u.drop (u.length - b.length)) < V := by
  have hp := List.length_pos_iff.2 hne
  have h1 := hb.lo hne
  have h2 := (val_bounds ha).2
  have e := val_take_drop u (u.length - b.length) (by omega)
  have h3 := val_nonneg (hu.take (u.length - b.length))
  have hP := pow_pos (u.length - b.length)
  have h4 : val a * s < 1000000000 ^ a.length * s := Int.mul_lt_mul_of_pos_right h2 (by omega)
  have h5 : (1000000000 : Int) ^ a.length * s ≤ 1000000000 ^ (u.length - 1) * s := Int.mul_le_mul_of_nonneg_right (pow_mono (by omega)) (by omega)
  have h6 : (1000000000 : Int) ^ (u.length - 1) * s = 1000000000 ^ (u.length - b.length) * (1000000000 ^ (b.length - 1) * s) := by
    rw [show u.length - 1 = (u.length - b.length) + (b.length - 1) by omega, Int.pow_add]; grind
  have h7 : (1000000000 : Int) ^ (b.length - 1) * s ≤ V := by rw [hV]; exact Int.mul_le_mul_of_nonneg_right h1 (by omega)
  have h8 : 1000000000 ^ (u.length - b.length) * val (u.drop (u.length - b.length)) < 1000000000 ^ (u.length - b.length) * (1000000000 ^ (b.length - 1) * s) := by omega
  have := Int.lt_of_mul_lt_mul_left h8 (by omega)
  omega
theorem quot_of {a b s Q rem : Int} (hs : 0 < s) (hb : 0 < b) (h : a * s = b * s * Q + rem) (h0 : 0 ≤ rem) (h1 : rem < b * s) : Q = a / b ∧ rem / s = a % b := by
  have e : rem = (a - b * Q) * s := by grind
  have h2 : 0 ≤ a - b * Q := by
    by_cases h : 0 ≤ a - b * Q
    · exact h
    · have : (a - b * Q) * s ≤ (-1) * s := Int.mul_le_mul_of_nonneg_right (by omega) (by omega)
      omega
  have h3 : a - b * Q < b := by
    rw [e] at h1
    exact Int.lt_of_mul_lt_mul_right h1 (by omega)
  have h4 : a = (a - b * Q) + b * Q := by omega
  constructor
  · rw [h4, Int.add_mul_ediv_left _ _ (by omega), Int.ediv_eq_zero_of_lt h2 h3]; omega
  · rw [e, Int.mul_ediv_cancel _ (by omega)]
    conv => rhs; rw [h4]
    rw [Int.add_mul_emod_self_left, Int.emod_eq_of_lt h2 h3]
theorem zf_snoc2 (w : List Int) : Zf (w ++ [0, 0]) w.length := by
  intro j hj
  obtain ⟨d, rfl⟩ := Nat.exists_eq_add_of_le hj
  rw [List.getD_eq_getElem?_getD, List.getElem?_append_right (by omega), Nat.add_sub_cancel_left]
  match d with
  | 0 => rfl
  | 1 => rfl
  | d + 2 => rfl
theorem len2 (w : List Int) : (w ++ [0, 0]).length = w.length + 2 := by
  rw [List.length_append]; rfl
theorem len2_le (w a : List Int) (h2 : a.length ≤ w.length) : a.length + 1 ≤ (w ++ [0, 0]).length := by
  rw [len2]; omega
theorem take_len2 (w a : List Int) (h : w.length ≤ a.length + 1) (h2 : a.length ≤ w.length) : ((w ++ [0, 0]).take (a.length + 1)).length = a.length + 1 := by
  rw [List.length_take, List.length_append]; simp only [List.length_cons, List.length_nil]; omega
section
variable {u v : List Int} {at_ : Nat} {t ρ : Int}
theorem Guess.down (g : Guess u v at_) (h0 : 0 ≤ t) (he : t * v.getD (v.length - 1) 0 + ρ = u.getD (at_ + v.length) 0 * 1000000000 + u.getD (at_ + v.length - 1) 0) (h2 : 0 ≤ ρ)
    (h : 1000000000 ≤ t ∨ ρ * 1000000000 + u.getD (at_ + v.length - 2) 0 < t * v.getD (v.length - 2) 0) : 1 ≤ t ∧ val (u.drop at_) < t * val v := by
  have hVp := g.vpos
  have hB := g.ltB
  have hu2 := g.du.getD (at_ + v.length - 2)
  obtain ⟨U0, a1, a2, a3⟩ := seg_top u at_ v.length g.du g.n2 g.la g.zf
  obtain ⟨V0, c1, c2, c3⟩ := div_top v g.dv g.n2
  have hP := pow_pos (v.length - 2)
  rcases h with h | h
  · have : 1000000000 * val v ≤ t * val v := Int.mul_le_mul_of_nonneg_right h (by omega)
    exact ⟨by omega, by omega⟩
  · refine ⟨?_, k_less hP a3 c3 a2 c1 h0 he h⟩
    by_cases h4 : t = 0
    · subst h4; omega
    · omega
theorem Guess.stay (g : Guess u v at_) (h0 : 0 ≤ t) (he : t * v.getD (v.length - 1) 0 + ρ = u.getD (at_ + v.length) 0 * 1000000000 + u.getD (at_ + v.length - 1) 0) (h2 : 0 ≤ ρ)
    (h : 1000000000 ≤ ρ ∨ t < 1000000000 ∧ t * v.getD (v.length - 2) 0 ≤ ρ * 1000000000 + u.getD (at_ + v.length - 2) 0) : t < 1000000000 ∧ (t - 1) * val v ≤ val (u.drop at_) := by
  have hv1 := g.v1
  have hv2 := g.dv.getD (v.length - 2)
  have hu2 := g.du.getD (at_ + v.length - 2)
  have hul := g.du.getD (at_ + v.length - 1)
  have huh := g.du.getD (at_ + v.length)
  obtain ⟨U0, a1, a2, a3⟩ := seg_top u at_ v.length g.du g.n2 g.la g.zf
  obtain ⟨V0, c1, c2, c3⟩ := div_top v g.dv g.n2
  have hP := pow_pos (v.length - 2)
  have huv := guess_top hP a3 c3 rfl hu2.1 a1 hul.1 hv2.2 c2 g.ltB
  rcases h with h | ⟨h, h3⟩
  · have htB : t < 1000000000 := by
      by_cases h : t < 1000000000
      · exact h
      · have : 1000000000 * v.getD (v.length - 1) 0 ≤ t * v.getD (v.length - 1) 0 := Int.mul_le_mul_of_nonneg_right (by omega) (by omega)
        omega
    have htv : 0 ≤ t * v.getD (v.length - 2) 0 ∧ t * v.getD (v.length - 2) 0 ≤ 999999998000000001 := mul_step (o := 0) (c := 0) (by omega) (by omega) hv2 (by omega)
    exact ⟨htB, k_most hP a3 c3 a1 c2 hv2.1 c1 (by omega) h0 (by omega) he (by omega)⟩
  · exact ⟨h, k_most hP a3 c3 a1 c2 hv2.1 c1 (by omega) h0 (by omega) he h3⟩
end
end Gb
namespace Go.Proofs.YtnlabeglboomlaaGreatDoor.S
open Go Go.Sx Go.RowKit Gb
variable {G : World → Prop} (hG : ∀ w w', G w → Below w.heap.size w w' → G w')
def overInv (v : List Int) (L : Nat) (A : Int) (s : List Int × List Int × Nat) : Prop :=
  s.2.2 + v.length ≤ L ∧ Dig s.1 ∧ s.1.length = L ∧ Dig s.2.1 ∧ s.2.1.length = L - v.length ∧ (∀ j, j < s.2.2 → s.2.1.getD j 0 = 0) ∧ val (s.1.drop s.2.2) < val v ∧ val s.1 + val v * val s.2.1 = A
def overInv2 (u v : List Int) (m : Nat) (s : Int × Int) : Prop :=
  0 ≤ s.1 ∧ s.1 < 2000000000 ∧ 0 ≤ s.2 ∧ s.2 < 4000000000 ∧ s.1 * v.getD (v.length - 1) 0 + s.2 = u.getD (m + v.length) 0 * 1000000000 + u.getD (m + v.length - 1) 0 ∧ val (u.drop m) < (s.1 + 1) * val v
omit hG in
theorem overInv_next {u v q : List Int} {L k : Nat} {A : Int} (g : Guess u v k) (h : overInv v L A (u, q, k + 1)) : overInv v L A (redU u v k, q.set k (val (u.drop k) / val v), k) := by
  obtain ⟨i1, i2, i3, i4, i5, i6, i7, i8⟩ := h
  dsimp only at i1 i2 i3 i4 i5 i6 i7 i8
  have hV := g.vpos
  have hB := g.ltB
  have hU := val_nonneg (i2.drop k)
  have q0 : 0 ≤ val (u.drop k) / val v := Int.ediv_nonneg hU (by omega)
  have q1 : val (u.drop k) / val v < 1000000000 := Int.ediv_lt_of_lt_mul hV (by omega)
  have r1 := Int.emod_lt_of_pos (val (u.drop k)) hV
  refine ⟨by dsimp only; omega, redU_dig i2, by dsimp only; rw [redU_len (by have := g.la; omega)]; exact i3, i4.set _ q0 q1, by simp [i5], (fun j hj => by dsimp only at hj ⊢; rw [Gb.getD_set_ne _ _ _ _ (by omega)]; exact i6 j (by omega)), by dsimp only; rw [redU_val g.dv hV g.la]; exact r1, ?_⟩
  dsimp only
  have hla := g.la
  have e0 := val_take_drop u k (by omega)
  have e1 := val_take_drop (redU u v k) k (by rw [redU_len (by omega)]; omega)
  rw [redU_take (by omega), redU_val g.dv hV g.la] at e1
  rw [e1, val_set _ _ _ (by omega), i6 k (by omega), ← i8, e0]
  have e2 := Int.mul_ediv_add_emod (val (u.drop k)) (val v)
  generalize val (u.drop k) / val v = Q at *
  generalize val (u.drop k) % val v = R at *
  generalize (1000000000 : Int) ^ k = P at *
  rw [← e2]
  grind
include hG
set_option maxRecDepth 100000 in
set_option maxHeartbeats 20000000 in
theorem over_n (a b : Nat) (ha : Lw a < 1000000) (hb : Lw b < 1000000) (hb0 : 0 < b) : Meets Tryz.prog G 107 [nP a, nP b] (.tup [nP (a / b), nP (a % b)]) := by
  refine meets_of_vc (Y := { mc := [136], bw := [10], fz := [21] }) (N := 176) (rs := [.tmp 4, .tmp 5]) mix tk hG Tryz.func107 rfl (by kernel_rfl) rfl rfl (by simp) (by kernel_rfl) ?_
  have hA := wl_norm a
  have hB := wl_norm b
  have hva := wl_val a
  have hvb := wl_val b
  have hla : (wl a).length < 1000000 := ha
  have hlb : (wl b).length < 1000000 := hb
  have hbne : wl b ≠ [] := by rw [wl_pos (by omega)]; simp
  have hbl := List.length_pos_iff.2 hbne
  simp (maxSteps := 10000000) only [↓sx, sx, ↓ty, ↓reduceIte, Nat.reduceEqDiff, Nat.reduceBeqDiff, Nat.reduceAdd, Nat.reduceLeDiff, ne_eq, not_false_eq_true, nP_c]
  refine CallT.mk (cmp_n hG a b (by omega) (by omega)) ?_
  simp (maxSteps := 10000000) only [↓sx, sx, ↓ty, ↓reduceIte, Nat.reduceEqDiff, Nat.reduceAdd, iP_c, wv_c]
  refine vcIf_dec (fun hlt => ?_) (fun hlt => ?_)
  · have : (a : Int) < b := by
      rw [cmpI] at hlt
      split at hlt
      · assumption
      · split at hlt <;> omega
    rw [Nat.div_eq_of_lt (by omega), Nat.mod_eq_of_lt (by omega), wl_zero]
    rfl
  have hba : b ≤ a := by
    rw [cmpI] at hlt
    split at hlt <;> omega
  refine vcIf_b (fun h1 => ?_) (fun h1 => ?_)
  · have h1 : (wl b).length = 1 := by simp at h1; omega
    obtain ⟨x, hx⟩ := List.length_eq_one_iff.1 h1
    have hxb : x = (b : Int) := by rw [← hvb, hx]; simp [val]
    subst hxb
    have hxd := hB.1 b (by rw [hx]; simp)
    refine ⟨by omega, by omega, ?_⟩
    refine CallT.to (smal_n hG a b ha hb0 (by omega)) (by rw [hx]; rfl) ?_
    simp (maxSteps := 10000000) only [↓sx, sx, ↓reduceIte]
    have hm : a % b < b := Nat.mod_lt _ hb0
    refine CallT.mk (small_n hG (a % b) (by omega)) ?_
    simp (maxSteps := 10000000) only [↓sx, sx, ↓reduceIte, Nat.reduceEqDiff]
    rfl
  · have h1 : 2 ≤ (wl b).length := by simp at h1; omega
    have hw : IntKind.i64.wrap (((wl b).length : Int) - 1) = (((wl b).length - 1 : Nat) : Int) := by rw [i64_id] <;> omega
    rw [hw, Int.toNat_natCast]
    have htop := hB.2 hbne
    have hbt := hB.1.getD ((wl b).length - 1)
    generalize hx : (wl b).getD ((wl b).length - 1) 0 = x at *
    obtain ⟨s1, s2, s3⟩ := scale_ok (x := x) (by omega)
    generalize hs : 1000000000 / (x + 1) = s at *
    have e1 : IntKind.u32.wrap (IntKind.i64.wrap (Int.tdiv 1000000000 (IntKind.i64.wrap (IntKind.i64.wrap x + 1)))) = s := by
      rw [i64_id (x := x) (by omega) (by omega), i64_id (x := x + 1) (by omega) (by omega), tdiv_pos (by decide), hs, i64_id (x := s) (by omega) (by omega), u32_id (by omega) (by omega)]
    have e2 : ¬ IntKind.i64.wrap (IntKind.i64.wrap x + 1) = 0 := by
      rw [i64_id (x := x) (by omega) (by omega), i64_id (x := x + 1) (by omega) (by omega)]; omega
    obtain ⟨σ, hσ⟩ : ∃ σ : Nat, s = (σ : Int) := ⟨s.toNat, by omega⟩
    refine ⟨by omega, by omega, e2, ?_⟩
    refine CallT.to (small_n hG σ (by omega)) (by rw [e1, hσ]) ?_
    have hwσ : wl σ = [s] := by
      rw [wl_pos (by omega), show σ / 1000000000 = 0 by omega, wl_zero, show ((σ % 1000000000 : Nat) : Int) = s by omega]
    have hLσ : Lw σ = 1 := by unfold Lw; rw [hwσ]; rfl
    simp (maxSteps := 10000000) only [↓sx, sx, ↓reduceIte, Nat.reduceEqDiff, nP_c]
    refine CallT.mk (times_n hG b σ hb (by omega)) ?_
    simp (maxSteps := 10000000) only [↓sx, sx, ↓reduceIte, Nat.reduceEqDiff, nP_c]
    refine CallT.mk (times_n hG a σ ha (by omega)) ?_
    simp (maxSteps := 10000000) only [↓sx, sx, ↓ty, ↓reduceIte, Nat.reduceEqDiff, Nat.reduceAdd, Nat.reduceLT, nP_c]
    have hwd := wl_norm (a * σ)
    have hwv := wl_val (a * σ)
    have hLa : (wl (a * σ)).length ≤ (wl a).length + 1 := by have := Lw_mul a σ; rw [hLσ] at this; exact this
    have hLa2 : (wl a).length ≤ (wl (a * σ)).length := Lw_mono (Nat.le_mul_of_pos_right a (by omega))
    have hab : (wl b).length ≤ (wl a).length := Lw_mono hba
    have hd2 : Dig (wl (a * σ) ++ [0, 0]) := hwd.1.append (Dig.cons (by omega) (by omega) (Dig.cons (by omega) (by omega) Dig.nil))
    refine ⟨⟨wv_leaf _, by simp only [maxLen]; omega, by omega⟩, ⟨by simp only [maxLen]; omega, by omega⟩, ?_⟩
    refine CallT.to (trim_n hG (wl (a * σ) ++ [0, 0]) (by rw [len2]; omega) hd2 (a * σ) (by rw [val_append, hwv]; simp [val])) (by rw [len2, List.map_append, Nat.zero_add]; rfl) ?_
    simp (maxSteps := 10000000) only [↓sx, sx, ↓ty, ↓reduceIte, Nat.reduceEqDiff, nP_c]
    have hv := wl_norm (b * σ)
    have hvv := wl_val (b * σ)
    have hvl : (wl (b * σ)).length = (wl b).length := scaled_len hB hbne hv s s1 (by rw [hx]; exact s3) (by rw [hvv, hvb, hσ, Int.natCast_mul])
    have hmx : (if ((wl (a * σ)).length : Int) > IntKind.i64.wrap (((wl a).length : Int) + 1) then ((wl (a * σ)).length : Int) else IntKind.i64.wrap (((wl a).length : Int) + 1)) = (((wl a).length + 1 : Nat) : Int) := by
      rw [i64_id (by omega) (by omega)]; split <;> omega
    have hn1 : IntKind.i64.wrap ((((wl a).length + 1 : Nat) : Int) - ((wl b).length : Int)) = (((wl a).length + 1 - (wl b).length : Nat) : Int) := by rw [i64_id] <;> omega
    have hn2 : IntKind.i64.wrap ((((wl a).length + 1 - (wl b).length : Nat) : Int) - 1) = (((wl a).length + 1 - (wl b).length : Nat) : Int) - 1 := by rw [i64_id] <;> omega
    rw [hmx, Int.toNat_natCast ((wl a).length + 1), hn1]
    refine ⟨⟨by omega, by omega⟩, ⟨by omega, by omega, by omega, by omega⟩, ?_⟩
    have hu0 : Dig ((wl (a * σ) ++ [0, 0]).take ((wl a).length + 1)) := hd2.take _
    have hul0 : ((wl (a * σ) ++ [0, 0]).take ((wl a).length + 1)).length = (wl a).length + 1 := take_len2 (wl (a * σ)) (wl a) hLa hLa2
    have huv0 : val ((wl (a * σ) ++ [0, 0]).take ((wl a).length + 1)) = val (wl a) * s := by
      rw [val_take_zf _ _ (len2_le (wl (a * σ)) (wl a) hLa2), val_append, hwv, hva, hσ]
      · simp [val]
      · exact (zf_snoc2 (wl (a * σ))).mono hLa
    have hucs : List.map wv (List.take ((wl a).length + 1) (wl (a * σ) ++ [0, 0])) = List.take ((wl a).length + 1) (List.map wv (wl (a * σ)) ++ [.val (.int .u32 0), .val (.int .u32 0)]) := by
      rw [List.map_take, List.map_append]; rfl
    have hhead := scaled_head hA.1 hB hbne hu0 s s1 huv0 (by omega) (by omega) (val (wl (b * σ))) (by rw [hvv, hvb, hσ, Int.natCast_mul])
    rw [hul0] at hhead
    have hvtop := hv.2 (by intro h; rw [h] at hvl; simp at hvl; omega)
    have hvp : 0 < val (wl (b * σ)) := hv.pos (by intro h; rw [h] at hvl; simp at hvl; omega)
    generalize hgv : wl (b * σ) = v at *
    generalize hgn : (wl b).length = n at *
    generalize hgu : (wl (a * σ) ++ [0, 0]).take ((wl a).length + 1) = u0 at *
    refine loopK_of (fun s : List Int × List Int × Nat => [(8, .p (.val (.int .i64 (n : Nat)))), (9, .p (.sl 1 [wv σ])), (10, .p (.sl v.length (v.map wv))), (11, .orow 53), (12, .orow 73), (13, .p (.val (.int .i64 ((s.2.2 : Int) - 1))))]) (fun _ => []) (fun s => [(53, ⟨95, 1, s.1.length, s.1.map wv, false⟩), (73, ⟨95, 1, s.2.1.length, s.2.1.map wv, false⟩)]) (overInv v ((wl a).length + 1) (val (wl a) * s)) (fun s => s.2.2) (u0, List.replicate ((wl a).length + 1 - n) 0, (wl a).length + 1 - n) ?_ ?_ ?_
    · refine ⟨by dsimp only; omega, hu0, hul0, Dig.replicate _, by simp [hvl], fun j _ => Zf.replicate _ 0 j (Nat.zero_le _), hhead, ?_⟩
      simp [val_replicate, huv0]
    · simp (maxSteps := 10000000) only [isE_nil, is_cons, bo_p, bo_orow, any_cons', all_cons', all_nil', Bool.true_or, Bool.or_true, ↓sx, sx, ↓reduceIte, Nat.reduceEqDiff, Nat.reduceBeqDiff, hn2]
      rw [hwσ, hul0, rep_wv, List.length_replicate, hucs, hσ]
      exact ⟨rfl, rfl, rfl⟩
    · rintro ⟨u, q, m⟩ ⟨i1, i2, i3, i4, i5, i6, i7, i8⟩
      dsimp only at i1 i2 i3 i4 i5 i6 i7 i8 ⊢
      simp (maxSteps := 10000000) only [↓sx, sx, ↓ty, ↓reduceIte, Nat.reduceEqDiff, Nat.reduceBeqDiff, wv_c]
      refine vcIf_dec (fun hm => ?_) (fun hm => ?_)
      · obtain ⟨k, rfl⟩ : ∃ k, m = k + 1 := ⟨m - 1, by omega⟩
        rw [show (((k + 1 : Nat) : Int) - 1) = (k : Int) by omega]
        have g : Guess u v k := ⟨i2, hv.1, by omega, by omega, by omega, hvtop, i7⟩
        have hv1 := g.v1
        have hul2 := i2.getD (k + v.length - 1)
        have huh := i2.getD (k + v.length)
        obtain ⟨t0, t1, t2, t3, t4, t5, t6, t7⟩ := guess_begin g _ rfl
        have x1 : IntKind.i64.wrap ((k : Int) + (n : Int)) = ((k + v.length : Nat) : Int) := by rw [i64_id] <;> omega
        have x2 : IntKind.i64.wrap (((k + v.length : Nat) : Int) - 1) = ((k + v.length - 1 : Nat) : Int) := by rw [i64_id] <;> omega
        have x3 : IntKind.i64.wrap ((n : Int) - 1) = ((v.length - 1 : Nat) : Int) := by rw [i64_id] <;> omega
        rw [x1, x2, x3, Int.toNat_natCast (k + v.length), Int.toNat_natCast (k + v.length - 1), Int.toNat_natCast (v.length - 1)]
        rw [u64_id (x := u.getD (k + v.length) 0) (by omega) (by omega), u64_id (x := u.getD (k + v.length - 1) 0) (by omega) (by omega), u64_id (x := u.getD (k + v.length) 0 * 1000000000) (by omega) (by omega), u64_id (x := u.getD (k + v.length) 0 * 1000000000 + u.getD (k + v.length - 1) 0) (by omega) (by omega), u64_id (x := v.getD (v.length - 1) 0) (by omega) (by omega)]
        generalize hT : u.getD (k + v.length) 0 * 1000000000 + u.getD (k + v.length - 1) 0 = T at *
        rw [tdiv_pos t0, tmod_pos t0, u64_id (x := T / v.getD (v.length - 1) 0) (by omega) (by omega)]
        refine ⟨by omega, by omega, by omega, by omega, by omega, by omega, by omega, by omega, by omega, by omega, ?_⟩
        refine loopK_of (fun s : Int × Int => [(8, .p (.val (.int .i64 (n : Nat)))), (9, .p (.sl 1 [wv σ])), (10, .p (.sl v.length (v.map wv))), (11, .orow 53), (12, .orow 73), (13, .p (.val (.int .i64 (k : Nat)))), (15, .p (.val (.int .u64 s.1))), (16, .p (.val (.int .u64 s.2)))]) (fun _ => []) (fun s => [(53, ⟨95, 1, u.length, u.map wv, false⟩), (73, ⟨95, 1, q.length, q.map wv, false⟩)]) (overInv2 u v k) (fun s => s.1.toNat) (T / v.getD (v.length - 1) 0, T % v.getD (v.length - 1) 0) ?_ ?_ ?_
        · exact ⟨t2, t3, t4, by dsimp only; omega, by rw [hT]; exact t6, t7⟩
        · simp (maxSteps := 10000000) only [isE_nil, is_cons, bo_p, bo_orow, any_cons', all_cons', all_nil', Bool.true_or, Bool.or_true, ↓sx, sx, ↓reduceIte, Nat.reduceEqDiff, Nat.reduceBeqDiff, wv_c]
        · rintro ⟨t, r⟩ ⟨j1, j2, j3, j4, j5, j6⟩
          dsimp only at j1 j2 j3 j4 j5 j6 ⊢
          simp (maxSteps := 10000000) only [↓sx, sx, ↓ty, ↓reduceIte, Nat.reduceEqDiff, Nat.reduceBeqDiff, Nat.reduceLT, wv_c]
          have hv2 := g.dv.getD (v.length - 2)
          have hu2 := i2.getD (k + v.length - 2)
          have x4 : IntKind.i64.wrap ((n : Int) - 2) = ((v.length - 2 : Nat) : Int) := by rw [i64_id] <;> omega
          have x5 : IntKind.i64.wrap (((k + v.length : Nat) : Int) - 2) = ((k + v.length - 2 : Nat) : Int) := by rw [i64_id] <;> omega
          have exit : 1000000000 ≤ r ∨ t < 1000000000 ∧ t * v.getD (v.length - 2) 0 ≤ r * 1000000000 + u.getD (k + v.length - 2) 0 → MeetsM Tryz.prog G 136 ⟨95, 1, u.length, u.map wv, false⟩ ⟨95, 1, u.length, (redU u v k).map wv, false⟩ [.sl v.length (v.map wv), .val (.int .i64 (k : Nat)), .val (.int .u64 t)] (.val (.int .u32 (val (u.drop k) / val v))) := by
            intro h
            obtain ⟨w1, w2⟩ := g.stay j1 j5 j3 h
            exact reduce_c u v k t i2 hv.1 (by omega) (by omega) ⟨j1, w1⟩ w2 j6 hvp g.zf
          have down : ∀ {e : Env} {h : Hp} {ρ : Rws} {tg : Tag (overInv2 u v k, (fun s : Int × Int => s.1.toNat), e, h, ρ)}, r < 1000000000 → (1000000000 ≤ t ∨ r * 1000000000 + u.getD (k + v.length - 2) 0 < t * v.getD (v.length - 2) 0) →
              Is [(8, .p (.val (.int .i64 (n : Nat)))), (9, .p (.sl 1 [.val (.int .u32 σ)])), (10, .p (.sl v.length (v.map wv))), (11, .orow 53), (12, .orow 73), (13, .p (.val (.int .i64 (k : Nat)))), (15, .p (.val (.int .u64 (IntKind.u64.wrap (t - 1))))), (16, .p (.val (.int .u64 (IntKind.u64.wrap (r + IntKind.u64.wrap (v.getD (v.length - 1) 0))))))] [] [(53, ⟨95, 1, u.length, u.map wv, false⟩), (73, ⟨95, 1, q.length, q.map wv, false⟩)] e h ρ →
              NextK (fun s : Int × Int => [(8, .p (.val (.int .i64 (n : Nat)))), (9, .p (.sl 1 [.val (.int .u32 σ)])), (10, .p (.sl v.length (v.map wv))), (11, .orow 53), (12, .orow 73), (13, .p (.val (.int .i64 (k : Nat)))), (15, .p (.val (.int .u64 s.1))), (16, .p (.val (.int .u64 s.2)))]) (fun _ => []) (fun s => [(53, ⟨95, 1, u.length, u.map wv, false⟩), (73, ⟨95, 1, q.length, q.map wv, false⟩)]) (overInv2 u v k) (fun s => s.1.toNat) (t, r) e h ρ tg := by
            intro e h ρ tg hr hd his
            obtain ⟨w1, w2⟩ := g.down j1 j5 j3 hd
            rw [u64_id (x := t - 1) (by omega) (by omega), u64_id (x := v.getD (v.length - 1) 0) (by omega) (by omega), u64_id (x := r + v.getD (v.length - 1) 0) (by omega) (by omega)] at his
            refine NextK.mk (t - 1, r + v.getD (v.length - 1) 0) (by dsimp only; omega) ⟨by dsimp only; omega, by dsimp only; omega, by dsimp only; omega, by dsimp only; omega, ?_, by dsimp only; rw [show t - 1 + 1 = t by omega]; exact w2⟩ his
            dsimp only
            rw [← j5]; grind
          rw [x3, Int.toNat_natCast (v.length - 1)]
          refine vcIf_dec (fun hr => ?_) (fun hr => ?_)
          · refine vcIf_dec (fun hB2 => ?_) (fun hB2 => ?_)
            · refine ⟨by omega, by omega, down hr (.inl hB2) ?_⟩
              simp (maxSteps := 10000000) only [isE_nil, is_cons, bo_p, bo_orow, any_cons', all_cons', all_nil', Bool.true_or, Bool.or_true, ↓sx, sx, ↓reduceIte, Nat.reduceEqDiff, Nat.reduceBeqDiff]
            · have htv : 0 ≤ t * v.getD (v.length - 2) 0 ∧ t * v.getD (v.length - 2) 0 ≤ 999999998000000001 := mul_step (o := 0) (c := 0) (by omega) (by omega) hv2 (by omega)
              rw [x1, x4, x5, Int.toNat_natCast (v.length - 2), Int.toNat_natCast (k + v.length - 2)]
              rw [u64_id (x := v.getD (v.length - 2) 0) (by omega) (by omega), u64_id (x := t * v.getD (v.length - 2) 0) (by omega) (by omega), u64_id (x := u.getD (k + v.length - 2) 0) (by omega) (by omega), u64_id (x := r * 1000000000) (by omega) (by omega), u64_id (x := r * 1000000000 + u.getD (k + v.length - 2) 0) (by omega) (by omega)]
              refine ⟨by omega, by omega, by omega, by omega, ?_⟩
              refine vcIf_dec (fun ht2 => ?_) (fun ht2 => ?_)
              · refine ⟨by omega, by omega, down hr (.inr (by omega)) ?_⟩
                simp (maxSteps := 10000000) only [isE_nil, is_cons, bo_p, bo_orow, any_cons', all_cons', all_nil', Bool.true_or, Bool.or_true, ↓sx, sx, ↓reduceIte, Nat.reduceEqDiff, Nat.reduceBeqDiff]
              · refine CallN.mk (exit (.inr (by omega))) ?_
                simp (maxSteps := 10000000) only [↓sx, sx, ↓ty, ↓reduceIte, Nat.reduceEqDiff, Nat.reduceAdd]
                refine ⟨by omega, by omega, NextK.mk (redU u v k, q.set k (val (u.drop k) / val v), k) (by dsimp only; omega) (overInv_next g ⟨i1, i2, i3, i4, i5, i6, i7, i8⟩) ?_⟩
                simp (maxSteps := 10000000) only [isE_nil, is_cons, bo_p, bo_orow, any_cons', all_cons', all_nil', Bool.true_or, Bool.or_true, ↓sx, sx, ↓reduceIte, Nat.reduceEqDiff, Nat.reduceBeqDiff]
                rw [set_wv _ _ _ (by omega), redU_len (by omega), i64_id (x := (k : Int) - 1) (by omega) (by omega)]
                simp
          · refine CallN.mk (exit (.inl (by omega))) ?_
            simp (maxSteps := 10000000) only [↓sx, sx, ↓ty, ↓reduceIte, Nat.reduceEqDiff, Nat.reduceAdd]
            refine ⟨by omega, by omega, NextK.mk (redU u v k, q.set k (val (u.drop k) / val v), k) (by dsimp only; omega) (overInv_next g ⟨i1, i2, i3, i4, i5, i6, i7, i8⟩) ?_⟩
            simp (maxSteps := 10000000) only [isE_nil, is_cons, bo_p, bo_orow, any_cons', all_cons', all_nil', Bool.true_or, Bool.or_true, ↓sx, sx, ↓reduceIte, Nat.reduceEqDiff, Nat.reduceBeqDiff]
            rw [set_wv _ _ _ (by omega), redU_len (by omega), i64_id (x := (k : Int) - 1) (by omega) (by omega)]
            simp
      · obtain rfl : m = 0 := by omega
        rw [List.drop_zero] at i7
        have hu9 := val_nonneg i2
        have hzu := zf_of_lt u i2 0 v.length (by rw [List.drop_zero]; have := (val_bounds hv.1).2; omega)
        rw [Nat.zero_add, hvl] at hzu
        have hvu := val_take_zf u n (by omega) hzu
        obtain ⟨μ, hμ⟩ : ∃ μ : Nat, val u = (μ : Int) := ⟨(val u).toNat, by omega⟩
        have hq9 := quot_of (a := (a : Int)) (b := (b : Int)) (s := s) (Q := val q) (rem := val u) (by omega) (by omega) (by rw [← hva, ← i8, hvv, hσ, Int.natCast_mul]; omega) hu9 (by rw [hvv, Int.natCast_mul, ← hσ] at i7; exact i7)
        have hqv : val q = ((a / b : Nat) : Int) := by rw [hq9.1, Int.natCast_ediv]
        have hrv : μ / σ = a % b := by
          have := hq9.2
          rw [hμ, hσ, ← Int.natCast_ediv, ← Int.natCast_emod] at this
          exact Int.ofNat_inj.1 this
        have htl : (u.take n).length = n := by rw [List.length_take]; omega
        have hμL : Lw μ < 1000000 := by
          have h7 : μ < b * σ := by rw [hvv, hμ] at i7; exact Int.ofNat_lt.1 i7
          have h8 := Lw_mono (Nat.le_of_lt h7)
          have h9 : Lw (b * σ) = v.length := by unfold Lw; rw [hgv]
          omega
        refine ⟨by omega, ?_⟩
        refine CallT.to (trim_n hG (u.take n) (by omega) (i2.take n) μ (by rw [hvu, hμ])) (by rw [htl]) ?_
        simp (maxSteps := 10000000) only [↓sx, sx, ↓ty, ↓reduceIte, Nat.reduceEqDiff, Nat.reduceAdd, Nat.reduceLT, nP_c]
        refine ⟨by omega, CallT.mk (smal_n hG μ σ hμL (by omega) (by omega)) ?_⟩
        simp (maxSteps := 10000000) only [↓sx, sx, ↓reduceIte, Nat.reduceEqDiff, Nat.reduceBeqDiff, nP_c]
        refine CallT.mk (trim_n hG q (by omega) i4 (a / b) hqv) ?_
        simp (maxSteps := 10000000) only [↓sx, sx, ↓reduceIte, Nat.reduceEqDiff, nP_c]
        rw [hrv]
end Go.Proofs.YtnlabeglboomlaaGreatDoor.S
namespace Go.Proofs.YtnlabeglboomlaaGreatDoor.S
open Go Go.Sx Go.RowKit Gb
variable {G : World → Prop} (hG : ∀ w w', G w → Below w.heap.size w w' → G w')
omit hG in
theorem len_Lw (a : Nat) : (wl a).length = Lw a := rfl
theorem Lw_two {a : Nat} (h : Lw a ≤ 2) : a < 1000000000000000000 := by
  have h1 := lt_Lw a
  have h2 : 1000000000 ^ Lw a ≤ 1000000000 ^ 2 := Nat.pow_le_pow_right (by omega) h
  omega
theorem Lw_zero_iff (a : Nat) : Lw a = 0 ↔ a = 0 := by
  constructor
  · intro h
    have := lt_Lw a
    rw [h] at this
    simpa using this
  · intro h; subst h; unfold Lw; rw [wl_zero]; rfl
include hG
set_option maxRecDepth 100000 in
set_option maxHeartbeats 20000000 in
theorem common_n (a b : Nat) (ha : Lw a < 1000000) (hb : Lw b < 1000000) : Meets Tryz.prog G 71 [nP a, nP b] (nP (Nat.gcd a b)) := by
  refine meets_of_vc (Y := {}) (N := 41) (rs := [.tmp 4]) mix tk hG Tryz.func71 rfl (by kernel_rfl) rfl rfl (by simp) (by kernel_rfl) ?_
  simp (maxSteps := 10000000) only [↓sx, sx, ↓ty]
  refine loopK_of (fun s : Nat × Nat => [(0, .p (nP s.1)), (1, .p (nP s.2))]) (fun _ => []) (fun _ => []) (fun s => Lw s.1 < 1000000 ∧ Lw s.2 < 1000000 ∧ Nat.gcd s.1 s.2 = Nat.gcd a b) (fun s => s.2) (a, b) ⟨ha, hb, rfl⟩ ?_ ?_
  · simp (maxSteps := 10000000) only [isE_nil, is_cons, bo_p, all_nil', ↓sx, sx, ↓reduceIte, Nat.reduceEqDiff]
  · rintro ⟨x, y⟩ ⟨h1, h2, h3⟩
    dsimp only at h1 h2 h3 ⊢
    simp (maxSteps := 10000000) only [↓sx, sx, ↓ty, ↓reduceIte, Nat.reduceEqDiff, Nat.reduceLT, nP_c, len_Lw]
    refine vcIf_dec (fun hy => ?_) (fun hy => ?_)
    · have hy0 : y ≠ 0 := by intro h; rw [(Lw_zero_iff y).2 h] at hy; simp at hy
      have hm : x % y < y := Nat.mod_lt _ (by omega)
      have hg : Nat.gcd y (x % y) = Nat.gcd a b := by rw [← h3, Nat.gcd_comm x y, Nat.gcd_rec y x, Nat.gcd_comm]
      have hLm : Lw (x % y) < 1000000 := by have := Lw_mono (Nat.le_of_lt hm); omega
      refine vcIf_dec (fun hx2 => ?_) (fun hx2 => ?_)
      · refine vcIf_dec (fun hy2 => ?_) (fun hy2 => ?_)
        · have bx := Lw_two (a := x) (by omega)
          have by_ := Lw_two (a := y) (by omega)
          refine CallT.mk (word_n hG x (by omega)) ?_
          simp (maxSteps := 10000000) only [↓sx, sx, ↓reduceIte, Nat.reduceEqDiff]
          refine CallT.mk (word_n hG y (by omega)) ?_
          simp (maxSteps := 10000000) only [↓sx, sx, ↓reduceIte, Nat.reduceEqDiff]
          refine loopK_of (fun s : Nat × Nat => [(5, .p (.val (.int .u64 (s.1 : Nat)))), (6, .p (.val (.int .u64 (s.2 : Nat))))]) (fun _ => []) (fun _ => []) (fun s => s.1 < 1000000000000000000 ∧ s.2 < 1000000000000000000 ∧ Nat.gcd s.1 s.2 = Nat.gcd a b) (fun s => s.2) (x, y) ⟨bx, by_, h3⟩ ?_ ?_
          · simp (maxSteps := 10000000) only [isE_nil, is_cons, bo_p, all_nil', ↓sx, sx, ↓reduceIte, Nat.reduceEqDiff]
          · rintro ⟨p, q⟩ ⟨k1, k2, k3⟩
            dsimp only at k1 k2 k3 ⊢
            simp (maxSteps := 10000000) only [↓sx, sx, ↓reduceIte, Nat.reduceEqDiff]
            refine vcIf_b (fun hq => ?_) (fun hq => ?_)
            · have hq : q ≠ 0 := by simpa using hq
              have hpq : p % q < q := Nat.mod_lt _ (by omega)
              have e1 : Int.tmod (p : Int) (q : Int) = ((p % q : Nat) : Int) := by rw [tmod_pos (by omega), Int.natCast_emod]
              refine ⟨by omega, NextK.mk (q, p % q) hpq ⟨k2, by dsimp only; omega, by dsimp only; rw [← k3, Nat.gcd_comm p q, Nat.gcd_rec q p, Nat.gcd_comm]⟩ ?_⟩
              simp (maxSteps := 10000000) only [isE_nil, is_cons, bo_p, all_nil', ↓sx, sx, ↓reduceIte, Nat.reduceEqDiff, e1]
            · have hq : q = 0 := by simpa using hq
              subst hq
              rw [Nat.gcd_zero_right] at k3
              refine CallT.mk (wide_n hG p k1) ?_
              simp (maxSteps := 10000000) only [↓sx, sx, ↓reduceIte, nP_c]
              rw [k3]; rfl
        · refine CallT.mk (over_n hG x y h1 h2 (by omega)) ?_
          simp (maxSteps := 10000000) only [↓sx, sx, ↓reduceIte, Nat.reduceEqDiff, nP_c, len_Lw]
          refine NextK.mk (y, x % y) hm ⟨h2, hLm, hg⟩ ?_
          simp (maxSteps := 10000000) only [isE_nil, is_cons, bo_p, all_nil', ↓sx, sx, ↓reduceIte, Nat.reduceEqDiff]
      · refine CallT.mk (over_n hG x y h1 h2 (by omega)) ?_
        simp (maxSteps := 10000000) only [↓sx, sx, ↓reduceIte, Nat.reduceEqDiff, nP_c, len_Lw]
        refine NextK.mk (y, x % y) hm ⟨h2, hLm, hg⟩ ?_
        simp (maxSteps := 10000000) only [isE_nil, is_cons, bo_p, all_nil', ↓sx, sx, ↓reduceIte, Nat.reduceEqDiff]
    · have hy0 : y = 0 := (Lw_zero_iff y).1 (by omega)
      subst hy0
      rw [Nat.gcd_zero_right] at h3
      rw [h3]
end Go.Proofs.YtnlabeglboomlaaGreatDoor.S
namespace Gb
open Go Go.RowKit
def isD (c : UInt8) : Bool := decide (48 ≤ c.toNat) && decide (c.toNat ≤ 57)
def natOf (l : List UInt8) : Nat := l.foldl (fun n c => 10 * n + (c.toNat - 48)) 0
def isNat (l : List UInt8) : Bool := !l.isEmpty && l.all isD && (l.length == 1 || l.head? != some 48)
theorem isD_iff {c : UInt8} : isD c = true ↔ 48 ≤ c.toNat ∧ c.toNat ≤ 57 := by simp [isD]
theorem foldl_from (l : List UInt8) (n : Nat) : l.foldl (fun n (c : UInt8) => 10 * n + (c.toNat - 48)) n = n * 10 ^ l.length + natOf l := by
  unfold natOf
  induction l generalizing n with
  | nil => simp
  | cons c l ih =>
    simp only [List.foldl_cons, List.length_cons]
    rw [ih, ih (10 * 0 + (c.toNat - 48)), Nat.pow_succ]
    simp only [Nat.mul_zero, Nat.zero_add]
    rw [Nat.add_mul, Nat.add_assoc]
    congr 1
    rw [Nat.mul_comm 10 n, Nat.mul_assoc, Nat.mul_comm 10]
theorem natOf_nil : natOf [] = 0 := rfl
theorem natOf_append (a b : List UInt8) : natOf (a ++ b) = natOf a * 10 ^ b.length + natOf b := by
  conv => lhs; unfold natOf
  rw [List.foldl_append, foldl_from]
  rfl
theorem natOf_snoc (a : List UInt8) (c : UInt8) : natOf (a ++ [c]) = 10 * natOf a + (c.toNat - 48) := by
  rw [natOf_append]; simp [natOf]; omega
theorem natOf_lt (l : List UInt8) (h : ∀ c ∈ l, isD c = true) : natOf l < 10 ^ l.length := by
  induction l with
  | nil => simp [natOf]
  | cons c l ih =>
    have h1 := isD_iff.1 (h c (List.mem_cons_self ..))
    have h2 := ih fun x hx => h x (List.mem_cons_of_mem _ hx)
    rw [show c :: l = [c] ++ l from rfl, natOf_append]
    simp only [List.length_append, List.length_cons, List.length_nil, Nat.pow_add, Nat.zero_add, Nat.pow_one]
    have : natOf [c] = c.toNat - 48 := by simp [natOf]
    rw [this]
    have h4 : (c.toNat - 48) * 10 ^ l.length ≤ 9 * 10 ^ l.length := Nat.mul_le_mul_right _ (by omega)
    omega
theorem dec_isD (n : Nat) : ∀ c ∈ Lib.decDigits n, isD c = true := by
  induction n using Nat.strongRecOn with
  | _ n ih =>
    rw [Lib.decDigits]
    split
    · rename_i h
      intro c hc
      obtain rfl := List.mem_singleton.1 hc
      rw [isD_iff]
      have : (UInt8.ofNat (48 + n)).toNat = 48 + n := by rw [UInt8.toNat_ofNat']; omega
      omega
    · intro c hc
      rcases List.mem_append.1 hc with hc | hc
      · exact ih (n / 10) (by omega) c hc
      · obtain rfl := List.mem_singleton.1 hc
        rw [isD_iff]
        have : (UInt8.ofNat (48 + n % 10)).toNat = 48 + n % 10 := by rw [UInt8.toNat_ofNat']; omega
        omega
theorem natOf_dec (n : Nat) : natOf (Lib.decDigits n) = n := by
  induction n using Nat.strongRecOn with
  | _ n ih =>
    rw [Lib.decDigits]
    split
    · rename_i h
      simp only [natOf, List.foldl_cons, List.foldl_nil, UInt8.toNat_ofNat']
      omega
    · rw [natOf_snoc, ih (n / 10) (by omega), UInt8.toNat_ofNat']
      omega
theorem dec_ne (n : Nat) : Lib.decDigits n ≠ [] := by
  have := Lib.decDigits_length n
  have h := Lib.nDigits_pos n
  intro h0
  rw [h0] at this
  simp at this
  omega
theorem dec_head (n : Nat) : (Lib.decDigits n).length = 1 ∨ (Lib.decDigits n).head? ≠ some 48 := by
  induction n using Nat.strongRecOn with
  | _ n ih =>
    rw [Lib.decDigits]
    split
    · left; rfl
    · rename_i h
      right
      rcases ih (n / 10) (by omega) with h1 | h1
      · obtain ⟨c, hc⟩ := List.length_eq_one_iff.1 h1
        rw [hc]
        simp
        rintro rfl
        have := natOf_dec (n / 10)
        rw [hc] at this
        simp [natOf] at this
        omega
      · cases he : Lib.decDigits (n / 10) with
        | nil => exact absurd he (dec_ne _)
        | cons x l => rw [he] at h1; simpa using h1
theorem isNat_dec (n : Nat) : isNat (Lib.decDigits n) = true := by
  unfold isNat
  have h1 := dec_ne n
  have h2 := dec_isD n
  have h3 := dec_head n
  simp only [Bool.and_eq_true, Bool.not_eq_true', List.isEmpty_eq_false_iff, List.all_eq_true, Bool.or_eq_true, beq_iff_eq, bne_iff_ne]
  exact ⟨⟨h1, h2⟩, h3⟩
theorem isNat_iff {l : List UInt8} : isNat l = true ↔ l ≠ [] ∧ (∀ c ∈ l, isD c = true) ∧ (l.length = 1 ∨ l.head? ≠ some 48) := by
  unfold isNat
  simp only [Bool.and_eq_true, Bool.not_eq_true', List.isEmpty_eq_false_iff, List.all_eq_true, Bool.or_eq_true, beq_iff_eq, bne_iff_ne]
  constructor
  · rintro ⟨⟨a, b⟩, c⟩; exact ⟨a, b, c⟩
  · rintro ⟨a, b, c⟩; exact ⟨⟨a, b⟩, c⟩
theorem natOf_ge {l : List UInt8} (h : isNat l = true) (h2 : 2 ≤ l.length) : 10 ^ (l.length - 1) ≤ natOf l := by
  obtain ⟨_, hd, hh⟩ := isNat_iff.1 h
  cases l with
  | nil => simp at h2
  | cons c l =>
    have h1 := isD_iff.1 (hd c (List.mem_cons_self ..))
    have h3 : c ≠ 48 := by
      rcases hh with hh | hh
      · rw [hh] at h2; omega
      · intro he; subst he; simp at hh
    have h4 : c.toNat ≠ 48 := by
      intro he
      apply h3
      apply UInt8.toNat_inj.1
      rw [he]; rfl
    rw [show c :: l = [c] ++ l from rfl, natOf_append]
    have : natOf [c] = c.toNat - 48 := by simp [natOf]
    rw [this]
    have h5 : 1 * 10 ^ l.length ≤ (c.toNat - 48) * 10 ^ l.length := Nat.mul_le_mul_right _ (by omega)
    simp only [List.length_append, List.length_cons, List.length_nil]
    rw [show 0 + 1 + l.length - 1 = l.length by omega]
    omega
theorem digits_inj : ∀ (l m : List UInt8), (∀ c ∈ l, isD c = true) → (∀ c ∈ m, isD c = true) → l.length = m.length → natOf l = natOf m → l = m
  | [], [], _, _, _, _ => rfl
  | [], _ :: _, _, _, h, _ => by simp at h
  | _ :: _, [], _, _, h, _ => by simp at h
  | c :: l, d :: m, hl, hm, h, hv => by
    have h1 := isD_iff.1 (hl c (List.mem_cons_self ..))
    have h2 := isD_iff.1 (hm d (List.mem_cons_self ..))
    have h3 := natOf_lt l fun x hx => hl x (List.mem_cons_of_mem _ hx)
    have h4 := natOf_lt m fun x hx => hm x (List.mem_cons_of_mem _ hx)
    have hlen : l.length = m.length := by simpa using h
    rw [show c :: l = [c] ++ l from rfl, show d :: m = [d] ++ m from rfl, natOf_append, natOf_append] at hv
    have e1 : natOf [c] = c.toNat - 48 := by simp [natOf]
    have e2 : natOf [d] = d.toNat - 48 := by simp [natOf]
    rw [e1, e2, hlen] at hv
    rw [hlen] at h3
    generalize 10 ^ m.length = P at *
    have hcd : c.toNat - 48 = d.toNat - 48 := by
      rcases Nat.lt_trichotomy (c.toNat - 48) (d.toNat - 48) with h | h | h
      · have : (c.toNat - 48 + 1) * P ≤ (d.toNat - 48) * P := Nat.mul_le_mul_right _ h
        rw [Nat.add_mul] at this; omega
      · exact h
      · have : (d.toNat - 48 + 1) * P ≤ (c.toNat - 48) * P := Nat.mul_le_mul_right _ h
        rw [Nat.add_mul] at this; omega
    rw [hcd] at hv
    obtain rfl : c = d := UInt8.toNat_inj.1 (by omega)
    rw [digits_inj l m (fun x hx => hl x (List.mem_cons_of_mem _ hx)) (fun x hx => hm x (List.mem_cons_of_mem _ hx)) hlen (by omega)]
theorem dec_natOf {l : List UInt8} (h : isNat l = true) : Lib.decDigits (natOf l) = l := by
  have hN := isNat_dec (natOf l)
  obtain ⟨hne, hd, hh⟩ := isNat_iff.1 h
  obtain ⟨hne2, hd2, hh2⟩ := isNat_iff.1 hN
  apply digits_inj _ _ hd2 hd _ (natOf_dec _)
  have h1 := natOf_lt l hd
  have h2 := natOf_lt _ hd2
  rw [natOf_dec] at h2
  have hp1 := List.length_pos_iff.2 hne
  have hp2 := List.length_pos_iff.2 hne2
  rcases Nat.lt_trichotomy (Lib.decDigits (natOf l)).length l.length with hlt | he | hlt
  · have := natOf_ge h (by omega)
    have := Nat.pow_le_pow_right (show 0 < 10 by omega) (show (Lib.decDigits (natOf l)).length ≤ l.length - 1 by omega)
    omega
  · exact he
  · have := natOf_ge hN (by omega)
    rw [natOf_dec] at this
    have := Nat.pow_le_pow_right (show 0 < 10 by omega) (show l.length ≤ (Lib.decDigits (natOf l)).length - 1 by omega)
    omega
theorem take_succ_getD (l : List UInt8) (i : Nat) (h : i < l.length) : l.take (i + 1) = l.take i ++ [l.getD i 0] := by
  rw [List.take_succ_eq_append_getElem h, List.getD_eq_getElem?_getD, List.getElem?_eq_getElem h]; rfl
theorem isD_getD {l : List UInt8} (h : ∀ c ∈ l, isD c = true) (i : Nat) (hi : i < l.length) : 48 ≤ (l.getD i 0).toNat ∧ (l.getD i 0).toNat ≤ 57 := by
  rw [List.getD_eq_getElem?_getD, List.getElem?_eq_getElem hi]
  exact isD_iff.1 (h _ (List.getElem_mem hi))
def strP (l : List UInt8) : Go.Sx.PV := .val (.string ⟨l.toArray⟩)
theorem strP_c (l : List UInt8) : strP l = .val (.string ⟨l.toArray⟩) := rfl
theorem getD_get (l : List UInt8) (i : Nat) : l[i]?.getD 0 = l.getD i 0 := by rw [List.getD_eq_getElem?_getD]
end Gb
namespace Go.Proofs.YtnlabeglboomlaaGreatDoor.S
open Go Go.Sx Go.RowKit Gb
variable {G : World → Prop} (hG : ∀ w w', G w → Below w.heap.size w w' → G w')
include hG
set_option maxRecDepth 100000 in
set_option maxHeartbeats 20000000 in
theorem valid1_n (l : List UInt8) (hl : l.length < 100000000) : Meets Tryz.prog G 65 [strP l] (.val (.bool (isNat l))) := by
  refine meets_of_vc (Y := {}) (N := 33) (rs := [.tmp 2]) mix tk hG Tryz.func65 rfl (by kernel_rfl) rfl rfl (by simp) (by kernel_rfl) ?_
  simp (maxSteps := 10000000) only [↓sx, sx, strP_c]
  refine loopK_of (fun i : Nat => [(0, .p (.val (.string ⟨l.toArray⟩))), (3, .p (.val (.int .i64 (i : Nat))))]) (fun _ => []) (fun _ => []) (fun i => i ≤ l.length ∧ ∀ c ∈ l.take i, isD c = true) (fun i => l.length - i) 0 ⟨Nat.zero_le _, by simp⟩ ?_ ?_
  · simp (maxSteps := 10000000) only [isE_nil, is_cons, bo_p, all_nil', ↓sx, sx, ↓reduceIte, Nat.reduceEqDiff]
    rfl
  · rintro i ⟨h1, h2⟩
    simp (maxSteps := 10000000) only [↓sx, sx, ↓ty, ↓reduceIte, Nat.reduceEqDiff, Nat.reduceLT, getD_get]
    refine vcIf_dec (fun hi => ?_) (fun hi => ?_)
    · have hmem : l.getD i 0 ∈ l := by
        rw [List.getD_eq_getElem?_getD, List.getElem?_eq_getElem (by omega)]; exact List.getElem_mem _
      refine ⟨by omega, vcIf_dec (fun hc => ?_) (fun hc => ?_)⟩
      · have : isNat l = false := by
          rw [Bool.eq_false_iff]; intro hN
          have := isD_iff.1 ((isNat_iff.1 hN).2.1 _ hmem)
          omega
        rw [this]
      · refine ⟨by omega, vcIf_dec (fun hc2 => ?_) (fun hc2 => ?_)⟩
        · have : isNat l = false := by
            rw [Bool.eq_false_iff]; intro hN
            have := isD_iff.1 ((isNat_iff.1 hN).2.1 _ hmem)
            omega
          rw [this]
        · refine NextK.mk (i + 1) (by omega) ⟨by omega, ?_⟩ ?_
          · intro c hc3
            rw [take_succ_getD _ _ (by omega)] at hc3
            rcases List.mem_append.1 hc3 with hc3 | hc3
            · exact h2 c hc3
            · obtain rfl := List.mem_singleton.1 hc3
              rw [isD_iff]; omega
          · simp (maxSteps := 10000000) only [isE_nil, is_cons, bo_p, all_nil', ↓sx, sx, ↓reduceIte, Nat.reduceEqDiff]
            rw [i64_id (by omega) (by omega)]
            rfl
    · obtain rfl : i = l.length := by omega
      rw [List.take_length] at h2
      refine vcIf_b (fun h3 => ?_) (fun h3 => ?_)
      · have h3 : l.length = 1 := by simp at h3; omega
        have : isNat l = true := isNat_iff.2 ⟨by intro h0; rw [h0] at h3; simp at h3, h2, .inl h3⟩
        rw [this]
      · have h3 : l.length ≠ 1 := by simp at h3; omega
        refine vcIf_dec (fun h4 => ?_) (fun h4 => ?_)
        · refine ⟨by omega, ?_⟩
          have : isNat l = (((l.getD 0 0).toNat : Int) != 48) := by
            cases he : l with
            | nil => rw [he] at h4; simp at h4
            | cons c l =>
              rw [he] at h2 h4 h3
              have hc := isD_iff.1 (h2 c (List.mem_cons_self ..))
              rw [Bool.eq_iff_iff, isNat_iff]
              simp only [List.getD_cons_zero, bne_iff_ne, List.head?_cons]
              constructor
              · rintro ⟨_, _, h5 | h5⟩
                · exact absurd h5 h3
                · intro h6
                  apply h5
                  congr 1
                  apply UInt8.toNat_inj.1
                  rw [show (48 : UInt8).toNat = 48 from rfl]; omega
              · intro h6
                refine ⟨by simp, h2, .inr ?_⟩
                intro h5
                apply h6
                injection h5 with h5
                rw [h5]; rfl
          rw [this]
        · have h0 : l = [] := List.length_eq_zero_iff.1 (by omega)
          subst h0
          rfl
set_option maxRecDepth 100000 in
set_option maxHeartbeats 20000000 in
theorem from1_n (l : List UInt8) (hl : l.length < 1000000) (hd : ∀ c ∈ l, isD c = true) : Meets Tryz.prog G 67 [strP l] (nP (natOf l)) := by
  refine meets_of_vc (Y := {}) (N := 35) (rs := [.tmp 2]) mix tk hG Tryz.func67 rfl (by kernel_rfl) rfl rfl (by simp) (by kernel_rfl) ?_
  simp (maxSteps := 10000000) only [↓sx, sx, ↓ty, ↓reduceIte, Nat.reduceEqDiff, strP_c]
  refine loopK_of (fun s : List Int × Int => [(0, .p (.val (.string ⟨l.toArray⟩))), (3, .orow 3), (4, .p (.val (.int .i64 s.2)))]) (fun _ => []) (fun s => [(3, ⟨95, 1, s.1.length, s.1.map wv, false⟩)]) (fun s => s.2 ≤ l.length ∧ -9 ≤ s.2 ∧ Dig s.1 ∧ 9 * (s.1.length : Int) + s.2 ≤ l.length + 9 ∧ val s.1 + 1000000000 ^ s.1.length * (natOf (l.take s.2.toNat) : Nat) = (natOf l : Nat)) (fun s => s.2.toNat) ([], (l.length : Int)) ?_ ?_ ?_
  · exact ⟨Int.le_refl _, by dsimp only; omega, Dig.nil, by simp; omega, by simp [val_nil]⟩
  · simp (maxSteps := 10000000) only [isE_nil, is_cons, bo_p, bo_orow, any_cons', all_cons', all_nil', Bool.true_or, ↓sx, sx, ↓reduceIte, Nat.reduceEqDiff]
  · rintro ⟨out, x⟩ ⟨h1, h2, h3, h4, h5⟩
    dsimp only at h1 h2 h3 h4 h5 ⊢
    simp (maxSteps := 10000000) only [↓sx, sx, ↓reduceIte, Nat.reduceEqDiff]
    refine vcIf_dec (fun hx => ?_) (fun hx => ?_)
    · obtain ⟨e, rfl⟩ : ∃ e : Nat, x = e := ⟨x.toNat, by omega⟩
      rw [Int.toNat_natCast] at h5
      have hm : (if IntKind.i64.wrap ((e : Int) - 9) > 0 then IntKind.i64.wrap ((e : Int) - 9) else 0) = ((e - 9 : Nat) : Int) := by rw [i64_id (by omega) (by omega)]; split <;> omega
      refine loopK_of (fun i : Nat => [(0, .p (.val (.string ⟨l.toArray⟩))), (3, .orow 3), (4, .p (.val (.int .i64 (e : Nat)))), (5, .p (.val (.int .u32 (natOf ((l.take i).drop (e - 9)) : Nat)))), (6, .p (.val (.int .i64 (i : Nat))))]) (fun _ => []) (fun _ => [(3, ⟨95, 1, out.length, out.map wv, false⟩)]) (fun i => e - 9 ≤ i ∧ i ≤ e) (fun i => e - i) (e - 9) ⟨Nat.le_refl _, by omega⟩ ?_ ?_
      · simp (maxSteps := 10000000) only [isE_nil, is_cons, bo_p, bo_orow, any_cons', all_cons', all_nil', Bool.true_or, ↓sx, sx, ↓reduceIte, Nat.reduceEqDiff, hm]
        rw [List.drop_eq_nil_of_le (by simp; omega), natOf_nil]
        simp
      · rintro i ⟨g1, g2⟩
        simp (maxSteps := 10000000) only [↓sx, sx, ↓ty, ↓reduceIte, Nat.reduceEqDiff, Nat.reduceAdd, Nat.reduceLeDiff, Nat.reduceLT, ne_eq, not_false_eq_true, getD_get]
        have hw : natOf ((l.take e).drop (e - 9)) < 1000000000 := by
          have h1 := natOf_lt ((l.take e).drop (e - 9)) fun c hc => hd c (List.mem_of_mem_take (List.mem_of_mem_drop hc))
          have h2 : ((l.take e).drop (e - 9)).length ≤ 9 := by simp; omega
          have := Nat.pow_le_pow_right (show 0 < 10 by omega) h2
          omega
        refine vcIf_dec (fun hi => ?_) (fun hi => ?_)
        · have hc := isD_getD hd i (by omega)
          have e1 : (l.take (i + 1)).drop (e - 9) = (l.take i).drop (e - 9) ++ [l.getD i 0] := by
            rw [take_succ_getD _ _ (by omega), List.drop_append_of_le_length (by simp; omega)]
          have e2 : natOf ((l.take (i + 1)).drop (e - 9)) = 10 * natOf ((l.take i).drop (e - 9)) + ((l.getD i 0).toNat - 48) := by
            rw [e1, natOf_snoc]
          have e3 : natOf ((l.take i).drop (e - 9)) < 10 ^ 8 := by
            have h1 := natOf_lt ((l.take i).drop (e - 9)) fun c hc => hd c (List.mem_of_mem_take (List.mem_of_mem_drop hc))
            have h2 : ((l.take i).drop (e - 9)).length ≤ 8 := by simp; omega
            have := Nat.pow_le_pow_right (show 0 < 10 by omega) h2
            omega
          refine ⟨by omega, NextK.mk (i + 1) (by omega) ⟨by omega, by omega⟩ ?_⟩
          simp (maxSteps := 10000000) only [isE_nil, is_cons, bo_p, bo_orow, any_cons', all_cons', all_nil', Bool.true_or, ↓sx, sx, ↓reduceIte, Nat.reduceEqDiff, e2]
          rw [i64_id (by omega) (by omega), u32_id (x := 10 * ((natOf ((l.take i).drop (e - 9)) : Nat) : Int)) (by omega) (by omega), u8_id (by omega) (by omega), u32_id (x := ((l.getD i 0).toNat : Int) - 48) (by omega) (by omega), u32_id (by omega) (by omega)]
          refine ⟨?_, rfl⟩
          congr 3
          omega
        · obtain rfl : i = e := by omega
          have hsplit : natOf (l.take i) = natOf (l.take (i - 9)) * 1000000000 + natOf ((l.take i).drop (i - 9)) := by
            have e1 : l.take i = l.take (i - 9) ++ (l.take i).drop (i - 9) := by
              conv => lhs; rw [← List.take_append_drop (i - 9) (l.take i), List.take_take, Nat.min_eq_left (by omega)]
            conv => lhs; rw [e1]
            rw [natOf_append]
            by_cases h : i < 9
            · rw [show i - 9 = 0 by omega]; simp [natOf_nil]
            · have : ((l.take i).drop (i - 9)).length = 9 := by simp; omega
              rw [this]
          refine ⟨⟨by simp only [maxLen]; omega, by omega⟩, NextK.mk (out ++ [((natOf ((l.take i).drop (i - 9)) : Nat) : Int)], (i : Int) - 9) (by dsimp only; omega) ⟨by dsimp only; omega, by dsimp only; omega, h3.snoc (by omega) (by omega), by simp; omega, ?_⟩ ?_⟩
          · dsimp only
            rw [val_snoc, ← h5, hsplit, List.length_append, List.length_cons, List.length_nil, Int.pow_succ, show ((i : Int) - 9).toNat = i - 9 by omega]
            generalize natOf (List.take (i - 9) l) = p
            generalize natOf (List.drop (i - 9) (List.take i l)) = q
            rw [Int.natCast_add, Int.natCast_mul]
            grind
          · simp (maxSteps := 10000000) only [isE_nil, is_cons, bo_p, bo_orow, any_cons', all_cons', all_nil', Bool.true_or, ↓sx, sx, ↓reduceIte, Nat.reduceEqDiff]
            rw [i64_id (by omega) (by omega)]
            simp [wv_c]
    · rw [show x.toNat = 0 by omega, List.take_zero, natOf_nil] at h5
      refine CallT.mk (trim_n hG out (by omega) h3 (natOf l) (by rw [← h5]; simp)) ?_
      simp (maxSteps := 10000000) only [↓sx, sx, ↓reduceIte]
end Go.Proofs.YtnlabeglboomlaaGreatDoor.S
namespace Gb
open Go Go.RowKit Go.Sx
def lsd : Nat → Nat → List UInt8
  | 0, _ => []
  | m + 1, n => UInt8.ofNat (48 + n % 10) :: lsd m (n / 10)
theorem lsd_len : ∀ (m n : Nat), (lsd m n).length = m
  | 0, _ => rfl
  | m + 1, n => by simp [lsd, lsd_len m]
theorem lsd_snoc : ∀ (m n : Nat), lsd (m + 1) n = lsd m n ++ [UInt8.ofNat (48 + n / 10 ^ m % 10)]
  | 0, n => by simp [lsd]
  | m + 1, n => by
    rw [lsd, lsd_snoc m (n / 10), lsd, List.cons_append, Nat.div_div_eq_div_mul, Nat.pow_succ', ]
theorem lsd_rev : ∀ (m n : Nat), 0 < m → n < 10 ^ m → (m = 1 ∨ 10 ^ (m - 1) ≤ n) → (lsd m n).reverse = Lib.decDigits n
  | 0, n, h, _, _ => by omega
  | m + 1, n, _, h1, h2 => by
    rw [lsd, List.reverse_cons, Lib.decDigits]
    cases m with
    | zero =>
      rw [dif_pos (by omega)]
      simp only [lsd, List.reverse_nil, List.nil_append]
      rw [Nat.mod_eq_of_lt (by omega)]
    | succ m =>
      have h3 : 10 ^ (m + 1) ≤ n := by rcases h2 with h2 | h2; omega; exact h2
      have h4 : 10 ≤ n := by
        have : 0 < 10 ^ m := Nat.pow_pos (by omega)
        rw [Nat.pow_succ] at h3; omega
      rw [dif_neg (by omega)]
      rw [lsd_rev (m + 1) (n / 10) (by omega) (by rw [Nat.pow_succ] at h1; omega) ?_]
      by_cases hm : m = 0
      · left; omega
      · right
        rw [show m + 1 - 1 = m by omega]
        rw [Nat.pow_succ] at h3
        omega
def rvl (i : Nat) (l : List UInt8) : List UInt8 := (List.range l.length).map fun j => if j < i ∨ l.length - i ≤ j then l.getD (l.length - 1 - j) 0 else l.getD j 0
theorem rvl_len (i : Nat) (l : List UInt8) : (rvl i l).length = l.length := by simp [rvl]
theorem rvl_get (i : Nat) (l : List UInt8) (j : Nat) (hj : j < l.length) : (rvl i l)[j]? = some (if j < i ∨ l.length - i ≤ j then l.getD (l.length - 1 - j) 0 else l.getD j 0) := by
  simp [rvl, hj]
theorem rvl_getD (i : Nat) (l : List UInt8) (j : Nat) (hj : j < l.length) : (rvl i l).getD j 0 = if j < i ∨ l.length - i ≤ j then l.getD (l.length - 1 - j) 0 else l.getD j 0 := by
  rw [List.getD_eq_getElem?_getD, rvl_get i l j hj]; rfl
theorem rvl_zero (l : List UInt8) : rvl 0 l = l := by
  apply List.ext_getElem?
  intro j
  by_cases hj : j < l.length
  · rw [rvl_get 0 l j hj, if_neg (by omega), List.getD_eq_getElem?_getD, List.getElem?_eq_getElem hj]; rfl
  · rw [List.getElem?_eq_none (by rw [rvl_len]; omega), List.getElem?_eq_none (by omega)]
theorem rvl_end (i : Nat) (l : List UInt8) (h : l.length ≤ 2 * i + 1) : rvl i l = l.reverse := by
  apply List.ext_getElem?
  intro j
  by_cases hj : j < l.length
  · rw [rvl_get i l j hj, List.getElem?_reverse hj, List.getElem?_eq_getElem (show l.length - 1 - j < l.length by omega)]
    split
    · rw [List.getD_eq_getElem?_getD, List.getElem?_eq_getElem (show l.length - 1 - j < l.length by omega)]; rfl
    · have : l.length - 1 - j = j := by omega
      rw [List.getD_eq_getElem?_getD, List.getElem?_eq_getElem hj]
      simp only [this]; rfl
  · rw [List.getElem?_eq_none (by rw [rvl_len]; omega), List.getElem?_eq_none (by simp; omega)]
theorem rvl_step (i : Nat) (l : List UInt8) (h : 2 * i + 1 < l.length) : ((rvl i l).set i ((rvl i l).getD (l.length - 1 - i) 0)).set (l.length - 1 - i) ((rvl i l).getD i 0) = rvl (i + 1) l := by
  apply List.ext_getElem?
  intro j
  rw [rvl_getD i l _ (by omega), rvl_getD i l _ (by omega), if_neg (by omega), if_neg (by omega)]
  by_cases hj : j < l.length
  · rw [rvl_get (i + 1) l j hj]
    by_cases h1 : j = l.length - 1 - i
    · subst h1
      rw [List.getElem?_set_self (by simp [rvl_len]; omega), if_pos (by omega)]
      congr 2; omega
    · rw [List.getElem?_set_ne (by omega)]
      by_cases h2 : j = i
      · subst h2
        rw [List.getElem?_set_self (by simp [rvl_len]; omega), if_pos (by omega)]
      · rw [List.getElem?_set_ne (by omega), rvl_get i l j hj]
        congr 1
        by_cases h3 : j < i ∨ l.length - i ≤ j
        · rw [if_pos h3, if_pos (by omega)]
        · rw [if_neg h3, if_neg (by omega)]
  · rw [List.getElem?_eq_none (by simp [rvl_len]; omega), List.getElem?_eq_none (by rw [rvl_len]; omega)]
def bv (l : List UInt8) : List PV := l.map fun c => .val (.int .u8 (c.toNat : Int))
theorem bv_len (l : List UInt8) : (bv l).length = l.length := by simp [bv]
theorem bv_nil : bv [] = [] := rfl
theorem bv_app (l m : List UInt8) : bv l ++ bv m = bv (l ++ m) := by simp [bv]
theorem bv_one (c : UInt8) : [PV.val (.int .u8 (c.toNat : Int))] = bv [c] := rfl
theorem bv_bytes : ∀ l : List UInt8, bytesP (bv l) = some l
  | [] => rfl
  | c :: l => by
    have := bv_bytes l
    simp only [bv, List.map_cons] at this ⊢
    simp only [bytesP, this]
    simp
theorem bv_set (l : List UInt8) (i : Nat) (c : UInt8) (h : i < l.length) : (bv l).take i ++ [PV.val (.int .u8 (c.toNat : Int))] ++ (bv l).drop (i + 1) = bv (l.set i c) := by
  unfold bv
  rw [List.map_set, List.set_eq_take_append_cons_drop, if_pos (by simpa using h)]
  simp
theorem bv_get (l : List UInt8) (i : Nat) (h : i < l.length) : (bv l)[i]? = some (.val (.int .u8 ((l.getD i 0).toNat : Int))) := by
  rw [bv, List.getElem?_map, List.getElem?_eq_getElem h, List.getD_eq_getElem?_getD, List.getElem?_eq_getElem h]; rfl
theorem dig_byte (n : Nat) : ((UInt8.ofNat (48 + n % 10)).toNat : Int) = 48 + (n : Int) % 10 := by
  rw [UInt8.toNat_ofNat']; omega
theorem wl_getD : ∀ (i n : Nat), (wl n).getD i 0 = ((n / 1000000000 ^ i % 1000000000 : Nat) : Int)
  | 0, n => by
    by_cases h : n = 0
    · subst h; rw [wl_zero]; rfl
    · rw [wl_pos h]; simp
  | i + 1, n => by
    by_cases h : n = 0
    · subst h; rw [wl_zero]; simp
    · rw [wl_pos h, List.getD_cons_succ, wl_getD i (n / 1000000000), Nat.div_div_eq_div_mul, Nat.pow_succ']
theorem ten_pow (i : Nat) : 1000000000 ^ i = 10 ^ (9 * i) := by rw [Nat.pow_mul]
theorem Lw_low {n : Nat} (h : n ≠ 0) : 10 ^ (9 * (Lw n - 1)) ≤ n := by
  rw [← ten_pow]
  have hne : wl n ≠ [] := by intro h0; have := wl_val n; rw [h0] at this; simp [val] at this; omega
  have := (wl_norm n).lo hne
  rw [wl_val] at this
  rw [← cast_pow] at this
  exact Int.ofNat_le.1 this
theorem Lw_high (n : Nat) : n < 10 ^ (9 * Lw n) := by rw [← ten_pow]; exact lt_Lw n
def wAt (n i k : Nat) : Nat := n / 10 ^ (9 * i + k) % 10 ^ (9 - k)
theorem wAt_zero (n i : Nat) : wAt n i 0 = n / 1000000000 ^ i % 1000000000 := by rw [ten_pow]; rfl
theorem wAt_lt (n i k : Nat) : wAt n i k < 10 ^ 9 := by
  have h1 : wAt n i k < 10 ^ (9 - k) := Nat.mod_lt _ (Nat.pow_pos (by omega))
  have h2 : 10 ^ (9 - k) ≤ 10 ^ 9 := Nat.pow_le_pow_right (by omega) (by omega)
  omega
theorem wAt_mod (n i k : Nat) (h : k < 9) : wAt n i k % 10 = n / 10 ^ (9 * i + k) % 10 := by
  unfold wAt
  exact Nat.mod_mod_of_dvd _ (Nat.dvd_trans (by exact ⟨1, rfl⟩ : 10 ∣ 10 ^ 1) (Nat.pow_dvd_pow 10 (by omega)))
theorem wAt_div (n i k : Nat) (h : k < 9) : wAt n i k / 10 = wAt n i (k + 1) := by
  unfold wAt
  rw [show 9 - k = (9 - (k + 1)) + 1 by omega, Nat.pow_succ', Nat.mod_mul_right_div_self, Nat.div_div_eq_div_mul, ← Nat.pow_succ]
  rfl
theorem wAt_pos {n i k : Nat} (h : 0 < wAt n i k) : 10 ^ (9 * i + k) ≤ n := by
  unfold wAt at h
  by_cases h1 : 10 ^ (9 * i + k) ≤ n
  · exact h1
  · rw [Nat.div_eq_of_lt (by omega)] at h; simp at h
theorem wAt_end {n i k : Nat} (hk : k ≤ 9) (hi : Lw n ≤ i + 1) (h : wAt n i k = 0) : n < 10 ^ (9 * i + k) := by
  unfold wAt at h
  have h1 : n < 10 ^ (9 * i + 9) := Nat.lt_of_lt_of_le (Lw_high n) (Nat.pow_le_pow_right (by omega) (by omega))
  have h2 : n / 10 ^ (9 * i + k) < 10 ^ (9 - k) := by
    apply Nat.div_lt_of_lt_mul
    rw [← Nat.pow_add]
    rwa [show 9 * i + k + (9 - k) = 9 * i + 9 by omega]
  rw [Nat.mod_eq_of_lt h2] at h
  rcases Nat.div_eq_zero_iff.1 h with h3 | h3
  · have := Nat.pow_pos (n := 9 * i + k) (show 0 < 10 by omega); omega
  · exact h3
end Gb
namespace Go.Proofs.YtnlabeglboomlaaGreatDoor.S
open Go Go.Sx Go.RowKit Gb
variable {G : World → Prop} (hG : ∀ w w', G w → Below w.heap.size w w' → G w')
include hG
def toInv (n : Nat) (s : Nat × Nat) : Prop := s.2 ≤ Lw n ∧ s.1 ≤ 9 * s.2 ∧ (s.2 < Lw n → s.1 = 9 * s.2) ∧ (s.2 = Lw n → 0 < s.1 ∧ n < 10 ^ s.1 ∧ 10 ^ (s.1 - 1) ≤ n)
def toInv2 (n i : Nat) (k : Nat) : Prop := k ≤ 9 ∧ (0 < k → i + 1 < Lw n ∨ 10 ^ (9 * i + k - 1) ≤ n)
set_option maxRecDepth 100000 in
set_option maxHeartbeats 20000000 in
theorem to1_n (n : Nat) (hn : Lw n < 1000000) : Meets Tryz.prog G 88 [nP n] (strP (Lib.decDigits n)) := by
  refine meets_of_vc (Y := { tl := [(16, [2, 3])] }) (N := 72) (rs := [.tmp 2]) mix tk hG Tryz.func88 rfl (by kernel_rfl) rfl rfl (by simp) (by kernel_rfl) ?_
  have hLn : (wl n).length = Lw n := rfl
  have hgd : ∀ i, (wl n).getD i 0 = ((wAt n i 0 : Nat) : Int) := fun i => by rw [wl_getD, wAt_zero]
  rw [show nP n = .sl (wl n).length ((wl n).map wv) from rfl]
  generalize wl n = A at *
  simp (maxSteps := 10000000) only [↓sx, sx, ↓ty, ↓reduceIte, Nat.reduceEqDiff, strP_c]
  refine vcIf_b (fun h0 => ?_) (fun h0 => ?_)
  · have : n = 0 := (Lw_zero_iff n).1 (by have : A.length = 0 := (by simpa using h0); omega)
    subst this
    rw [Lib.decDigits]; rfl
  · have hpos : 0 < Lw n := by
      have : A.length ≠ 0 := by intro h; rw [h] at h0; simp at h0
      omega
    have hn0 : n ≠ 0 := by intro h; rw [(Lw_zero_iff n).2 h] at hpos; omega
    refine loopK_of (fun s : Nat × Nat => [(0, .p (.sl A.length (A.map wv))), (3, .orow 3), (4, .p (.val (.int .i64 (s.2 : Nat))))]) (fun _ => []) (fun s => [(3, ⟨5, 1, s.1, bv (lsd s.1 n), false⟩)]) (toInv n) (fun s => Lw n - s.2) (0, 0) ⟨Nat.zero_le _, Nat.le_refl _, fun _ => rfl, fun h => by dsimp only at h; omega⟩ ?_ ?_
    · simp (maxSteps := 10000000) only [isE_nil, is_cons, bo_p, bo_orow, any_cons', all_cons', all_nil', Bool.true_or, ↓sx, sx, ↓reduceIte, Nat.reduceEqDiff, lsd, bv_nil]
      rfl
    · rintro ⟨m, i⟩ ⟨h1, h2, h3, h4⟩
      dsimp only at h1 h2 h3 h4 ⊢
      simp (maxSteps := 10000000) only [↓sx, sx, ↓ty, ↓reduceIte, Nat.reduceEqDiff, wv_c]
      refine vcIf_dec (fun hi => ?_) (fun hi => ?_)
      · rw [hLn] at hi
        obtain rfl := h3 (by omega)
        have hw0 := wAt_lt n i 0
        refine ⟨by omega, by omega, ?_⟩
        refine loopK_of (fun k : Nat => [(0, .p (.sl A.length (A.map wv))), (3, .orow 3), (4, .p (.val (.int .i64 (i : Nat)))), (5, .p (.val (.int .u32 (wAt n i k : Nat)))), (6, .p (.val (.int .i64 (k : Nat))))]) (fun _ => []) (fun k => [(3, ⟨5, 1, 9 * i + k, bv (lsd (9 * i + k) n), false⟩)]) (toInv2 n i) (fun k => 9 - k) 0 ⟨Nat.zero_le _, fun h => by omega⟩ ?_ ?_
        · simp (maxSteps := 10000000) only [isE_nil, is_cons, bo_p, bo_orow, any_cons', all_cons', all_nil', Bool.true_or, ↓sx, sx, ↓reduceIte, Nat.reduceEqDiff, hgd]
          exact ⟨rfl, rfl⟩
        · rintro k ⟨g1, g2⟩
          simp (maxSteps := 10000000) only [↓sx, sx, ↓ty, ↓reduceIte, Nat.reduceEqDiff, Nat.reduceAdd, Nat.reduceLeDiff, Nat.reduceLT, Int.reduceEq, ne_eq, not_false_eq_true]
          have hwk := wAt_lt n i k
          have go : ∀ {e : Env} {h : Hp} {ρ : Rws} {t : Tag (toInv2 n i, (fun k => 9 - k), e, h, ρ)}, k < 9 → (i + 1 < Lw n ∨ 0 < wAt n i k) →
              e 0 = .p (.sl A.length (A.map wv)) → e 3 = .orow 3 → e 4 = .p (.val (.int .i64 (i : Nat))) → e 5 = .p (.val (.int .u32 (IntKind.u32.wrap (((wAt n i k : Nat) : Int).tdiv 10)))) → e 6 = .p (.val (.int .i64 (IntKind.i64.wrap ((k : Int) + 1)))) →
              ρ 3 = some ⟨5, 1, 9 * i + k + 1, bv (lsd (9 * i + k) n) ++ [.val (.int .u8 (IntKind.u8.wrap (IntKind.u32.wrap (48 + ((wAt n i k : Nat) : Int).tmod 10))))], false⟩ →
              (9 * i + k + 1 ≤ maxLen ∧ 9 * i + k ≤ 140737488355327) ∧ NextK (fun k : Nat => [(0, .p (.sl A.length (A.map wv))), (3, .orow 3), (4, .p (.val (.int .i64 (i : Nat)))), (5, .p (.val (.int .u32 (wAt n i k : Nat)))), (6, .p (.val (.int .i64 (k : Nat))))]) (fun _ => []) (fun k => [(3, ⟨5, 1, 9 * i + k, bv (lsd (9 * i + k) n), false⟩)]) (toInv2 n i) (fun k => 9 - k) k e h ρ t := by
            intro e h ρ t hk hc e0 e3 e4 e5 e6 r3
            have c5 : IntKind.u32.wrap (((wAt n i k : Nat) : Int).tdiv 10) = ((wAt n i (k + 1) : Nat) : Int) := by
              rw [tdiv_pos (by omega), u32_id (by omega) (by omega), ← wAt_div n i k hk, Int.natCast_ediv]; rfl
            have c6 : IntKind.i64.wrap ((k : Int) + 1) = ((k + 1 : Nat) : Int) := by rw [i64_id (by omega) (by omega)]; rfl
            have c3 : IntKind.u8.wrap (IntKind.u32.wrap (48 + ((wAt n i k : Nat) : Int).tmod 10)) = ((UInt8.ofNat (48 + n / 10 ^ (9 * i + k) % 10)).toNat : Int) := by
              rw [tmod_pos (by omega), u32_id (by omega) (by omega), u8_id (by omega) (by omega), dig_byte]
              have := wAt_mod n i k hk
              omega
            rw [c5] at e5
            rw [c6] at e6
            rw [c3, bv_one, bv_app, ← lsd_snoc] at r3
            refine ⟨⟨by simp only [maxLen]; omega, by omega⟩, NextK.mk (k + 1) (by omega) ⟨by omega, fun _ => ?_⟩ ?_⟩
            · rcases hc with hc | hc
              · exact .inl hc
              · exact .inr (by rw [show 9 * i + (k + 1) - 1 = 9 * i + k by omega]; exact wAt_pos hc)
            · simp (maxSteps := 10000000) only [isE_nil, is_cons, bo_p, bo_orow, any_cons', all_cons', all_nil', Bool.true_or, ↓sx, sx, e0, e3, e4, e5, e6, r3]
              rfl
          have stop : ∀ {e : Env} {h : Hp} {ρ : Rws} {t : Tag (toInv n, (fun s : Nat × Nat => Lw n - s.2), e, h, ρ)}, ¬ (k < 9 ∧ (i + 1 < Lw n ∨ 0 < wAt n i k)) →
              e 0 = .p (.sl A.length (A.map wv)) → e 3 = .orow 3 → e 4 = .p (.val (.int .i64 (IntKind.i64.wrap ((i : Int) + 1)))) → ρ 3 = some ⟨5, 1, 9 * i + k, bv (lsd (9 * i + k) n), false⟩ →
              NextK (fun s : Nat × Nat => [(0, .p (.sl A.length (A.map wv))), (3, .orow 3), (4, .p (.val (.int .i64 (s.2 : Nat))))]) (fun _ => []) (fun s => [(3, ⟨5, 1, s.1, bv (lsd s.1 n), false⟩)]) (toInv n) (fun s => Lw n - s.2) (9 * i, i) e h ρ t := by
            intro e h ρ t hc e0 e3 e4 r3
            have c4 : IntKind.i64.wrap ((i : Int) + 1) = ((i + 1 : Nat) : Int) := by rw [i64_id (by omega) (by omega)]; rfl
            rw [c4] at e4
            refine NextK.mk (9 * i + k, i + 1) (by dsimp only; omega) ⟨by dsimp only; omega, by dsimp only; omega, fun h => by dsimp only at h ⊢; omega, fun h => ?_⟩ ?_
            · dsimp only at h ⊢
              have hz : wAt n i k = 0 := by
                by_cases hk : k = 9
                · subst hk
                  unfold wAt
                  simp [Nat.mod_one]
                · omega
              have hend := wAt_end g1 (by omega) hz
              have hk0 : 0 < k := by
                by_cases hk : k = 0
                · subst hk
                  have := Lw_low hn0
                  rw [show 9 * (Lw n - 1) = 9 * i + 0 by omega] at this
                  omega
                · omega
              refine ⟨by omega, hend, ?_⟩
              rcases g2 hk0 with h | h
              · omega
              · exact h
            · simp (maxSteps := 10000000) only [isE_nil, is_cons, bo_p, bo_orow, any_cons', all_cons', all_nil', Bool.true_or, ↓sx, sx, e0, e3, e4, r3]
          refine vcIf_dec (fun hk => ?_) (fun hk => ?_)
          · refine vcIf_dec (fun hi2 => ?_) (fun hi2 => ?_)
            · rw [i64_id (by omega) (by omega), hLn] at hi2
              refine go (by omega) (by omega) ?_ ?_ ?_ ?_ ?_ ?_
              all_goals (simp (maxSteps := 10000000) only [↓sx, sx, ↓reduceIte, Nat.reduceEqDiff]; done)
            · rw [i64_id (by omega) (by omega), hLn] at hi2
              refine vcIf_dec (fun hw => ?_) (fun hw => ?_)
              · refine go (by omega) (by omega) ?_ ?_ ?_ ?_ ?_ ?_
                all_goals (simp (maxSteps := 10000000) only [↓sx, sx, ↓reduceIte, Nat.reduceEqDiff]; done)
              · refine stop (by omega) ?_ ?_ ?_ ?_
                all_goals (simp (maxSteps := 10000000) only [↓sx, sx, ↓reduceIte, Nat.reduceEqDiff]; done)
          · refine stop (by omega) ?_ ?_ ?_ ?_
            all_goals (simp (maxSteps := 10000000) only [↓sx, sx, ↓reduceIte, Nat.reduceEqDiff]; done)
      · obtain rfl : i = Lw n := by omega
        obtain ⟨h5, h6, h7⟩ := h4 rfl
        have hrev := lsd_rev m n h5 h6 (.inr h7)
        have hll := lsd_len m n
        generalize lsd m n = l at *
        rw [i64_id (x := (m : Int) - 1) (by omega) (by omega)]
        refine loopK_of (fun i : Nat => [(3, .orow 3), (7, .p (.val (.int .i64 (i : Nat)))), (8, .p (.val (.int .i64 ((m : Int) - 1 - i))))]) (fun _ => []) (fun i => [(3, ⟨5, 1, m, bv (rvl i l), false⟩)]) (fun i => 2 * i ≤ m) (fun i => m - i) 0 (Nat.zero_le _) ?_ ?_
        · simp (maxSteps := 10000000) only [isE_nil, is_cons, bo_p, bo_orow, any_cons', all_cons', all_nil', Bool.true_or, ↓sx, sx, ↓reduceIte, Nat.reduceEqDiff, rvl_zero]
          simp
        · intro i hi2
          simp (maxSteps := 10000000) only [↓sx, sx, ↓ty, ↓reduceIte, Nat.reduceEqDiff, Nat.reduceBeqDiff, Nat.reduceAdd]
          refine vcIf_dec (fun hc => ?_) (fun hc => ?_)
          · refine ⟨by kernel_rfl, ?_⟩
            have ek : ((m : Int) - 1 - (i : Int)) = ((m - 1 - i : Nat) : Int) := by omega
            rw [ek, Int.toNat_natCast]
            have g1 := bv_get (rvl i l) (m - 1 - i) (by rw [rvl_len]; omega)
            have g2 := bv_get (rvl i l) i (by rw [rvl_len]; omega)
            have hst := rvl_step i l (by omega)
            rw [hll] at hst
            simp (maxSteps := 10000000) only [↓sx, sx, ↓ty, ↓reduceIte, Nat.reduceEqDiff, Nat.reduceAdd, g1, g2]
            have hs1 := bv_set (rvl i l) i ((rvl i l).getD (m - 1 - i) 0) (by rw [rvl_len]; omega)
            have hs2 := bv_set ((rvl i l).set i ((rvl i l).getD (m - 1 - i) 0)) (m - 1 - i) ((rvl i l).getD i 0) (by rw [List.length_set, rvl_len]; omega)
            rw [hs1, hs2, hst, i64_id (x := (i : Int) + 1) (by omega) (by omega), i64_id (x := ((m - 1 - i : Nat) : Int) - 1) (by omega) (by omega)]
            refine ⟨by omega, by omega, by omega, by rw [bv_len, rvl_len]; omega, by omega, by rw [bv_len, List.length_set, rvl_len]; omega, NextK.mk (i + 1) (by omega) (by omega) ?_⟩
            simp (maxSteps := 10000000) only [isE_nil, is_cons, bo_p, bo_orow, any_cons', all_cons', all_nil', Bool.true_or, ↓sx, sx, ↓reduceIte, Nat.reduceEqDiff]
            have : ((m : Int) - 1 - ((i + 1 : Nat) : Int)) = ((m - 1 - i : Nat) : Int) - 1 := by omega
            rw [this]
            exact ⟨rfl, rfl⟩
          · simp (maxSteps := 10000000) only [↓sx, sx, bv_bytes, bv_len, rvl_len]
            refine ⟨hll, ?_⟩
            rw [rvl_end i l (by omega), hrev]
end Go.Proofs.YtnlabeglboomlaaGreatDoor.S
namespace Gb
open Go Go.RowKit Go.Sx
def zmk (b : Bool) (n : Nat) : Int := if b then -(n : Int) else n
theorem zmk_abs (b : Bool) (n : Nat) : (zmk b n).natAbs = n := by unfold zmk; split <;> simp
def zP (z : Int) : PV := .agg [.val (.bool (decide (z < 0))), nP z.natAbs]
theorem zP_c (z : Int) : zP z = .agg [.val (.bool (decide (z < 0))), .sl (wl z.natAbs).length ((wl z.natAbs).map wv)] := rfl
theorem zP_mk (b : Bool) (n : Nat) : zP (zmk b n) = .agg [.val (.bool (b && decide (0 < (wl n).length))), .sl (wl n).length ((wl n).map wv)] := by
  rw [zP_c, zmk_abs]
  congr 4
  have h : (0 < (wl n).length) ↔ n ≠ 0 := by
    constructor
    · intro h h0; subst h0; rw [wl_zero] at h; simp at h
    · intro h; rw [wl_pos h]; simp
  unfold zmk
  cases b
  · simp
  · simp only [if_true, Bool.true_and, decide_eq_decide]
    rw [h]; omega
theorem zmk_self (z : Int) : zmk (decide (z < 0)) z.natAbs = z := by unfold zmk; split <;> rename_i h <;> simp at h <;> omega
def iD (z : Int) : List UInt8 := if z < 0 then 45 :: Lib.decDigits z.natAbs else Lib.decDigits z.natAbs
def siP (z : Int) : PV := strP (iD z)
theorem siP_c (z : Int) : siP z = .val (.string ⟨(iD z).toArray⟩) := rfl
def isInt : List UInt8 → Bool
  | [] => false
  | c :: r => if c = 45 then isNat r && r != [48] else isNat (c :: r)
def intOf : List UInt8 → Int
  | [] => 0
  | c :: r => if c = 45 then -(natOf r : Int) else natOf (c :: r)
theorem isNat_head {c : UInt8} {r : List UInt8} (h : isNat (c :: r) = true) : c ≠ 45 := by
  have := isD_iff.1 ((isNat_iff.1 h).2.1 c (List.mem_cons_self ..))
  rintro rfl
  simp at this
theorem isInt_nat {l : List UInt8} (h : isNat l = true) : isInt l = true ∧ intOf l = natOf l := by
  cases l with
  | nil => simp [isNat] at h
  | cons c r =>
    have := isNat_head h
    simp [isInt, intOf, this, h]
theorem dec_pos_ne {n : Nat} (h : n ≠ 0) : Lib.decDigits n ≠ [48] := by
  intro h0
  have := natOf_dec n
  rw [h0] at this
  simp [natOf] at this
  omega
theorem isInt_iD (z : Int) : isInt (iD z) = true := by
  unfold iD
  split
  · rename_i h
    simp [isInt, isNat_dec, dec_pos_ne (show z.natAbs ≠ 0 by omega)]
  · exact (isInt_nat (isNat_dec _)).1
theorem intOf_iD (z : Int) : intOf (iD z) = z := by
  unfold iD
  split
  · simp [intOf, natOf_dec]; omega
  · rw [(isInt_nat (isNat_dec _)).2, natOf_dec]; omega
theorem natOf_zero {r : List UInt8} (h : isNat r = true) (h0 : natOf r = 0) : r = [48] := by
  have := dec_natOf h
  rw [h0] at this
  rw [← this, Lib.decDigits]; rfl
theorem isInt_cons (c : UInt8) (r : List UInt8) : isInt (c :: r) = if c = 45 then isNat r && r != [48] else isNat (c :: r) := rfl
theorem intOf_cons (c : UInt8) (r : List UInt8) : intOf (c :: r) = if c = 45 then -(natOf r : Int) else natOf (c :: r) := rfl
theorem iD_intOf {l : List UInt8} (h : isInt l = true) : iD (intOf l) = l := by
  cases l with
  | nil => simp [isInt] at h
  | cons c r =>
    rw [isInt_cons] at h
    by_cases hc : c = 45
    · subst hc
      rw [if_pos rfl] at h
      simp only [Bool.and_eq_true, bne_iff_ne] at h
      have h0 : natOf r ≠ 0 := fun h0 => h.2 (natOf_zero h.1 h0)
      rw [intOf_cons, if_pos rfl]
      unfold iD
      rw [if_pos (by omega)]
      congr 1
      rw [Int.natAbs_neg, Int.natAbs_natCast]
      exact dec_natOf h.1
    · rw [if_neg hc] at h
      rw [intOf_cons, if_neg hc]
      unfold iD
      rw [if_neg (by omega), Int.natAbs_natCast]
      exact dec_natOf h
theorem dec_len (n : Nat) : (Lib.decDigits n).length ≤ 9 * Lw n + 1 := by
  by_cases h : 2 ≤ (Lib.decDigits n).length
  · have h1 := natOf_ge (isNat_dec n) h
    rw [natOf_dec] at h1
    have h2 := Lw_high n
    have h3 : (Lib.decDigits n).length - 1 < 9 * Lw n := by
      apply Classical.byContradiction
      intro hc
      have := Nat.pow_le_pow_right (show 0 < 10 by omega) (show 9 * Lw n ≤ (Lib.decDigits n).length - 1 by omega)
      omega
    omega
  · omega
def dP (n : Nat) : Go.Sx.PV := strP (Lib.decDigits n)
theorem dP_c (n : Nat) : dP n = .val (.string ⟨(Lib.decDigits n).toArray⟩) := rfl
theorem Lw_natOf {l : List UInt8} (h : ∀ c ∈ l, isD c = true) : Lw (natOf l) ≤ l.length / 9 + 1 := by
  refine Lw_le ?_
  rw [ten_pow]
  exact Nat.lt_of_lt_of_le (natOf_lt l h) (Nat.pow_le_pow_right (by omega) (by omega))
theorem Lw_zero : Lw 0 = 0 := by unfold Lw; rw [wl_zero]; rfl
theorem Lw_one : Lw 1 = 1 := by unfold Lw; rw [wl_pos (by omega), show 1 / 1000000000 = 0 by decide, wl_zero]; rfl
theorem euclid_unique {x y q r : Int} (h0 : y ≠ 0) (h : q * y + r = x) (h1 : 0 ≤ r) (h2 : r < y.natAbs) : x / y = q ∧ x % y = r := by
  by_cases hy : 0 < y
  · exact (Int.ediv_emod_unique hy).2 ⟨by rw [← h, Int.mul_comm]; omega, h1, by omega⟩
  · have hy' : 0 < -y := by omega
    have := (Int.ediv_emod_unique (a := x) (q := -q) (r := r) hy').2 ⟨by rw [← h, Int.neg_mul_neg, Int.mul_comm]; omega, h1, by omega⟩
    rw [Int.ediv_neg, Int.emod_neg] at this
    exact ⟨by omega, this.2⟩
theorem emod_abs (x y : Int) (h0 : y ≠ 0) : 0 ≤ x % y ∧ x % y < y.natAbs := by
  refine ⟨Int.emod_nonneg x h0, ?_⟩
  by_cases hy : 0 < y
  · have := Int.emod_lt_of_pos x hy; omega
  · have := Int.emod_lt_of_pos x (show 0 < -y by omega)
    rw [Int.emod_neg] at this
    omega
theorem ediv_abs (x y : Int) (h0 : y ≠ 0) : (x / y).natAbs ≤ x.natAbs + 1 := by
  have h1 := Int.mul_ediv_add_emod x y
  have h2 := emod_abs x y h0
  generalize x / y = q at *
  generalize x % y = r at *
  have h3 : (y * q).natAbs ≤ x.natAbs + y.natAbs := by omega
  rw [Int.natAbs_mul] at h3
  apply Classical.byContradiction
  intro hc
  have h4 : y.natAbs * (x.natAbs + 2) ≤ y.natAbs * q.natAbs := Nat.mul_le_mul_left _ (by omega)
  have h5 : 1 * x.natAbs ≤ y.natAbs * x.natAbs := Nat.mul_le_mul_right _ (by omega)
  rw [Nat.mul_add] at h4
  omega
theorem Lw_emod (x y : Int) (h0 : y ≠ 0) : Lw (x % y).natAbs ≤ Lw y.natAbs := by
  have := emod_abs x y h0
  exact Lw_mono (by omega)
theorem Lw_ediv (x y : Int) (h0 : y ≠ 0) : Lw (x / y).natAbs ≤ Lw x.natAbs + 2 := by
  have h1 := Lw_mono (ediv_abs x y h0)
  have h2 := Lw_add x.natAbs 1
  rw [Lw_one] at h2
  omega
theorem ba_beq0 (a b : ByteArray) : (a == b) = (a.data == b.data) := by cases a; cases b; rfl
theorem ba_beq (l m : List UInt8) : ((⟨l.toArray⟩ : ByteArray) == ⟨m.toArray⟩) = (l == m) := by
  rw [ba_beq0]
  simp
theorem ag : (∀ k ks v vs, hasAll (k :: ks) (v :: vs) = (k.has v && hasAll ks vs)) ∧ hasAll [] [] = true ∧ (∀ b, EK.bool.has (.bool b) = true) ∧ (∀ s, EK.string.has (.string s) = true) ∧ (∀ k n, (EK.int k).has (.int k n) = true) ∧
    (∀ a l b m, eqAll (a :: l) (b :: m) = (valEq a b && eqAll l m)) ∧ eqAll [] [] = true ∧ (∀ a b, valEq (.bool a) (.bool b) = (a == b)) ∧ (∀ l m : List UInt8, valEq (.string ⟨l.toArray⟩) (.string ⟨m.toArray⟩) = (l == m)) ∧ (∀ k k' a b, valEq (.int k a) (.int k' b) = (a == b)) ∧
    (∀ b, binAg2 .neq true b = some (.bool !b)) ∧ (∀ b, binAg2 .eql true b = some (.bool b)) :=
  ⟨fun _ _ _ _ => rfl, rfl, fun _ => rfl, fun _ => rfl, fun k n => by cases k <;> rfl, fun _ _ _ _ => rfl, rfl, fun _ _ => rfl, fun l m => ba_beq l m, fun _ _ _ _ => rfl, fun _ => rfl, fun _ => rfl⟩
end Gb
namespace Go.Proofs.YtnlabeglboomlaaGreatDoor.S
open Go Go.Sx Go.RowKit Gb
variable {G : World → Prop} (hG : ∀ w w', G w → Below w.heap.size w w' → G w')
include hG
set_option maxRecDepth 100000 in
theorem make2_n (b : Bool) (n : Nat) : Meets Tryz.prog G 90 [.val (.bool b), nP n] (zP (zmk b n)) := by
  refine meets_of_vc (Y := {}) (N := 13) (rs := [.cell 4 44]) mix tk hG Tryz.func90 rfl (by kernel_rfl) rfl rfl (by simp) (by kernel_rfl) ?_
  rw [zP_mk]
  simp (maxSteps := 10000000) only [↓sx, sx, ↓ty, ↓reduceIte, Nat.reduceEqDiff, Nat.reduceAdd, Nat.reduceLeDiff, Nat.reduceLT, List.getElem?_cons_zero, List.getElem?_cons_succ, and_self, Bool.and_self, Nat.reduceAdd, Nat.le_refl, nP_c]
  refine vcIf_b (fun h => ?_) (fun h => ?_)
  · subst h; simp
  · subst h; rfl
theorem make2_z (b : Bool) (n : Nat) (z : Int) (h : zmk b n = z) : Meets Tryz.prog G 90 [.val (.bool b), nP n] (zP z) := h ▸ make2_n hG b n
set_option maxRecDepth 100000 in
theorem small2_n (z : Int) (h0 : -4294967296 < z) (h1 : z < 4294967296) : Meets Tryz.prog G 95 [.val (.int .i64 z)] (zP z) := by
  refine meets_of_vc (Y := {}) (N := 14) (rs := [.cell 2 44]) mix tk hG Tryz.func95 rfl (by kernel_rfl) rfl rfl (by simp) (by kernel_rfl) ?_
  simp (maxSteps := 10000000) only [↓sx, sx, ↓ty, ↓reduceIte, Nat.reduceEqDiff]
  refine vcIf_dec (fun h => ?_) (fun h => ?_)
  · have e1 : IntKind.u32.wrap (IntKind.i64.wrap (0 - z)) = ((z.natAbs : Nat) : Int) := by rw [i64_id (by omega) (by omega), u32_id (by omega) (by omega)]; omega
    refine CallT.to (small_n hG z.natAbs (by omega)) (by rw [e1]) ?_
    simp (maxSteps := 10000000) only [↓sx, sx, ↓ty, ↓reduceIte, nP_c]
    refine CallT.mk (make2_z hG true z.natAbs z (by simp [zmk]; omega)) ?_
    simp (maxSteps := 10000000) only [↓sx, sx, ↓ty, ↓reduceIte, Nat.reduceEqDiff, Nat.reduceAdd, and_self, Bool.and_self, Nat.reduceAdd, Nat.le_refl, zP_c]
  · have e1 : IntKind.u32.wrap z = ((z.natAbs : Nat) : Int) := by rw [u32_id (by omega) (by omega)]; omega
    refine CallT.to (small_n hG z.natAbs (by omega)) (by rw [e1]) ?_
    simp (maxSteps := 10000000) only [↓sx, sx, ↓ty, ↓reduceIte, nP_c]
    refine CallT.mk (make2_z hG false z.natAbs z (by simp [zmk]; omega)) ?_
    simp (maxSteps := 10000000) only [↓sx, sx, ↓ty, ↓reduceIte, Nat.reduceEqDiff, Nat.reduceAdd, and_self, Bool.and_self, Nat.reduceAdd, Nat.le_refl, zP_c]
set_option maxRecDepth 100000 in
theorem opp_n (z : Int) : Meets Tryz.prog G 126 [zP z] (zP (-z)) := by
  refine meets_of_vc (Y := {}) (N := 9) (rs := [.cell 2 44]) mix tk hG Tryz.func126 rfl (by kernel_rfl) rfl rfl (by simp) (by kernel_rfl) ?_
  simp (maxSteps := 10000000) only [↓sx, sx, ↓ty, ↓reduceIte, Nat.reduceEqDiff, Nat.reduceAdd, ne_eq, not_false_eq_true, List.getElem?_cons_zero, List.getElem?_cons_succ, Nat.reduceAdd, zP_c]
  refine CallT.mk (make2_z hG (!decide (z < 0)) z.natAbs (-z) ?_) ?_
  · by_cases h : z < 0
    · simp [zmk, h]; omega
    · simp [zmk, h]; omega
  · simp (maxSteps := 10000000) only [↓sx, sx, ↓ty, ↓reduceIte, Nat.reduceEqDiff, Nat.reduceAdd, and_self, Bool.and_self, Nat.reduceAdd, Nat.le_refl, zP_c]
set_option maxRecDepth 100000 in
theorem signum_n (z : Int) : Meets Tryz.prog G 70 [zP z] (iP z.sign) := by
  refine meets_of_vc (Y := {}) (N := 9) (rs := [.tmp 2]) mix tk hG Tryz.func70 rfl (by kernel_rfl) rfl rfl (by simp) (by kernel_rfl) ?_
  simp (maxSteps := 10000000) only [↓sx, sx, ↓ty, ↓reduceIte, Nat.reduceEqDiff, Nat.reduceAdd, ne_eq, not_false_eq_true, List.getElem?_cons_zero, List.getElem?_cons_succ, Nat.reduceAdd, zP_c, iP_c, len_Lw]
  refine vcIf_dec (fun h => ?_) (fun h => ?_)
  · rw [Int.sign_eq_neg_one_of_neg h]
  · refine vcIf_dec (fun h2 => ?_) (fun h2 => ?_)
    · have : z.natAbs ≠ 0 := by intro h3; rw [(Lw_zero_iff _).2 h3] at h2; simp at h2
      rw [Int.sign_eq_one_of_pos (by omega)]
    · have : z.natAbs = 0 := (Lw_zero_iff _).1 (by omega)
      obtain rfl : z = 0 := by omega
      rfl
set_option maxRecDepth 100000 in
theorem plus2_n (x y : Int) (hx : Lw x.natAbs < 100000) (hy : Lw y.natAbs < 100000) : Meets Tryz.prog G 97 [zP x, zP y] (zP (x + y)) := by
  refine meets_of_vc (Y := {}) (N := 40) (rs := [.cell 4 44]) mix tk hG Tryz.func97 rfl (by kernel_rfl) rfl rfl (by simp) (by kernel_rfl) ?_
  simp (maxSteps := 10000000) only [↓sx, sx, ↓ty, ↓reduceIte, Nat.reduceEqDiff, Nat.reduceAdd, ne_eq, not_false_eq_true, List.getElem?_cons_zero, List.getElem?_cons_succ, Nat.reduceAdd, zP_c]
  refine vcIf_b (fun h => ?_) (fun h => ?_)
  · have h : (x < 0) ↔ (y < 0) := by simpa using h
    refine CallT.mk (plus_n hG x.natAbs y.natAbs (by omega) (by omega)) ?_
    simp (maxSteps := 10000000) only [↓sx, sx, nP_c]
    refine CallT.mk (make2_z hG (decide (x < 0)) (x.natAbs + y.natAbs) (x + y) ?_) ?_
    · by_cases hx0 : x < 0
      · simp [zmk, hx0]; omega
      · simp [zmk, hx0]; omega
    · simp (maxSteps := 10000000) only [↓sx, sx, ↓reduceIte, Nat.reduceEqDiff, Nat.reduceAdd, and_self, Bool.and_self, Nat.reduceAdd, Nat.le_refl, zP_c]
  · have h : ¬ ((x < 0) ↔ (y < 0)) := by simpa using h
    refine CallT.mk (cmp_n hG x.natAbs y.natAbs (by omega) (by omega)) ?_
    simp (maxSteps := 10000000) only [↓sx, sx, ↓reduceIte, Nat.reduceEqDiff, Nat.reduceAdd, ne_eq, not_false_eq_true, Nat.reduceAdd, iP_c]
    refine vcIf_dec (fun hc => ?_) (fun hc => ?_)
    · have hle : y.natAbs ≤ x.natAbs := by
        unfold cmpI at hc
        split at hc
        · omega
        · omega
      refine CallT.mk (minus_n hG x.natAbs y.natAbs (by omega) (by omega) hle) ?_
      simp (maxSteps := 10000000) only [↓sx, sx, nP_c]
      refine CallT.mk (make2_z hG (decide (x < 0)) (x.natAbs - y.natAbs) (x + y) ?_) ?_
      · by_cases hx0 : x < 0
        · simp [zmk, hx0]; omega
        · simp [zmk, hx0]; omega
      · simp (maxSteps := 10000000) only [↓sx, sx, ↓reduceIte, Nat.reduceEqDiff, Nat.reduceAdd, and_self, Bool.and_self, Nat.reduceAdd, Nat.le_refl, zP_c]
    · have hle : x.natAbs ≤ y.natAbs := by
        unfold cmpI at hc
        split at hc
        · omega
        · split at hc <;> omega
      refine CallT.mk (minus_n hG y.natAbs x.natAbs (by omega) (by omega) hle) ?_
      simp (maxSteps := 10000000) only [↓sx, sx, nP_c]
      refine CallT.mk (make2_z hG (decide (y < 0)) (y.natAbs - x.natAbs) (x + y) ?_) ?_
      · by_cases hy0 : y < 0
        · simp [zmk, hy0]; omega
        · simp [zmk, hy0]; omega
      · simp (maxSteps := 10000000) only [↓sx, sx, ↓reduceIte, Nat.reduceEqDiff, Nat.reduceAdd, and_self, Bool.and_self, Nat.reduceAdd, Nat.le_refl, zP_c]
set_option maxRecDepth 100000 in
theorem minus2_n (x y : Int) (hx : Lw x.natAbs < 100000) (hy : Lw y.natAbs < 100000) : Meets Tryz.prog G 137 [zP x, zP y] (zP (x - y)) := by
  refine meets_of_vc (Y := {}) (N := 9) (rs := [.cell 4 44]) mix tk hG Tryz.func137 rfl (by kernel_rfl) rfl rfl (by simp) (by kernel_rfl) ?_
  simp (maxSteps := 10000000) only [↓sx, sx, ↓ty, ↓reduceIte, Nat.reduceEqDiff, Nat.reduceAdd, Nat.reduceAdd, Nat.le_refl, zP_c]
  refine CallT.mk (opp_n hG y) ?_
  simp (maxSteps := 10000000) only [↓sx, sx, zP_c]
  refine CallT.mk (plus2_n hG x (-y) hx (by rw [Int.natAbs_neg]; exact hy)) ?_
  simp (maxSteps := 10000000) only [↓sx, sx, ↓reduceIte, Nat.reduceAdd, and_self, Bool.and_self, Nat.reduceAdd, Nat.le_refl, zP_c]
  rw [Int.sub_eq_add_neg]
set_option maxRecDepth 100000 in
theorem times2_n (x y : Int) (hx : Lw x.natAbs < 100000) (hy : Lw y.natAbs < 100000) : Meets Tryz.prog G 99 [zP x, zP y] (zP (x * y)) := by
  refine meets_of_vc (Y := {}) (N := 16) (rs := [.cell 4 44]) mix tk hG Tryz.func99 rfl (by kernel_rfl) rfl rfl (by simp) (by kernel_rfl) ?_
  simp (maxSteps := 10000000) only [↓sx, sx, ↓ty, ↓reduceIte, Nat.reduceEqDiff, Nat.reduceAdd, ne_eq, not_false_eq_true, List.getElem?_cons_zero, List.getElem?_cons_succ, Nat.reduceAdd, zP_c]
  refine CallT.mk (times_n hG x.natAbs y.natAbs (by omega) (by omega)) ?_
  simp (maxSteps := 10000000) only [↓sx, sx, nP_c]
  refine CallT.mk (make2_z hG (decide (x < 0) != decide (y < 0)) (x.natAbs * y.natAbs) (x * y) ?_) ?_
  · conv => rhs; rw [← zmk_self x, ← zmk_self y]
    unfold zmk
    by_cases h1 : x < 0 <;> by_cases h2 : y < 0 <;> simp [h1, h2, Int.natCast_mul, Int.neg_mul, Int.mul_neg]
  · simp (maxSteps := 10000000) only [↓sx, sx, ↓reduceIte, Nat.reduceAdd, and_self, Bool.and_self, Nat.reduceAdd, Nat.le_refl, zP_c]
set_option maxRecDepth 100000 in
theorem cmp2_n (x y : Int) (hx : Lw x.natAbs < 100000) (hy : Lw y.natAbs < 100000) : Meets Tryz.prog G 108 [zP x, zP y] (iP (x - y).sign) := by
  refine meets_of_vc (Y := {}) (N := 9) (rs := [.tmp 4]) mix tk hG Tryz.func108 rfl (by kernel_rfl) rfl rfl (by simp) (by kernel_rfl) ?_
  simp (maxSteps := 10000000) only [↓sx, sx, ↓ty, ↓reduceIte, Nat.reduceEqDiff, Nat.reduceAdd, Nat.reduceAdd, Nat.le_refl, zP_c]
  refine CallT.mk (minus2_n hG x y hx hy) ?_
  simp (maxSteps := 10000000) only [↓sx, sx, ↓reduceIte, zP_c]
  refine CallT.mk (signum_n hG (x - y)) ?_
  simp (maxSteps := 10000000) only [↓sx, sx, iP_c]
set_option maxRecDepth 100000 in
theorem valid2_n (l : List UInt8) (hl : l.length < 100000000) : Meets Tryz.prog G 64 [strP l] (.val (.bool (isInt l))) := by
  refine meets_of_vc (Y := {}) (N := 20) (rs := [.tmp 2]) mix tk hG Tryz.func64 rfl (by kernel_rfl) rfl rfl (by simp) (by kernel_rfl) ?_
  simp (maxSteps := 10000000) only [↓sx, sx, ↓ty, ↓reduceIte, Nat.reduceEqDiff, Nat.reduceLT, strP_c]
  have same : ∀ {l : List UInt8}, (∀ c r, l = c :: r → c ≠ 45 ∨ r = []) → isInt l = isNat l := by
    intro l h
    cases l with
    | nil => rfl
    | cons c r =>
      rw [isInt_cons]
      by_cases hc : c = 45
      · subst hc
        rcases h 45 r rfl with h | h
        · exact absurd rfl h
        · subst h; decide
      · rw [if_neg hc]
  refine vcIf_dec (fun h1 => ⟨by omega, vcIf_b (fun h2 => ?_) (fun h2 => ?_)⟩) (fun h1 => ?_)
  · cases l with
    | nil => simp at h1
    | cons c r =>
      have hc : c = 45 := UInt8.toNat_inj.1 (by rw [beq_iff_eq] at h2; simp at h2; rw [show (45 : UInt8).toNat = 45 from rfl]; omega)
      subst hc
      refine vcIf_b (fun h3 => ?_) (fun h3 => ?_)
      · have h3 : r ≠ [48] := by intro h; subst h; exact absurd h3 (by decide)
        have hl2 : r.length < 100000000 := by simp at hl; omega
        refine ⟨by simp; omega, ?_⟩
        refine CallT.to (valid1_n hG r hl2) (by simp [strP]) ?_
        simp (maxSteps := 10000000) only [↓sx, sx, ↓reduceIte]
        rw [isInt_cons, if_pos rfl]
        cases isNat r <;> simp [h3]
      · have h3 : r = [48] := by
          have : ((45 :: r : List UInt8) == [45, 48]) = true := by
            cases hb : ((45 :: r : List UInt8) == [45, 48]) with
            | true => rfl
            | false => rw [hb] at h3; simp at h3
          simpa using this
        subst h3
        rfl
  · refine CallT.mk (valid1_n hG l hl) ?_
    simp (maxSteps := 10000000) only [↓sx, sx]
    rw [same]
    rintro c r rfl
    left
    rintro rfl
    simp at h2
  · refine CallT.mk (valid1_n hG l hl) ?_
    simp (maxSteps := 10000000) only [↓sx, sx]
    rw [same]
    rintro c r rfl
    right
    simp only [List.length_cons] at h1
    exact List.eq_nil_of_length_eq_zero (by omega)
set_option maxRecDepth 100000 in
theorem to2_n (z : Int) (hz : Lw z.natAbs < 1000000) : Meets Tryz.prog G 87 [zP z] (siP z) := by
  refine meets_of_vc (Y := {}) (N := 12) (rs := [.tmp 2]) mix tk hG Tryz.func87 rfl (by kernel_rfl) rfl rfl (by simp) (by kernel_rfl) ?_
  simp (maxSteps := 10000000) only [↓sx, sx, ↓ty, ↓reduceIte, Nat.reduceEqDiff, Nat.reduceAdd, ne_eq, not_false_eq_true, List.getElem?_cons_zero, List.getElem?_cons_succ, Nat.reduceAdd, zP_c, siP_c]
  refine vcIf_dec (fun h => ?_) (fun h => ?_)
  · refine CallT.mk (to1_n hG z.natAbs hz) ?_
    simp (maxSteps := 10000000) only [↓sx, sx, Nat.reduceAdd, Nat.reduceAdd, strP_c]
    have := dec_len z.natAbs
    refine ⟨by omega, ?_⟩
    unfold iD
    rw [if_pos h]
  · refine CallT.mk (to1_n hG z.natAbs hz) ?_
    simp (maxSteps := 10000000) only [↓sx, sx, strP_c]
    unfold iD
    rw [if_neg h]
set_option maxRecDepth 100000 in
theorem read2_n (l : List UInt8) (hv : isInt l = true) (hl : l.length < 1000000) : Meets Tryz.prog G 66 [strP l] (zP (intOf l)) := by
  refine meets_of_vc (Y := {}) (N := 13) (rs := [.cell 2 44]) mix tk hG Tryz.func66 rfl (by kernel_rfl) rfl rfl (by simp) (by kernel_rfl) ?_
  simp (maxSteps := 10000000) only [↓sx, sx, ↓ty, ↓reduceIte, Nat.reduceEqDiff, strP_c]
  cases l with
  | nil => simp [isInt] at hv
  | cons c r =>
    rw [isInt_cons] at hv
    rw [intOf_cons]
    refine ⟨by simp, vcIf_b (fun h2 => ?_) (fun h2 => ?_)⟩
    · have hc : c = 45 := UInt8.toNat_inj.1 (by rw [beq_iff_eq] at h2; simp at h2; rw [show (45 : UInt8).toNat = 45 from rfl]; omega)
      subst hc
      rw [if_pos rfl] at hv ⊢
      simp only [Bool.and_eq_true, bne_iff_ne] at hv
      have h0 : natOf r ≠ 0 := fun h0 => hv.2 (natOf_zero hv.1 h0)
      refine ⟨by simp; omega, CallT.to (from1_n hG r (by simp at hl; omega) (isNat_iff.1 hv.1).2.1) (by simp [strP]) ?_⟩
      simp (maxSteps := 10000000) only [↓sx, sx, ↓ty, ↓reduceIte, Nat.reduceEqDiff, Nat.reduceAdd, Nat.reduceLeDiff, List.getElem?_cons_zero, List.getElem?_cons_succ, and_self, Bool.and_self, Nat.reduceAdd, Nat.le_refl, nP_c]
      rw [show (-(natOf r : Int)) = zmk true (natOf r) by simp [zmk], zP_mk]
      have : 0 < (wl (natOf r)).length := by rw [wl_pos h0]; simp
      simp [this]
    · have hc : c ≠ 45 := by rintro rfl; simp at h2
      rw [if_neg hc] at hv ⊢
      refine CallT.mk (from1_n hG (c :: r) hl (isNat_iff.1 hv).2.1) ?_
      simp (maxSteps := 10000000) only [↓sx, sx, ↓ty, ↓reduceIte, Nat.reduceEqDiff, Nat.reduceAdd, Nat.reduceLeDiff, List.getElem?_cons_zero, List.getElem?_cons_succ, and_self, Bool.and_self, Nat.reduceAdd, Nat.le_refl, nP_c]
      rw [show ((natOf (c :: r) : Nat) : Int) = zmk false (natOf (c :: r)) by simp [zmk], zP_mk]
      simp
end Go.Proofs.YtnlabeglboomlaaGreatDoor.S
namespace Gb
open Go Go.RowKit Go.Sx
theorem iD_len (z : Int) : (iD z).length ≤ 9 * Lw z.natAbs + 2 := by
  have := dec_len z.natAbs
  unfold iD
  split <;> simp <;> omega
theorem Lw_intOf {p : List UInt8} (h1 : isInt p = true) : Lw (intOf p).natAbs ≤ p.length / 9 + 1 := by
  have : (intOf p).natAbs < 10 ^ p.length := by
    cases p with
    | nil => simp [isInt] at h1
    | cons c r =>
      rw [isInt_cons] at h1
      rw [intOf_cons]
      by_cases hc : c = 45
      · rw [if_pos hc] at h1 ⊢
        simp only [Bool.and_eq_true] at h1
        have := natOf_lt r (isNat_iff.1 h1.1).2.1
        have := Nat.pow_le_pow_right (show 0 < 10 by omega) (show r.length ≤ (c :: r).length by simp)
        omega
      · rw [if_neg hc] at h1 ⊢
        have := natOf_lt (c :: r) (isNat_iff.1 h1).2.1
        omega
  refine Lw_le ?_
  rw [ten_pow]
  exact Nat.lt_of_lt_of_le this (Nat.pow_le_pow_right (by omega) (by omega))
theorem wl_one : wl 1 = [1] := by rw [wl_pos (by omega), show 1 / 1000000000 = 0 by decide, wl_zero]; rfl
theorem wl_len1 {g : Nat} (h : (wl g).length = 1) : (wl g).getD 0 0 = g := by
  have h0 : g ≠ 0 := by rintro rfl; rw [wl_zero] at h; simp at h
  rw [wl_pos h0] at h ⊢
  have : (wl (g / 1000000000)).length = 0 := by simpa using h
  have : g / 1000000000 = 0 := by
    apply Classical.byContradiction
    intro hc
    rw [wl_pos hc] at this
    simp at this
  simp
  omega
theorem zmk_div {p : Int} {g : Nat} (h : g ∣ p.natAbs) : zmk (decide (p < 0)) (p.natAbs / g) = p / g := by
  by_cases hg : g = 0
  · subst hg; simp [zmk]
  obtain ⟨k, hk⟩ := h
  rw [hk, Nat.mul_div_cancel_left _ (by omega)]
  unfold zmk
  by_cases hp : p < 0
  · have : p = g * (-k : Int) := by rw [Int.mul_neg, ← Int.natCast_mul, ← hk]; omega
    rw [if_pos (by simp [hp]), this, Int.mul_ediv_cancel_left _ (by omega)]
  · have : p = g * (k : Int) := by rw [← Int.natCast_mul, ← hk]; omega
    rw [if_neg (by simp [hp]), this, Int.mul_ediv_cancel_left _ (by omega)]
theorem add_same {x y : Rat} (h : x.den = y.den) : x + y = Rat.normalize (x.num + y.num) x.den x.den_nz := by
  rw [Rat.add_def, Rat.normalize_eq_iff]
  rw [h]
  have := y.den_nz
  grind
theorem cmp_den (a b : Nat) : (cmpI a b == 0) = decide (a = b) := by
  unfold cmpI
  by_cases h : a = b
  · subst h; simp
  · have : ¬ (a : Int) = b := by omega
    by_cases h1 : (a : Int) < b
    · simp [h1, h]
    · rw [if_neg h1, if_pos (by omega)]; simp [h]
theorem sub_sign_num (x y : Rat) : (x - y).num.sign = (x.num * y.den - y.num * x.den).sign := by
  rw [Rat.sub_def, Rat.num_normalize]
  generalize hp : x.num * ↑y.den - y.num * ↑x.den = p
  have hd := x.den_nz
  have hd2 := y.den_nz
  have hdv : ((p.natAbs.gcd (x.den * y.den) : Nat) : Int) ∣ p := Int.ofNat_dvd_left.2 (Nat.gcd_dvd_left _ _)
  have hg : 0 < p.natAbs.gcd (x.den * y.den) := Nat.gcd_pos_of_pos_right _ (Nat.mul_pos (by omega) (by omega))
  generalize p.natAbs.gcd (x.den * y.den) = g at *
  obtain ⟨k, rfl⟩ := hdv
  rw [Int.mul_ediv_cancel_left _ (by omega), Int.sign_mul, Int.sign_eq_one_of_pos (show (0 : Int) < g by omega), Int.one_mul]
def qP (x : Rat) : PV := .agg [.val (.bool (decide (x.num < 0))), nP x.num.natAbs, nP x.den]
theorem qP_c (x : Rat) : qP x = .agg [.val (.bool (decide (x.num < 0))), .sl (wl x.num.natAbs).length ((wl x.num.natAbs).map wv), .sl (wl x.den).length ((wl x.den).map wv)] := rfl
def rT (x : Rat) : List UInt8 := if x.den = 1 then iD x.num else iD x.num ++ 47 :: Lib.decDigits x.den
def rtP (x : Rat) : PV := strP (rT x)
theorem rtP_c (x : Rat) : rtP x = .val (.string ⟨(rT x).toArray⟩) := rfl
def splitM : List UInt8 → List UInt8 × List UInt8 × Bool
  | [] => ([], [49], false)
  | c :: r => if c = 47 then ([], r, true) else (c :: (splitM r).1, (splitM r).2.1, (splitM r).2.2)
theorem splitM_cons (c : UInt8) (r : List UInt8) : splitM (c :: r) = if c = 47 then ([], r, true) else (c :: (splitM r).1, (splitM r).2.1, (splitM r).2.2) := rfl
theorem splitM_no : ∀ (l : List UInt8), (∀ c ∈ l, c ≠ 47) → splitM l = (l, [49], false)
  | [], _ => rfl
  | c :: r, h => by
    rw [splitM_cons, if_neg (h c (List.mem_cons_self ..)), splitM_no r fun x hx => h x (List.mem_cons_of_mem _ hx)]
theorem splitM_at : ∀ (l m : List UInt8), (∀ c ∈ l, c ≠ 47) → splitM (l ++ 47 :: m) = (l, m, true)
  | [], m, _ => by rw [List.nil_append, splitM_cons, if_pos rfl]
  | c :: r, m, h => by
    rw [List.cons_append, splitM_cons, if_neg (h c (List.mem_cons_self ..)), splitM_at r m fun x hx => h x (List.mem_cons_of_mem _ hx)]
theorem splitM_inv : ∀ (l : List UInt8), ((splitM l).2.2 = true ∧ l = (splitM l).1 ++ 47 :: (splitM l).2.1) ∨ ((splitM l).2.2 = false ∧ l = (splitM l).1 ∧ (splitM l).2.1 = [49])
  | [] => .inr ⟨rfl, rfl, rfl⟩
  | c :: r => by
    rw [splitM_cons]
    by_cases h : c = 47
    · rw [if_pos h]; subst h; exact .inl ⟨rfl, rfl⟩
    · rw [if_neg h]
      rcases splitM_inv r with ⟨h1, h2⟩ | ⟨h1, h2, h3⟩
      · left; refine ⟨h1, ?_⟩; show c :: r = c :: (splitM r).1 ++ _; rw [List.cons_append, ← h2]
      · right; refine ⟨h1, ?_, h3⟩; show c :: r = c :: (splitM r).1; rw [← h2]
theorem splitM_len (l : List UInt8) : (splitM l).1.length ≤ l.length ∧ (splitM l).2.1.length ≤ l.length + 1 := by
  rcases splitM_inv l with ⟨_, h⟩ | ⟨_, h1, h2⟩
  · have := congrArg List.length h
    rw [List.length_append, List.length_cons] at this
    omega
  · rw [h2, ← h1]; simp
theorem iD_no47 (z : Int) : ∀ c ∈ iD z, c ≠ 47 := by
  intro c hc
  have hd : ∀ n, ∀ c ∈ Lib.decDigits n, c ≠ 47 := by
    intro n c hc h
    subst h
    have := isD_iff.1 (dec_isD n 47 hc)
    simp at this
  unfold iD at hc
  split at hc
  · rcases List.mem_cons.1 hc with rfl | hc
    · decide
    · exact hd _ c hc
  · exact hd _ c hc
def isRat (l : List UInt8) : Bool := isInt (splitM l).1 && isNat (splitM l).2.1 && (!(splitM l).2.2 || (decide (1 < natOf (splitM l).2.1) && decide (intOf (splitM l).1 ≠ 0) && decide (Nat.gcd (intOf (splitM l).1).natAbs (natOf (splitM l).2.1) = 1)))
def ratOf (l : List UInt8) : Rat := mkRat (intOf (splitM l).1) (natOf (splitM l).2.1)
theorem isRat_spec {l : List UInt8} (h : isRat l = true) : isInt (splitM l).1 = true ∧ isNat (splitM l).2.1 = true ∧ 0 < natOf (splitM l).2.1 ∧ Nat.gcd (intOf (splitM l).1).natAbs (natOf (splitM l).2.1) = 1 ∧ ((splitM l).2.2 = true ↔ natOf (splitM l).2.1 ≠ 1) := by
  unfold isRat at h
  simp only [Bool.and_eq_true, Bool.or_eq_true, Bool.not_eq_true', decide_eq_true_eq] at h
  obtain ⟨⟨h1, h2⟩, h3⟩ := h
  rcases splitM_inv l with ⟨h4, h5⟩ | ⟨h4, h5, h6⟩
  · rcases h3 with h3 | h3
    · rw [h4] at h3; cases h3
    · exact ⟨h1, h2, by omega, h3.2, by rw [h4]; simp; omega⟩
  · have : natOf (splitM l).2.1 = 1 := by rw [h6]; rfl
    rw [this]
    exact ⟨h1, h2, by omega, Nat.gcd_one_right _, by rw [h4]; simp⟩
theorem ratOf_spec {l : List UInt8} (h : isRat l = true) : (ratOf l).num = intOf (splitM l).1 ∧ (ratOf l).den = natOf (splitM l).2.1 := by
  obtain ⟨_, _, h3, h4, _⟩ := isRat_spec h
  unfold ratOf
  have e : mkRat (intOf (splitM l).1) (natOf (splitM l).2.1) = ⟨intOf (splitM l).1, natOf (splitM l).2.1, by omega, h4⟩ := by
    rw [Rat.mk_eq_normalize, mkRat, dif_neg (by omega)]
  rw [e]
  exact ⟨rfl, rfl⟩
theorem rT_ratOf {l : List UInt8} (h : isRat l = true) : rT (ratOf l) = l := by
  obtain ⟨h1, h2, h3, h4, h5⟩ := isRat_spec h
  obtain ⟨e1, e2⟩ := ratOf_spec h
  unfold rT
  rw [e1, e2, iD_intOf h1, dec_natOf h2]
  rcases splitM_inv l with ⟨g1, g2⟩ | ⟨g1, g2, g3⟩
  · rw [if_neg (h5.1 g1)]; exact g2.symm
  · rw [if_pos (by rw [g3]; rfl)]; exact g2.symm
theorem splitM_rT (x : Rat) : splitM (rT x) = (iD x.num, Lib.decDigits x.den, !decide (x.den = 1)) := by
  unfold rT
  by_cases h : x.den = 1
  · rw [if_pos h, splitM_no _ (iD_no47 _), h, Lib.decDigits]; rfl
  · rw [if_neg h, splitM_at _ _ (iD_no47 _)]; simp [h]
theorem isRat_rT (x : Rat) : isRat (rT x) = true := by
  unfold isRat
  rw [splitM_rT]
  dsimp only
  rw [isInt_iD, isNat_dec, natOf_dec, intOf_iD]
  have hd := x.den_nz
  have hr := x.reduced
  by_cases h : x.den = 1
  · simp [h]
  · have hn : x.num ≠ 0 := by
      intro h0
      rw [h0] at hr
      have : x.den = 1 := by simpa [Nat.Coprime] using hr
      exact h this
    simp [h, hn]
    exact ⟨by omega, hr⟩
theorem ratOf_rT (x : Rat) : ratOf (rT x) = x := by
  unfold ratOf
  rw [splitM_rT]
  dsimp only
  rw [natOf_dec, intOf_iD, Rat.mkRat_self]
def Sz (k : Nat) (x : Rat) : Prop := Lw x.num.natAbs ≤ k ∧ Lw x.den ≤ k
theorem Sz.mono {k m : Nat} {x : Rat} (h : Sz k x) (hm : k ≤ m) : Sz m x := ⟨by have := h.1; omega, by have := h.2; omega⟩
theorem Sz.norm {k : Nat} {p : Int} {d : Nat} (hd : d ≠ 0) (h1 : Lw p.natAbs ≤ k) (h2 : Lw d ≤ k) : Sz k (Rat.normalize p d hd) := by
  unfold Sz
  rw [Rat.num_normalize, Rat.den_normalize]
  have hg : p.natAbs.gcd d ≠ 0 := Nat.ne_of_gt (Nat.gcd_pos_of_pos_right _ (by omega))
  constructor
  · have : (p / (p.natAbs.gcd d : Nat)).natAbs ≤ p.natAbs := by
      have hdv : ((p.natAbs.gcd d : Nat) : Int) ∣ p := Int.ofNat_dvd_left.2 (Nat.gcd_dvd_left _ _)
      rw [Int.natAbs_ediv_of_dvd hdv]
      exact Nat.div_le_self _ _
    exact Nat.le_trans (Lw_mono this) h1
  · exact Nat.le_trans (Lw_mono (Nat.div_le_self _ _)) h2
theorem Sz.neg {k : Nat} {x : Rat} (h : Sz k x) : Sz k (-x) := by
  unfold Sz at *
  rw [Rat.neg_num, Rat.neg_den, Int.natAbs_neg]; exact h
theorem Lw_iadd (x y : Int) : Lw (x + y).natAbs ≤ max (Lw x.natAbs) (Lw y.natAbs) + 1 := by
  have h1 := Lw_mono (show (x + y).natAbs ≤ x.natAbs + y.natAbs by omega)
  have h2 := Lw_add x.natAbs y.natAbs
  omega
theorem Lw_imul (x y : Int) : Lw (x * y).natAbs ≤ Lw x.natAbs + Lw y.natAbs := by
  rw [Int.natAbs_mul]; exact Lw_mul _ _
theorem Sz.add {k : Nat} {x y : Rat} (hx : Sz k x) (hy : Sz k y) : Sz (2 * k + 1) (x + y) := by
  rw [Rat.add_def]
  have h1 := Lw_iadd (x.num * y.den) (y.num * x.den)
  have h2 := Lw_imul x.num y.den
  have h3 := Lw_imul y.num x.den
  have h4 := Lw_mul x.den y.den
  have := hx.1; have := hx.2; have := hy.1; have := hy.2
  rw [Int.natAbs_natCast] at h2 h3
  exact Sz.norm _ (by omega) (by omega)
theorem Sz.sub {k : Nat} {x y : Rat} (hx : Sz k x) (hy : Sz k y) : Sz (2 * k + 1) (x - y) := by
  rw [Rat.sub_eq_add_neg]; exact hx.add hy.neg
theorem Sz.mul {k : Nat} {x y : Rat} (hx : Sz k x) (hy : Sz k y) : Sz (2 * k) (x * y) := by
  rw [Rat.mul_def]
  have h2 := Lw_imul x.num y.num
  have h4 := Lw_mul x.den y.den
  have := hx.1; have := hx.2; have := hy.1; have := hy.2
  exact Sz.norm _ (by omega) (by omega)
theorem Sz.inv {k : Nat} {x : Rat} (hx : Sz k x) (hk : 1 ≤ k) : Sz k x⁻¹ := by
  unfold Sz at *
  rw [Rat.num_inv, Rat.den_inv]
  constructor
  · rw [Int.natAbs_mul, Int.natAbs_natCast]
    by_cases h : x.num = 0
    · rw [h]; simp [Lw_zero]
    · rw [Int.natAbs_sign_of_ne_zero h, Nat.one_mul]; exact hx.2
  · split
    · rw [Lw_one]; exact hk
    · exact hx.1
theorem Sz.div {k : Nat} {x y : Rat} (hx : Sz k x) (hy : Sz k y) (hk : 1 ≤ k) : Sz (2 * k) (x / y) := by
  rw [Rat.div_def]; exact hx.mul (hy.inv hk)
theorem Sz.int {k : Nat} {z : Int} (h : Lw z.natAbs ≤ k) (hk : 1 ≤ k) : Sz k (z : Rat) := by
  unfold Sz
  rw [Rat.num_intCast, Rat.den_intCast, Lw_one]
  exact ⟨h, hk⟩
theorem Sz.text {l : List UInt8} (h : isRat l = true) : Sz (l.length / 9 + 1) (ratOf l) := by
  obtain ⟨h1, h2, h3, h4, h5⟩ := isRat_spec h
  obtain ⟨e1, e2⟩ := ratOf_spec h
  obtain ⟨g1, g2⟩ := splitM_len l
  unfold Sz
  rw [e1, e2]
  constructor
  · have : (intOf (splitM l).1).natAbs < 10 ^ l.length := by
      generalize (splitM l).1 = p at *
      have hp : 10 ^ p.length ≤ 10 ^ l.length := Nat.pow_le_pow_right (by omega) g1
      cases p with
      | nil => simp [isInt] at h1
      | cons c r =>
        rw [isInt_cons] at h1
        rw [intOf_cons]
        by_cases hc : c = 45
        · rw [if_pos hc] at h1 ⊢
          simp only [Bool.and_eq_true] at h1
          have := natOf_lt r (isNat_iff.1 h1.1).2.1
          have := Nat.pow_le_pow_right (show 0 < 10 by omega) (show r.length ≤ (c :: r).length by simp)
          omega
        · rw [if_neg hc] at h1 ⊢
          have := natOf_lt (c :: r) (isNat_iff.1 h1).2.1
          omega
    refine Lw_le ?_
    rw [ten_pow]
    exact Nat.lt_of_lt_of_le this (Nat.pow_le_pow_right (by omega) (by omega))
  · have hq : natOf (splitM l).2.1 < 10 ^ (9 * (l.length / 9 + 1)) := by
      have h6 := natOf_lt _ (isNat_iff.1 h2).2.1
      rcases splitM_inv l with ⟨_, hl⟩ | ⟨_, _, hl⟩
      · have := congrArg List.length hl
        rw [List.length_append, List.length_cons] at this
        exact Nat.lt_of_lt_of_le h6 (Nat.pow_le_pow_right (by omega) (by omega))
      · rw [hl]
        show 1 < _
        exact Nat.lt_of_lt_of_le (show 1 < 10 ^ 1 by decide) (Nat.pow_le_pow_right (by omega) (by omega))
    refine Lw_le ?_
    rw [ten_pow]
    exact hq
theorem pc :
  (∀ l : List UInt8, strP l = .val (.string ⟨l.toArray⟩)) ∧ (∀ n : Nat, nP n = .sl (wl n).length ((wl n).map wv)) ∧ (∀ z : Int, iP z = .val (.int .i64 z)) ∧
  (∀ z : Int, zP z = .agg [.val (.bool (decide (z < 0))), .sl (wl z.natAbs).length ((wl z.natAbs).map wv)]) ∧
  (∀ z : Int, siP z = .val (.string ⟨(iD z).toArray⟩)) ∧ (∀ n : Nat, dP n = .val (.string ⟨(Lib.decDigits n).toArray⟩)) ∧
  (∀ x : Rat, rtP x = .val (.string ⟨(rT x).toArray⟩)) ∧
  (∀ x : Rat, qP x = .agg [.val (.bool (decide (x.num < 0))), .sl (wl x.num.natAbs).length ((wl x.num.natAbs).map wv), .sl (wl x.den).length ((wl x.den).map wv)]) :=
  ⟨fun _ => rfl, fun _ => rfl, fun _ => rfl, fun _ => rfl, fun _ => rfl, fun _ => rfl, fun _ => rfl, fun _ => rfl⟩
end Gb
namespace Go.Proofs.YtnlabeglboomlaaGreatDoor.S
open Go Go.Sx Go.RowKit Gb
variable {G : World → Prop} (hG : ∀ w w', G w → Below w.heap.size w w' → G w')
include hG
set_option maxRecDepth 100000 in
set_option maxHeartbeats 4000000 in
theorem split_n (l : List UInt8) (hl : l.length < 10000000) : Meets Tryz.prog G 63 [strP l] (.tup [strP (splitM l).1, strP (splitM l).2.1, .val (.bool (splitM l).2.2)]) := by
  refine meets_of_vc (Y := {}) (N := 24) (rs := [.tmp 2, .tmp 3, .tmp 4]) mix tk hG Tryz.func63 rfl (by kernel_rfl) rfl rfl (by simp) (by kernel_rfl) ?_
  simp (maxSteps := 10000000) only [↓sx, sx, strP_c]
  refine loopK_of (fun i : Nat => [(0, .p (.val (.string ⟨l.toArray⟩))), (5, .p (.val (.int .i64 (i : Nat))))]) (fun _ => []) (fun _ => []) (fun i => i ≤ l.length ∧ splitM l = (l.take i ++ (splitM (l.drop i)).1, (splitM (l.drop i)).2.1, (splitM (l.drop i)).2.2)) (fun i => l.length - i) 0 ⟨Nat.zero_le _, by simp⟩ ?_ ?_
  · simp (maxSteps := 10000000) only [isE_nil, is_cons, bo_p, all_nil', ↓sx, sx, ↓reduceIte, Nat.reduceEqDiff]
    rfl
  · rintro i ⟨h1, h2⟩
    simp (maxSteps := 10000000) only [↓sx, sx, ↓ty, ↓reduceIte, Nat.reduceEqDiff, getD_get]
    refine vcIf_dec (fun hi => ?_) (fun hi => ?_)
    · have hil : i < l.length := by omega
      have hd : l.drop i = l.getD i 0 :: l.drop (i + 1) := by
        rw [List.drop_eq_getElem_cons hil, List.getD_eq_getElem?_getD, List.getElem?_eq_getElem hil]; rfl
      refine ⟨by omega, vcIf_b (fun h3 => ?_) (fun h3 => ?_)⟩
      · have hc : l.getD i 0 = 47 := UInt8.toNat_inj.1 (by rw [beq_iff_eq] at h3; rw [show (47 : UInt8).toNat = 47 from rfl]; omega)
        rw [hd, splitM_cons, if_pos hc] at h2
        rw [h2, i64_id (x := (i : Int) + 1) (by omega) (by omega)]
        refine ⟨by omega, by omega, ?_⟩
        have e1 : ((i : Int) + 1).toNat = i + 1 := by omega
        simp [e1, List.take_of_length_le]
      · have hc : l.getD i 0 ≠ 47 := by intro h; rw [h] at h3; simp at h3
        refine NextK.mk (i + 1) (by omega) ⟨by omega, ?_⟩ ?_
        · rw [h2, hd, splitM_cons, if_neg hc, take_succ_getD _ _ hil]
          simp
        · simp (maxSteps := 10000000) only [isE_nil, is_cons, bo_p, all_nil', ↓sx, sx, ↓reduceIte, Nat.reduceEqDiff]
          rw [i64_id (by omega) (by omega)]
          rfl
    · obtain rfl : i = l.length := by omega
      rw [List.drop_length, List.take_length] at h2
      rw [h2]
      simp [splitM]
set_option maxRecDepth 100000 in
set_option maxHeartbeats 4000000 in
theorem int3_n (z : Int) (h0 : -4294967296 < z) (h1 : z < 4294967296) : Meets Tryz.prog G 53 [.val (.int .i64 z)] (qP (z : Rat)) := by
  refine meets_of_vc (Y := {}) (N := 7) (rs := [.cell 2 46]) mix tk hG Tryz.func53 rfl (by kernel_rfl) rfl rfl (by simp) (by kernel_rfl) ?_
  simp (maxSteps := 10000000) only [↓sx, sx, ↓ty, ↓reduceIte, Nat.reduceEqDiff, qP_c]
  refine CallT.mk (small2_n hG z h0 h1) ?_
  simp (maxSteps := 10000000) only [↓sx, sx, zP_c]
  refine CallT.mk (small_n hG 1 (by omega)) ?_
  simp (maxSteps := 10000000) only [↓sx, sx, ↓ty, ↓reduceIte, Nat.reduceEqDiff, Nat.reduceAdd, Nat.reduceLeDiff, List.getElem?_cons_zero, List.getElem?_cons_succ, and_self, Bool.and_self, Nat.reduceAdd, Nat.le_refl, nP_c]
  rw [Rat.num_intCast, Rat.den_intCast]
set_option maxRecDepth 100000 in
set_option maxHeartbeats 4000000 in
theorem to3_n (x : Rat) (hx : Sz 50000 x) : Meets Tryz.prog G 46 [qP x] (rtP x) := by
  refine meets_of_vc (Y := {}) (N := 18) (rs := [.tmp 2]) mix tk hG Tryz.func46 rfl (by kernel_rfl) rfl rfl (by simp) (by kernel_rfl) ?_
  simp (maxSteps := 10000000) only [↓sx, sx, ↓ty, ↓reduceIte, Nat.reduceEqDiff, Nat.reduceAdd, Nat.reduceLeDiff, ne_eq, not_false_eq_true, List.getElem?_cons_zero, List.getElem?_cons_succ, Nat.reduceAdd, qP_c]
  refine CallT.mk (to2_n hG x.num (by have := hx.1; omega)) ?_
  simp (maxSteps := 10000000) only [↓sx, sx, ↓reduceIte, Nat.reduceEqDiff, Nat.reduceAdd, ne_eq, not_false_eq_true, Nat.reduceAdd, siP_c]
  refine CallT.mk (to1_n hG x.den (by have := hx.2; omega)) ?_
  simp (maxSteps := 10000000) only [↓sx, sx, ↓reduceIte, Nat.reduceEqDiff, Nat.reduceAdd, Nat.reduceAdd, strP_c, rtP_c]
  have hd : (Lib.decDigits x.den == [49]) = decide (x.den = 1) := by
    by_cases h : x.den = 1
    · rw [h, Lib.decDigits]; rfl
    · have : Lib.decDigits x.den ≠ [49] := by
        intro h0
        have := natOf_dec x.den
        rw [h0] at this
        exact h this.symm
      simp [this, h]
  rw [hd]
  have l1 := iD_len x.num
  have l2 := dec_len x.den
  have := hx.1; have := hx.2
  unfold rT
  by_cases h : x.den = 1
  · refine vcIf_b (fun h3 => ?_) (fun h3 => ?_)
    · simp [h] at h3
    · rw [if_pos h]
  · refine vcIf_b (fun h3 => ?_) (fun h3 => ?_)
    · rw [if_neg h]
      exact ⟨by omega, by omega, rfl⟩
    · simp [h] at h3
set_option maxRecDepth 100000 in
set_option maxHeartbeats 4000000 in
theorem lowest_n (p : Int) (d : Nat) (hd : d ≠ 0) (h1 : Lw p.natAbs < 100000) (h2 : Lw d < 100000) : Meets Tryz.prog G 96 [zP p, nP d] (qP (Rat.normalize p d hd)) := by
  refine meets_of_vc (Y := {}) (N := 45) (rs := [.cell 4 46]) mix tk hG Tryz.func96 rfl (by kernel_rfl) rfl rfl (by simp) (by kernel_rfl) ?_
  simp (maxSteps := 10000000) only [↓sx, sx, ↓ty, ↓reduceIte, Nat.reduceEqDiff, Nat.reduceAdd, ne_eq, not_false_eq_true, List.getElem?_cons_zero, List.getElem?_cons_succ, Nat.reduceAdd, zP_c, nP_c, qP_c]
  refine CallT.mk (common_n hG p.natAbs d (by omega) (by omega)) ?_
  have hdv : p.natAbs.gcd d ∣ p.natAbs := Nat.gcd_dvd_left _ _
  have hg0 : 0 < p.natAbs.gcd d := Nat.gcd_pos_of_pos_right _ (by omega)
  have hgl : Lw (p.natAbs.gcd d) ≤ Lw d := Lw_mono (Nat.gcd_le_right _ (by omega))
  have hql : Lw (p.natAbs / p.natAbs.gcd d) ≤ Lw p.natAbs := Lw_mono (Nat.div_le_self _ _)
  rw [Rat.num_normalize, Rat.den_normalize]
  generalize p.natAbs.gcd d = g at *
  have hz := zmk_div hdv
  by_cases h1g : g = 1
  · subst h1g
    simp (maxSteps := 10000000) only [↓sx, sx, ↓ty, ↓reduceIte, Nat.reduceEqDiff, Nat.reduceAdd, Nat.reduceLeDiff, Nat.reduceLT, Int.reduceBEq, ne_eq, not_false_eq_true, List.getElem?_cons_zero, List.getElem?_cons_succ, and_self, Bool.and_self, Nat.reduceAdd, Nat.le_refl, nP_c, wl_one, wv_c]
    refine vcIf_b (fun _ => ?_) (fun h => absurd h (by simp))
    simp
  · simp (maxSteps := 10000000) only [↓sx, sx, ↓ty, ↓reduceIte, Nat.reduceEqDiff, Nat.reduceAdd, Nat.reduceLeDiff, Nat.reduceLT, ne_eq, not_false_eq_true, List.getElem?_cons_zero, List.getElem?_cons_succ, and_self, Bool.and_self, Nat.reduceAdd, Nat.le_refl, nP_c, wv_c]
    refine vcIf_b (fun h3 => ⟨?_, ?_⟩) (fun h3 => ?_)
    · rw [beq_iff_eq] at h3
      exact ⟨by omega, by omega⟩
    · rw [beq_iff_eq] at h3
      refine ⟨by omega, vcIf_b (fun h4 => ?_) (fun h4 => ?_)⟩
      · rw [beq_iff_eq, wl_len1 (by omega)] at h4
        omega
      · refine CallT.mk (over_n hG p.natAbs g (by omega) (by omega) hg0) ?_
        simp (maxSteps := 10000000) only [↓sx, sx, ↓reduceIte, Nat.reduceEqDiff, nP_c]
        refine CallT.mk (over_n hG d g (by omega) (by omega) hg0) ?_
        simp (maxSteps := 10000000) only [↓sx, sx, ↓reduceIte, Nat.reduceEqDiff, Nat.reduceAdd, ne_eq, not_false_eq_true, Nat.reduceAdd, nP_c]
        refine CallT.mk (make2_z hG (decide (p < 0)) (p.natAbs / g) (p / g) hz) ?_
        simp (maxSteps := 10000000) only [↓sx, sx, ↓ty, ↓reduceIte, Nat.reduceEqDiff, Nat.reduceAdd, Nat.reduceLeDiff, List.getElem?_cons_zero, List.getElem?_cons_succ, and_self, Bool.and_self, Nat.reduceAdd, Nat.le_refl, zP_c]
    · refine CallT.mk (over_n hG p.natAbs g (by omega) (by omega) hg0) ?_
      simp (maxSteps := 10000000) only [↓sx, sx, ↓reduceIte, Nat.reduceEqDiff, nP_c]
      refine CallT.mk (over_n hG d g (by omega) (by omega) hg0) ?_
      simp (maxSteps := 10000000) only [↓sx, sx, ↓reduceIte, Nat.reduceEqDiff, Nat.reduceAdd, ne_eq, not_false_eq_true, Nat.reduceAdd, nP_c]
      refine CallT.mk (make2_z hG (decide (p < 0)) (p.natAbs / g) (p / g) hz) ?_
      simp (maxSteps := 10000000) only [↓sx, sx, ↓ty, ↓reduceIte, Nat.reduceEqDiff, Nat.reduceAdd, Nat.reduceLeDiff, List.getElem?_cons_zero, List.getElem?_cons_succ, and_self, Bool.and_self, Nat.reduceAdd, Nat.le_refl, zP_c]
end Go.Proofs.YtnlabeglboomlaaGreatDoor.S
namespace Go.Proofs.YtnlabeglboomlaaGreatDoor.S
open Go Go.Sx Go.RowKit Gb
variable {G : World → Prop} (hG : ∀ w w', G w → Below w.heap.size w w' → G w')
include hG
set_option maxRecDepth 100000 in
set_option maxHeartbeats 4000000 in
theorem lowest_q (p : Int) (d : Nat) (x : Rat) (hd : d ≠ 0) (h1 : Lw p.natAbs < 100000) (h2 : Lw d < 100000) (h : Rat.normalize p d hd = x) : Meets Tryz.prog G 96 [zP p, nP d] (qP x) := h ▸ lowest_n hG p d hd h1 h2
set_option maxRecDepth 100000 in
set_option maxHeartbeats 4000000 in
theorem add3_n (x y : Rat) (hx : Sz 40000 x) (hy : Sz 40000 y) : Meets Tryz.prog G 57 [qP x, qP y] (qP (x + y)) := by
  have a1 := hx.1
  have a2 := hx.2
  have a3 := hy.1
  have a4 := hy.2
  have b1 := Lw_iadd x.num y.num
  have b2 := Lw_mul x.num.natAbs y.den
  have b3 := Lw_mul y.num.natAbs x.den
  have b4 := Lw_mul x.den y.den
  have b5 := Lw_iadd (x.num * y.den) (y.num * x.den)
  have b6 := Lw_imul x.num y.den
  have b7 := Lw_imul y.num x.den
  rw [Int.natAbs_natCast] at b6 b7
  refine meets_of_vc (Y := {}) (N := 50) (rs := [.cell 4 46]) mix tk hG Tryz.func57 rfl (by kernel_rfl) rfl rfl (by simp) (by kernel_rfl) ?_
  simp (maxSteps := 10000000) only [↓sx, sx, ↓ty, ↓reduceIte, Nat.reduceEqDiff, Nat.reduceAdd, ne_eq, not_false_eq_true, List.getElem?_cons_zero, List.getElem?_cons_succ, Nat.reduceAdd, qP_c]
  refine CallT.mk (cmp_n hG x.den y.den (by omega) (by omega)) ?_
  simp (maxSteps := 10000000) only [↓sx, sx, ↓reduceIte, Nat.reduceEqDiff, Nat.reduceAdd, Nat.reduceLeDiff, ne_eq, not_false_eq_true, Nat.reduceAdd, iP_c, cmp_den]
  refine vcIf_b (fun h => ?_) (fun h => ?_)
  · have h : x.den = y.den := by simpa using h
    refine CallT.mk (plus2_n hG x.num y.num (by omega) (by omega)) ?_
    simp (maxSteps := 10000000) only [↓sx, sx, ↓reduceIte, Nat.reduceEqDiff, Nat.reduceAdd, ne_eq, not_false_eq_true, Nat.reduceAdd, zP_c]
    refine CallT.mk (lowest_q hG (x.num + y.num) x.den (x + y) x.den_nz (by omega) (by omega) (add_same h).symm) ?_
    simp (maxSteps := 10000000) only [↓sx, sx, ↓reduceIte, Nat.reduceEqDiff, Nat.reduceAdd, and_self, Bool.and_self, Nat.reduceAdd, Nat.le_refl, qP_c]
  · refine CallT.mk (times_n hG x.num.natAbs y.den (by omega) (by omega)) ?_
    simp (maxSteps := 10000000) only [↓sx, sx, nP_c]
    refine CallT.mk (make2_z hG (decide (x.num < 0)) (x.num.natAbs * y.den) (x.num * y.den) ?_) ?_
    · conv => rhs; rw [← zmk_self x.num]
      unfold zmk; split <;> simp [Int.neg_mul]
    simp (maxSteps := 10000000) only [↓sx, sx, ↓reduceIte, Nat.reduceEqDiff, Nat.reduceAdd, ne_eq, not_false_eq_true, and_self, Bool.and_self, Nat.reduceAdd, Nat.le_refl, zP_c]
    refine CallT.mk (times_n hG y.num.natAbs x.den (by omega) (by omega)) ?_
    simp (maxSteps := 10000000) only [↓sx, sx, nP_c]
    refine CallT.mk (make2_z hG (decide (y.num < 0)) (y.num.natAbs * x.den) (y.num * x.den) ?_) ?_
    · conv => rhs; rw [← zmk_self y.num]
      unfold zmk; split <;> simp [Int.neg_mul]
    simp (maxSteps := 10000000) only [↓sx, sx, ↓reduceIte, Nat.reduceEqDiff, Nat.reduceAdd, and_self, Bool.and_self, Nat.reduceAdd, Nat.le_refl, zP_c]
    refine CallT.mk (plus2_n hG (x.num * y.den) (y.num * x.den) (by omega) (by omega)) ?_
    simp (maxSteps := 10000000) only [↓sx, sx, ↓reduceIte, Nat.reduceEqDiff, Nat.reduceAdd, ne_eq, not_false_eq_true, Nat.reduceAdd, zP_c]
    refine CallT.mk (times_n hG x.den y.den (by omega) (by omega)) ?_
    simp (maxSteps := 10000000) only [↓sx, sx, nP_c]
    refine CallT.mk (lowest_q hG (x.num * y.den + y.num * x.den) (x.den * y.den) (x + y) (Nat.mul_ne_zero x.den_nz y.den_nz) (by omega) (by omega) (Rat.add_def _ _).symm) ?_
    simp (maxSteps := 10000000) only [↓sx, sx, ↓reduceIte, Nat.reduceEqDiff, Nat.reduceAdd, and_self, Bool.and_self, Nat.reduceAdd, Nat.le_refl, qP_c]
set_option maxRecDepth 100000 in
set_option maxHeartbeats 4000000 in
theorem mul3_n (x y : Rat) (hx : Sz 40000 x) (hy : Sz 40000 y) : Meets Tryz.prog G 58 [qP x, qP y] (qP (x * y)) := by
  have a1 := hx.1
  have a2 := hx.2
  have a3 := hy.1
  have a4 := hy.2
  have b4 := Lw_mul x.den y.den
  have b6 := Lw_imul x.num y.num
  refine meets_of_vc (Y := {}) (N := 16) (rs := [.cell 4 46]) mix tk hG Tryz.func58 rfl (by kernel_rfl) rfl rfl (by simp) (by kernel_rfl) ?_
  simp (maxSteps := 10000000) only [↓sx, sx, ↓ty, ↓reduceIte, Nat.reduceEqDiff, Nat.reduceAdd, Nat.reduceLeDiff, ne_eq, not_false_eq_true, List.getElem?_cons_zero, List.getElem?_cons_succ, Nat.reduceAdd, qP_c]
  refine CallT.mk (times2_n hG x.num y.num (by omega) (by omega)) ?_
  simp (maxSteps := 10000000) only [↓sx, sx, ↓reduceIte, Nat.reduceEqDiff, Nat.reduceAdd, ne_eq, not_false_eq_true, Nat.reduceAdd, zP_c]
  refine CallT.mk (times_n hG x.den y.den (by omega) (by omega)) ?_
  simp (maxSteps := 10000000) only [↓sx, sx, nP_c]
  refine CallT.mk (lowest_q hG (x.num * y.num) (x.den * y.den) (x * y) (Nat.mul_ne_zero x.den_nz y.den_nz) (by omega) (by omega) (Rat.mul_def _ _).symm) ?_
  simp (maxSteps := 10000000) only [↓sx, sx, ↓reduceIte, Nat.reduceAdd, and_self, Bool.and_self, Nat.reduceAdd, Nat.le_refl, qP_c]
set_option maxRecDepth 100000 in
set_option maxHeartbeats 4000000 in
theorem sign3_n (x : Rat) : Meets Tryz.prog G 24 [qP x] (iP x.num.sign) := by
  refine meets_of_vc (Y := {}) (N := 6) (rs := [.tmp 2]) mix tk hG Tryz.func24 rfl (by kernel_rfl) rfl rfl (by simp) (by kernel_rfl) ?_
  simp (maxSteps := 10000000) only [↓sx, sx, ↓ty, ↓reduceIte, Nat.reduceEqDiff, Nat.reduceAdd, Nat.reduceLeDiff, ne_eq, not_false_eq_true, List.getElem?_cons_zero, Nat.reduceAdd, qP_c]
  refine CallT.mk (signum_n hG x.num) ?_
  simp (maxSteps := 10000000) only [↓sx, sx, iP_c]
set_option maxRecDepth 100000 in
set_option maxHeartbeats 4000000 in
theorem cmp3_n (x y : Rat) (hx : Sz 40000 x) (hy : Sz 40000 y) : Meets Tryz.prog G 72 [qP x, qP y] (iP (x - y).num.sign) := by
  have a1 := hx.1
  have a2 := hx.2
  have a3 := hy.1
  have a4 := hy.2
  have b6 := Lw_imul x.num y.den
  have b7 := Lw_imul y.num x.den
  rw [Int.natAbs_natCast] at b6 b7
  refine meets_of_vc (Y := {}) (N := 42) (rs := [.tmp 4]) mix tk hG Tryz.func72 rfl (by kernel_rfl) rfl rfl (by simp) (by kernel_rfl) ?_
  simp (maxSteps := 10000000) only [↓sx, sx, ↓ty, ↓reduceIte, Nat.reduceEqDiff, Nat.reduceAdd, List.getElem?_cons_zero, List.getElem?_cons_succ, Nat.reduceAdd, Nat.le_refl, qP_c]
  refine CallT.mk (sign3_n hG x) ?_
  simp (maxSteps := 10000000) only [↓sx, sx, ↓reduceIte, Nat.reduceEqDiff, Nat.reduceAdd, Nat.reduceAdd, Nat.le_refl, iP_c]
  refine CallT.mk (sign3_n hG y) ?_
  simp (maxSteps := 10000000) only [↓sx, sx, ↓reduceIte, Nat.reduceEqDiff, Nat.reduceAdd, ne_eq, not_false_eq_true, Nat.reduceAdd, iP_c]
  rw [sub_sign_num]
  have hsx : ∀ z : Int, ∀ d : Nat, d ≠ 0 → (z * d).sign = z.sign := by
    intro z d hd
    rw [Int.sign_mul, Int.sign_eq_one_of_pos (show (0 : Int) < d by omega), Int.mul_one]
  have hcx := hsx x.num y.den y.den_nz
  have hcy := hsx y.num x.den x.den_nz
  have key : x.num.sign ≠ y.num.sign → (x.num * y.den - y.num * x.den).sign = if x.num.sign < y.num.sign then -1 else 1 := by
    rw [← hcx, ← hcy]
    generalize x.num * (y.den : Int) = a
    generalize y.num * (x.den : Int) = b
    intro h
    rcases Int.lt_trichotomy a 0 with h1 | h1 | h1 <;> rcases Int.lt_trichotomy b 0 with h2 | h2 | h2 <;>
      simp [h1, h2, Int.sign_eq_neg_one_of_neg, Int.sign_eq_one_of_pos] at h ⊢ <;> omega
  refine vcIf_b (fun h => ?_) (fun h => ?_)
  · have h : x.num.sign ≠ y.num.sign := by simpa using h
    rw [key h]
    refine vcIf_dec (fun h3 => ?_) (fun h3 => ?_)
    · rw [if_pos h3]
    · rw [if_neg h3]
  · refine CallT.mk (times_n hG x.num.natAbs y.den (by omega) (by omega)) ?_
    simp (maxSteps := 10000000) only [↓sx, sx, nP_c]
    refine CallT.mk (make2_z hG (decide (x.num < 0)) (x.num.natAbs * y.den) (x.num * y.den) ?_) ?_
    · conv => rhs; rw [← zmk_self x.num]
      unfold zmk; split <;> simp [Int.neg_mul]
    simp (maxSteps := 10000000) only [↓sx, sx, ↓reduceIte, Nat.reduceEqDiff, Nat.reduceAdd, and_self, Bool.and_self, Nat.reduceAdd, Nat.le_refl, zP_c]
    refine CallT.mk (times_n hG y.num.natAbs x.den (by omega) (by omega)) ?_
    simp (maxSteps := 10000000) only [↓sx, sx, nP_c]
    refine CallT.mk (make2_z hG (decide (y.num < 0)) (y.num.natAbs * x.den) (y.num * x.den) ?_) ?_
    · conv => rhs; rw [← zmk_self y.num]
      unfold zmk; split <;> simp [Int.neg_mul]
    simp (maxSteps := 10000000) only [↓sx, sx, ↓reduceIte, Nat.reduceEqDiff, Nat.reduceAdd, and_self, Bool.and_self, Nat.reduceAdd, Nat.le_refl, zP_c]
    refine CallT.mk (cmp2_n hG (x.num * y.den) (y.num * x.den) (by omega) (by omega)) ?_
    simp (maxSteps := 10000000) only [↓sx, sx, iP_c]
end Go.Proofs.YtnlabeglboomlaaGreatDoor.S
namespace Go.Proofs.YtnlabeglboomlaaGreatDoor.S
open Go Go.Sx Go.RowKit Gb
variable {G : World → Prop} (hG : ∀ w w', G w → Below w.heap.size w w' → G w')
include hG
set_option maxRecDepth 100000 in
set_option maxHeartbeats 4000000 in
theorem from3_n (l : List UInt8) (hl : l.length < 300000) : Meets Tryz.prog G 23 [strP l] (.tup [qP (if isRat l then ratOf l else 0), .val (.bool (isRat l))]) := by
  have hlen := splitM_len l
  have hs := splitM_inv l
  have hR : isRat l = (isInt (splitM l).1 && isNat (splitM l).2.1 && (!(splitM l).2.2 || (decide (1 < natOf (splitM l).2.1) && decide (intOf (splitM l).1 ≠ 0) && decide (Nat.gcd (intOf (splitM l).1).natAbs (natOf (splitM l).2.1) = 1)))) := rfl
  have hq : isRat l = true → qP (ratOf l) = .agg [.val (.bool (decide (intOf (splitM l).1 < 0))), nP (intOf (splitM l).1).natAbs, nP (natOf (splitM l).2.1)] := by
    intro h
    have := ratOf_spec h
    unfold qP
    rw [this.1, this.2]
  have hT := fun h => Sz.text (l := l) h
  have hT2 := fun h => ratOf_spec (l := l) h
  refine meets_of_vc (Y := {}) (N := 60) (rs := [.cell 2 46, .tmp 3]) mix tk hG Tryz.func23 rfl (by kernel_rfl) rfl rfl (by simp) (by kernel_rfl) ?_
  simp (maxSteps := 10000000) only [↓sx, sx, ↓ty, ↓reduceIte, Nat.reduceEqDiff, pc]
  refine CallT.mk (split_n hG l (by omega)) ?_
  simp (maxSteps := 10000000) only [↓sx, sx, ↓reduceIte, Nat.reduceEqDiff, pc]
  generalize splitM l = q at *
  obtain ⟨p, d, s⟩ := q
  dsimp only at *
  refine CallT.mk (valid2_n hG p (by omega)) ?_
  simp (maxSteps := 10000000) only [↓sx, sx, ↓reduceIte, Nat.reduceEqDiff, Nat.reduceLT]
  cases hp : isInt p with
  | false =>
    rw [hp] at hR
    simp only [Bool.false_and] at hR
    simp (maxSteps := 10000000) only [↓sx, sx]
    refine CallT.mk (int3_n hG 0 (by omega) (by omega)) ?_
    simp (maxSteps := 10000000) only [↓sx, sx, ↓ty, ↓reduceIte, Nat.reduceEqDiff, Nat.reduceAdd, pc, ls, bs, and_self, Nat.reduceAdd, Nat.le_refl]
    rw [hR]
    rfl
  | true =>
    simp (maxSteps := 10000000) only [↓sx, sx]
    refine CallT.mk (valid1_n hG d (by omega)) ?_
    simp (maxSteps := 10000000) only [↓sx, sx, ↓reduceIte, Nat.reduceEqDiff, Nat.reduceLT]
    cases hd : isNat d with
    | false =>
      rw [hp, hd] at hR
      simp only [Bool.false_and, Bool.and_false] at hR
      simp (maxSteps := 10000000) only [↓sx, sx]
      refine CallT.mk (int3_n hG 0 (by omega) (by omega)) ?_
      simp (maxSteps := 10000000) only [↓sx, sx, ↓ty, ↓reduceIte, Nat.reduceEqDiff, Nat.reduceAdd, pc, ls, bs, and_self, Nat.reduceAdd, Nat.le_refl]
      rw [hR]
      rfl
    | true =>
      rw [hp, hd] at hR
      simp (maxSteps := 10000000) only [↓sx, sx]
      have lp := Lw_intOf hp
      have ld := Lw_natOf (isNat_iff.1 hd).2.1
      have lp2 : p.length < 400000 := by omega
      have ld2 : d.length < 400000 := by omega
      refine CallT.mk (read2_n hG p hp (by omega)) ?_
      simp (maxSteps := 10000000) only [↓sx, sx, ↓reduceIte, Nat.reduceEqDiff]
      refine CallT.mk (from1_n hG d (by omega) (isNat_iff.1 hd).2.1) ?_
      simp (maxSteps := 10000000) only [↓sx, sx, ↓ty, ↓reduceIte, Nat.reduceEqDiff, Nat.reduceAdd, Nat.reduceLeDiff, pc, ls, bs, and_self, Nat.reduceAdd, Nat.le_refl]
      cases s with
      | false =>
        simp only [Bool.not_false, Bool.true_or, Bool.and_true] at hR
        simp (maxSteps := 10000000) only [↓sx, sx]
        rw [if_pos hR, (hT2 hR).1, (hT2 hR).2, hR]
      | true =>
        simp only [Bool.not_true, Bool.true_and, Bool.false_or] at hR
        simp (maxSteps := 10000000) only [↓sx, sx]
        refine CallT.mk (small_n hG 1 (by omega)) ?_
        simp (maxSteps := 10000000) only [↓sx, sx, ↓ty, ↓reduceIte, Nat.reduceEqDiff, Nat.reduceAdd, ne_eq, not_false_eq_true, pc, ls, Nat.reduceAdd]
        refine CallT.mk (cmp_n hG (natOf d) 1 (by omega) (by rw [Lw_one]; omega)) ?_
        have bad : isRat l = false → Meets Tryz.prog G 53 [.val (.int .i64 0)] (qP (if isRat l then ratOf l else 0)) := by
          intro h
          rw [h]
          exact int3_n hG 0 (by omega) (by omega)
        by_cases g1 : 1 < natOf d
        · rw [show cmpI (natOf d : Int) (1 : Nat) = 1 by unfold cmpI; rw [if_neg (by omega), if_pos (by omega)]]
          simp only [g1, decide_true, Bool.true_and] at hR
          simp (maxSteps := 10000000) only [↓sx, sx, ↓ty, ↓reduceIte, Nat.reduceEqDiff, Nat.reduceAdd, Nat.reduceLeDiff, Nat.reduceLT, ne_eq, not_false_eq_true, pc, ls, Nat.reduceAdd]
          refine CallT.mk (t := ⟨⟩) (signum_n hG (Gb.intOf p)) ?_
          by_cases g2 : Gb.intOf p = 0
          · have hR : isRat l = false := by rw [hR, g2]; simp
            rw [g2]
            simp (maxSteps := 10000000) only [↓sx, sx, ↓reduceIte, Nat.reduceEqDiff, Nat.reduceLT, Int.reduceBNe, pc, Int.sign_zero]
            refine CallT.mk (t := ⟨⟩) (bad hR) ?_
            simp (maxSteps := 10000000) only [↓sx, sx, ↓ty, ↓reduceIte, Nat.reduceEqDiff, Nat.reduceAdd, pc, ls, bs, and_self, Nat.reduceAdd, Nat.le_refl]
            rw [hR]
          · simp (maxSteps := 10000000) only [↓sx, sx, ↓ty, ↓reduceIte, Nat.reduceEqDiff, Nat.reduceAdd, Nat.reduceLT, ne_eq, not_false_eq_true, pc, ls, Nat.reduceAdd]
            have g3 : (Gb.intOf p).sign ≠ 0 := by simpa using g2
            refine vcIf_b (fun h => ?_) (fun h => by simp [g3] at h)
            have hgl : Lw ((Gb.intOf p).natAbs.gcd (natOf d)) ≤ Lw (natOf d) := Lw_mono (Nat.gcd_le_right _ (by omega))
            refine CallT.mk (t := ⟨⟩) (common_n hG (Gb.intOf p).natAbs (natOf d) (by omega) (by omega)) ?_
            simp (maxSteps := 10000000) only [↓sx, sx, ↓reduceIte, Nat.reduceEqDiff, Nat.reduceLT, pc]
            refine CallT.mk (t := ⟨⟩) (cmp_n hG _ 1 (by omega) (by rw [Lw_one]; omega)) ?_
            simp (maxSteps := 10000000) only [↓sx, sx, ↓ty, ↓reduceIte, Nat.reduceEqDiff, Nat.reduceAdd, Nat.reduceLT, pc, ls, bs, and_self, Nat.reduceAdd, Nat.le_refl, cmp_den]
            simp only [g2, ne_eq, not_false_eq_true, decide_true, Bool.true_and] at hR
            refine vcIf_b (fun h => ?_) (fun h => ?_)
            · rw [Bool.not_eq_true'] at h
              rw [h] at hR
              refine CallT.mk (t := ⟨⟩) (bad hR) ?_
              simp (maxSteps := 10000000) only [↓sx, sx, ↓ty, ↓reduceIte, Nat.reduceEqDiff, Nat.reduceAdd, pc, ls, bs, and_self, Nat.reduceAdd, Nat.le_refl]
              rw [hR]
            · rw [Bool.not_eq_false'] at h
              rw [h] at hR
              rw [if_pos hR, (hT2 hR).1, (hT2 hR).2, hR]
        · have hR : isRat l = false := by rw [hR]; simp; omega
          have h1 : (cmpI (natOf d : Int) (1 : Nat) > 0) ↔ False := by
            unfold cmpI
            by_cases h : (natOf d : Int) < (1 : Nat)
            · rw [if_pos h]; simp
            · rw [if_neg h, if_neg (by omega)]; simp
          generalize cmpI (natOf d : Int) (1 : Nat) = c at h1
          simp (maxSteps := 10000000) only [↓sx, sx, ↓reduceIte, Nat.reduceEqDiff, Nat.reduceLT, pc, h1, decide_false]
          refine CallT.mk (t := ⟨⟩) (bad hR) ?_
          simp (maxSteps := 10000000) only [↓sx, sx, ↓ty, ↓reduceIte, Nat.reduceEqDiff, Nat.reduceAdd, pc, ls, bs, and_self, Nat.reduceAdd, Nat.le_refl]
          rw [hR]
end Go.Proofs.YtnlabeglboomlaaGreatDoor.S
namespace Go.Proofs.YtnlabeglboomlaaGreatDoor.S
open Go Go.Sx Go.RowKit Gb
variable {G : World → Prop} (hG : ∀ w w', G w → Below w.heap.size w w' → G w')
include hG
set_option maxRecDepth 100000 in
set_option maxHeartbeats 8000000 in
theorem ntrim_c (l0 : List Int) (hl0 : l0.length < 1000000000000) : Meets Tryz.prog G 202 [.sl l0.length (l0.map wv)] (wsP (trimL l0)) := by
  refine meets_of_vc (Y := {}) (N := 21) (rs := [.tmp 2]) mix tk hG Tryz.func202 rfl (by kernel_rfl) rfl rfl (by simp) (by kernel_rfl) ?_
  simp (maxSteps := 10000000) only [↓sx, sx, ↓ty, wsP_c]
  refine loopK_of (fun l : List Int => [(0, .p (.sl l.length (l.map wv)))]) (fun _ => []) (fun _ => []) (fun l => l.length < 1000000000000 ∧ trimL l = trimL l0) (fun l => l.length) l0 ⟨hl0, rfl⟩ ?_ ?_
  · simp (maxSteps := 10000000) only [isE_nil, is_cons, bo_p, all_nil', ↓sx, sx, ↓reduceIte, Nat.reduceEqDiff]
  · rintro l ⟨hl, ht⟩
    simp (maxSteps := 10000000) only [↓sx, sx, ↓ty, ↓reduceIte, Nat.reduceEqDiff, Nat.reduceLT, wv_c]
    refine vcIf_dec (fun h => ?_) (fun h => ?_)
    · have hw : IntKind.i64.wrap (l.length - 1 : Int) = ((l.length - 1 : Nat) : Int) := by rw [i64_id] <;> omega
      rw [hw]
      simp only [Int.toNat_natCast]
      refine ⟨⟨by omega, by omega, by omega⟩, by omega, ?_⟩
      rw [trimL, dif_neg (by intro h0; rw [h0] at h; simp at h)] at ht
      refine vcIf_b (fun hz => ?_) (fun hz => ?_)
      · rw [beq_iff_eq] at hz
        rw [if_pos hz, List.dropLast_eq_take] at ht
        refine ⟨⟨by omega, by omega, by omega⟩, NextK.mk (l.take (l.length - 1)) ?_ ⟨?_, ht⟩ ?_⟩
        · simp; omega
        · simp; omega
        · simp (maxSteps := 10000000) only [isE_nil, is_cons, bo_p, all_nil', ↓sx, sx, ↓reduceIte]
          simp [hw]
      · rw [beq_eq_false_iff_ne] at hz
        rw [if_neg hz] at ht
        rw [← ht]
    · have h0 : l = [] := List.eq_nil_of_length_eq_zero (by omega)
      subst h0
      rw [trimL, dif_pos rfl] at ht
      rw [← ht]
theorem ntrim_n (l : List Int) (hl : l.length < 1000000000000) (hd : Dig l) (n : Nat) (hv : val l = n) : Meets Tryz.prog G 202 [.sl l.length (l.map wv)] (nP n) := by
  have := ntrim_c hG l hl
  rwa [trimL_wl hd hv] at this
set_option maxRecDepth 100000 in
set_option maxHeartbeats 8000000 in
theorem isNaNi_n (n : Int) : Meets Tryz.prog G 245 [.val (.int .i64 n)] (.val (.bool false)) := by
  refine meets_of_vc (Y := {}) (N := 6) (rs := [.tmp 2]) mix tk hG Tryz.func245 rfl (by kernel_rfl) rfl rfl (by simp) (by kernel_rfl) ?_
  simp (maxSteps := 10000000) only [↓sx, sx, ↓reduceIte, Nat.reduceEqDiff]
  simp
set_option maxRecDepth 100000 in
set_option maxHeartbeats 8000000 in
theorem isNaNu_n (n : Int) : Meets Tryz.prog G 246 [.val (.int .u32 n)] (.val (.bool false)) := by
  refine meets_of_vc (Y := {}) (N := 6) (rs := [.tmp 2]) mix tk hG Tryz.func246 rfl (by kernel_rfl) rfl rfl (by simp) (by kernel_rfl) ?_
  simp (maxSteps := 10000000) only [↓sx, sx, ↓reduceIte, Nat.reduceEqDiff]
  simp
set_option maxRecDepth 100000 in
set_option maxHeartbeats 8000000 in
theorem cmpi_n (x y : Int) : Meets Tryz.prog G 225 [.val (.int .i64 x), .val (.int .i64 y)] (iP (cmpI x y)) := by
  refine meets_of_vc (Y := {}) (N := 20) (rs := [.tmp 4]) mix tk hG Tryz.func225 rfl (by kernel_rfl) rfl rfl (by simp) (by kernel_rfl) ?_
  simp (maxSteps := 10000000) only [↓sx, sx, ↓reduceIte, Nat.reduceEqDiff, iP_c]
  refine CallT.mk (isNaNi_n hG x) ?_
  simp (maxSteps := 10000000) only [↓sx, sx, ↓reduceIte, Nat.reduceEqDiff]
  refine CallT.mk (isNaNi_n hG y) ?_
  simp (maxSteps := 10000000) only [↓sx, sx, ↓reduceIte, Nat.reduceEqDiff]
  refine vcIf_dec (fun h => ?_) (fun h => ?_)
  · rw [cmpI, if_pos h]
  · refine vcIf_dec (fun h2 => ?_) (fun h2 => ?_)
    · rw [cmpI, if_neg h, if_pos h2]
    · rw [cmpI, if_neg h, if_neg h2]
set_option maxRecDepth 100000 in
set_option maxHeartbeats 8000000 in
theorem cmpu_n (x y : Int) : Meets Tryz.prog G 226 [.val (.int .u32 x), .val (.int .u32 y)] (iP (cmpI x y)) := by
  refine meets_of_vc (Y := {}) (N := 20) (rs := [.tmp 4]) mix tk hG Tryz.func226 rfl (by kernel_rfl) rfl rfl (by simp) (by kernel_rfl) ?_
  simp (maxSteps := 10000000) only [↓sx, sx, ↓reduceIte, Nat.reduceEqDiff, iP_c]
  refine CallT.mk (isNaNu_n hG x) ?_
  simp (maxSteps := 10000000) only [↓sx, sx, ↓reduceIte, Nat.reduceEqDiff]
  refine CallT.mk (isNaNu_n hG y) ?_
  simp (maxSteps := 10000000) only [↓sx, sx, ↓reduceIte, Nat.reduceEqDiff]
  refine vcIf_dec (fun h => ?_) (fun h => ?_)
  · rw [cmpI, if_pos h]
  · refine vcIf_dec (fun h2 => ?_) (fun h2 => ?_)
    · rw [cmpI, if_neg h, if_pos h2]
    · rw [cmpI, if_neg h, if_neg h2]
set_option maxRecDepth 100000 in
set_option maxHeartbeats 8000000 in
theorem ncmp_n (a b : Nat) (ha : Lw a < 1000000000) (hb : Lw b < 1000000000) : Meets Tryz.prog G 208 [nP a, nP b] (iP (cmpI a b)) := by
  refine meets_of_vc (Y := {}) (N := 41) (rs := [.tmp 4]) mix tk hG Tryz.func208 rfl (by kernel_rfl) rfl rfl (by simp) (by kernel_rfl) ?_
  unfold Lw at ha hb
  rw [show nP a = .sl (wl a).length ((wl a).map wv) from rfl, show nP b = .sl (wl b).length ((wl b).map wv) from rfl]
  have hA := wl_norm a
  have hB := wl_norm b
  have hva := wl_val a
  have hvb := wl_val b
  generalize wl a = A at *
  generalize wl b = B at *
  simp (maxSteps := 10000000) only [↓sx, sx, ↓ty, ↓reduceIte, Nat.reduceEqDiff, iP_c]
  refine vcIf_b (fun hl => ?_) (fun hl => ?_)
  · rw [bne_iff_ne] at hl
    refine CallT.mk (cmpi_n hG _ _) ?_
    simp (maxSteps := 10000000) only [↓sx, sx, ↓reduceIte, iP_c]
    have : cmpI (A.length : Int) (B.length : Int) = cmpI a b := by
      by_cases h : A.length < B.length
      · have := hB.len_lt hA.1 (by omega)
        unfold cmpI
        rw [if_pos (by omega), if_pos (by omega)]
      · have := hA.len_lt hB.1 (by omega)
        unfold cmpI
        rw [if_neg (by omega), if_pos (by omega), if_neg (by omega), if_pos (by omega)]
    rw [this]
  · have hl : A.length = B.length := by simp at hl; omega
    have hw : IntKind.i64.wrap ((A.length : Int) - 1) = (A.length : Int) - 1 := i64_id (by omega) (by omega)
    rw [hw]
    refine loopK_of (fun n : Nat => [(0, .p (.sl A.length (A.map wv))), (1, .p (.sl B.length (B.map wv))), (5, .p (.val (.int .i64 ((n : Int) - 1))))]) (fun _ => []) (fun _ => []) (fun n => n ≤ A.length ∧ val (A.drop n) = val (B.drop n)) (fun n => n) A.length ⟨Nat.le_refl _, ?_⟩ ?_ ?_
    · rw [List.drop_length, hl, List.drop_length]
    · simp (maxSteps := 10000000) only [isE_nil, is_cons, bo_p, all_nil', ↓sx, sx, ↓reduceIte, Nat.reduceEqDiff]
    · rintro n ⟨h1, h2⟩
      simp (maxSteps := 10000000) only [↓sx, sx, ↓ty, ↓reduceIte, Nat.reduceEqDiff, wv_c]
      refine vcIf_dec (fun h => ?_) (fun h => ?_)
      · obtain ⟨m, rfl⟩ : ∃ m, n = m + 1 := ⟨n - 1, by omega⟩
        rw [show (((m + 1 : Nat) : Int) - 1) = (m : Int) by omega]
        simp only [Int.toNat_natCast]
        refine ⟨by omega, by omega, by omega, by omega, ?_⟩
        have hx := hA.1.getD m
        have hy := hB.1.getD m
        refine vcIf_b (fun h3 => ?_) (fun h3 => ?_)
        · rw [bne_iff_ne] at h3
          refine ⟨by omega, by omega, by omega, by omega, CallT.mk (cmpu_n hG _ _) ?_⟩
          simp (maxSteps := 10000000) only [↓sx, sx, ↓reduceIte, iP_c]
          have : cmpI (A.getD m 0) (B.getD m 0) = cmpI a b := by
            by_cases h4 : A.getD m 0 < B.getD m 0
            · have := cmp_drop A B hA.1 hB.1 m h2 h4 (by omega) (by omega)
              unfold cmpI
              rw [if_pos (by omega), if_pos (by omega)]
            · have := cmp_drop B A hB.1 hA.1 m h2.symm (by omega) (by omega) (by omega)
              unfold cmpI
              rw [if_neg (by omega), if_pos (by omega), if_neg (by omega), if_pos (by omega)]
          rw [this]
        · have h3 : A.getD m 0 = B.getD m 0 := by simpa using h3
          refine NextK.mk m (by omega) ⟨by omega, ?_⟩ ?_
          · rw [val_drop' A m, val_drop' B m, h2]; omega
          · simp (maxSteps := 10000000) only [isE_nil, is_cons, bo_p, all_nil', ↓sx, sx, ↓reduceIte, Nat.reduceEqDiff, i64_id (x := (m : Int) - 1) (by omega) (by omega)]
      · obtain rfl : n = 0 := by omega
        simp only [List.drop_zero] at h2
        rw [cmpI, if_neg (by omega), if_neg (by omega)]
set_option maxRecDepth 100000 in
set_option maxHeartbeats 8000000 in
theorem nsmall_n (a : Nat) (ha : Lw a < 1000000000) : Meets Tryz.prog G 184 [nP a] (.tup [.val (.int .u64 (if Lw a ≤ 2 then a else 0 : Nat)), .val (.bool (decide (Lw a ≤ 2)))]) := by
  refine meets_of_vc (Y := {}) (N := 26) (rs := [.tmp 2, .tmp 3]) mix tk hG Tryz.func184 rfl (by kernel_rfl) rfl rfl (by simp) (by kernel_rfl) ?_
  unfold Lw at *
  rw [show nP a = .sl (wl a).length ((wl a).map wv) from rfl]
  have hA := wl_norm a
  have hva := wl_val a
  generalize wl a = A at *
  simp (maxSteps := 10000000) only [↓sx, sx, ↓ty, ↓reduceIte, Nat.reduceEqDiff, wv_c]
  refine vcIf_b (fun h0 => ?_) (fun h0 => ?_)
  · have h0 : A.length = 0 := by simp at h0; simpa using h0
    have : A = [] := List.eq_nil_of_length_eq_zero h0
    subst this
    rw [val_nil] at hva
    obtain rfl : a = 0 := by omega
    rfl
  · have h0 : A.length ≠ 0 := by simp at h0; simpa using h0
    refine vcIf_b (fun h1 => ?_) (fun h1 => ?_)
    · have h1 : A.length = 1 := by rw [beq_iff_eq] at h1; omega
      refine ⟨by omega, ?_⟩
      obtain ⟨x, rfl⟩ := List.length_eq_one_iff.1 h1
      have hx := hA.1.head
      simp [val] at hva
      rw [u64_id (by simpa using hx.1) (by simp; omega)]
      simp
      omega
    · have h1 : A.length ≠ 1 := by intro h; rw [h] at h1; simp at h1
      refine vcIf_b (fun h2 => ?_) (fun h2 => ?_)
      · have h2 : A.length = 2 := by rw [beq_iff_eq] at h2; omega
        obtain ⟨x, y, rfl⟩ : ∃ x y, A = [x, y] := by
          match A, h2 with
          | [x, y], _ => exact ⟨x, y, rfl⟩
        have hx := hA.1.head
        have hy := hA.1.tail.head
        simp [val] at hva
        refine ⟨by simp, by simp, ?_⟩
        simp only [List.getD_cons_zero, show Int.toNat 1 = 1 from rfl, List.getD_cons_succ, List.length_cons, List.length_nil]
        refine ⟨⟨by omega, by omega, by omega⟩, by omega, ?_⟩
        rw [u64_id (x := y) (by omega) (by omega), u64_id (x := x) (by omega) (by omega), u64_id (x := 1000000000 * y) (by omega) (by omega), u64_id (x := x + 1000000000 * y) (by omega) (by omega)]
        simp
        omega
      · have h2 : A.length ≠ 2 := by intro h; rw [h] at h2; simp at h2
        rw [if_neg (by omega), decide_eq_false (by omega)]
        rfl
set_option maxRecDepth 100000 in
set_option maxHeartbeats 8000000 in
theorem nof_n (n : Nat) (hn : n < 1000000000000000000) : Meets Tryz.prog G 185 [.val (.int .u64 n)] (nP n) := by
  refine meets_of_vc (Y := {}) (N := 11) (rs := [.tmp 2]) mix tk hG Tryz.func185 rfl (by kernel_rfl) rfl rfl (by simp) (by kernel_rfl) ?_
  simp (maxSteps := 10000000) only [↓sx, sx, ↓ty, ↓reduceIte, Nat.reduceEqDiff, Nat.reduceAdd, Nat.reduceLeDiff, Int.reduceEq, ne_eq, not_false_eq_true]
  have e1 : IntKind.u32.wrap ((n : Int).tmod 1000000000) = (n : Int) % 1000000000 := by rw [tmod_pos (by omega), u32_id (by omega) (by omega)]
  have e2 : IntKind.u32.wrap (IntKind.u64.wrap ((n : Int).tdiv 1000000000)) = (n : Int) / 1000000000 := by rw [tdiv_pos (by omega), u64_id (by omega) (by omega), u32_id (by omega) (by omega)]
  refine CallT.to (ntrim_n hG [(n : Int) % 1000000000, (n : Int) / 1000000000] (by simp) (Dig.cons (by omega) (by omega) (Dig.cons (by omega) (by omega) Dig.nil)) n (by simp [val]; omega)) (by rw [e1, e2]; rfl) ?_
  simp (maxSteps := 10000000) only [↓sx, sx, ↓reduceIte]
end Go.Proofs.YtnlabeglboomlaaGreatDoor.S
