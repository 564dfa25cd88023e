/-
  Contracts of functions of the program, over the logic of the texts before. Nothing is assumed.
-/
import Derived.Test.YtkhinhepefmdhaaGreatT2
import Derived.Test.YtkhinhepefmdhaaGreatRows

open Go Go.AL Go.Proofs
namespace S
def L : Lay := .node (.node (.node (.node (.node (.node (.node (.node .nil 1 ⟨.prim, 8, .nilf, none⟩ .nil) 2 ⟨.int .i64, 8, .int .i64 0, none⟩ (.node .nil 3 ⟨.int .i64, 8, .int .i64 0, none⟩ .nil)) 4 ⟨.bool, 1, .ff, none⟩ (.node (.node .nil 5 ⟨.int .u8, 1, .int .u8 0, none⟩ .nil) 6 ⟨.int .u8, 1, .int .u8 0, none⟩ (.node .nil 7 ⟨.struct [(0, 1, 2), (1, 1, 3), (2, 1, 4), (3, 1, 6)], 24, .ag [.int .i64 0, .int .i64 0, .ff, .int .u8 0], none⟩ .nil))) 8 ⟨.struct [(0, 1, 2), (1, 1, 3), (2, 1, 4), (3, 1, 6)], 24, .ag [.int .i64 0, .int .i64 0, .ff, .int .u8 0], none⟩ (.node (.node (.node .nil 9 ⟨.str, 16, .str [], none⟩ .nil) 10 ⟨.str, 16, .str [], none⟩ (.node .nil 11 ⟨.str, 16, .str [], none⟩ .nil)) 12 ⟨.int .u64, 8, .int .u64 0, none⟩ (.node (.node .nil 13 ⟨.struct [(0, 1, 9), (1, 1, 12)], 24, .ag [.str [], .int .u64 0], none⟩ .nil) 14 ⟨.struct [(0, 1, 9), (1, 1, 12)], 24, .ag [.str [], .int .u64 0], none⟩ (.node .nil 15 ⟨.ptr 258, 8, .nilp, none⟩ .nil)))) 16 ⟨.ptr 261, 8, .nilp, none⟩ (.node (.node (.node (.node .nil 17 ⟨.ptr 270, 8, .nilp, none⟩ .nil) 18 ⟨.struct [(0, 1, 17)], 8, .ag [.nilp], none⟩ (.node .nil 19 ⟨.struct [(0, 1, 17)], 8, .ag [.nilp], none⟩ .nil)) 20 ⟨.iface, 16, .nilI, none⟩ (.node (.node .nil 21 ⟨.int .i32, 4, .int .i32 0, none⟩ .nil) 22 ⟨.slice 100, 24, .nils, none⟩ (.node .nil 23 ⟨.slice 37, 24, .nils, none⟩ .nil))) 24 ⟨.struct [(0, 1, 3), (1, 1, 22), (2, 1, 3), (3, 1, 23), (4, 1, 23)], 88, .ag [.int .i64 0, .nils, .int .i64 0, .nils, .nils], none⟩ (.node (.node (.node .nil 25 ⟨.struct [(0, 1, 3), (1, 1, 22), (2, 1, 3), (3, 1, 23), (4, 1, 23)], 88, .ag [.int .i64 0, .nils, .int .i64 0, .nils, .nils], none⟩ .nil) 26 ⟨.slice 3, 24, .nils, none⟩ (.node .nil 27 ⟨.struct [(0, 1, 3), (1, 1, 26)], 32, .ag [.int .i64 0, .nils], none⟩ .nil)) 28 ⟨.struct [(0, 1, 3), (1, 1, 26)], 32, .ag [.int .i64 0, .nils], none⟩ (.node (.node .nil 29 ⟨.prim, 8, .nilf, none⟩ .nil) 30 ⟨.prim, 8, .nilf, none⟩ .nil)))) 31 ⟨.iface, 16, .nilI, none⟩ (.node (.node (.node (.node (.node .nil 32 ⟨.iface, 16, .nilI, none⟩ .nil) 34 ⟨.prim, 8, .nilf, none⟩ (.node .nil 35 ⟨.slice 188, 24, .nils, none⟩ .nil)) 36 ⟨.struct [(0, 1, 4), (1, 1, 35), (2, 1, 35)], 56, .ag [.ff, .nils, .nils], none⟩ (.node (.node .nil 37 ⟨.struct [(0, 1, 4), (1, 1, 35), (2, 1, 35)], 56, .ag [.ff, .nils, .nils], none⟩ .nil) 39 ⟨.prim, 8, .nilf, none⟩ (.node .nil 40 ⟨.slice 4, 24, .nils, none⟩ .nil))) 42 ⟨.prim, 8, .nilf, none⟩ (.node (.node (.node .nil 44 ⟨.prim, 8, .nilf, none⟩ .nil) 45 ⟨.prim, 8, .nilf, none⟩ (.node .nil 46 ⟨.prim, 8, .nilf, none⟩ .nil)) 47 ⟨.prim, 8, .nilf, none⟩ (.node (.node .nil 48 ⟨.prim, 8, .nilf, none⟩ .nil) 49 ⟨.prim, 8, .nilf, none⟩ .nil))) 50 ⟨.prim, 8, .nilf, none⟩ (.node (.node (.node (.node .nil 51 ⟨.prim, 8, .nilf, none⟩ .nil) 52 ⟨.slice 32, 24, .nils, none⟩ (.node .nil 53 ⟨.prim, 8, .nilf, none⟩ .nil)) 55 ⟨.prim, 8, .nilf, none⟩ (.node (.node .nil 57 ⟨.prim, 8, .nilf, none⟩ .nil) 58 ⟨.prim, 8, .nilf, none⟩ (.node .nil 59 ⟨.prim, 8, .nilf, none⟩ .nil))) 60 ⟨.prim, 8, .nilf, none⟩ (.node (.node (.node .nil 61 ⟨.prim, 8, .nilf, none⟩ .nil) 62 ⟨.slice 130, 24, .nils, none⟩ (.node .nil 63 ⟨.slice 156, 24, .nils, none⟩ .nil)) 64 ⟨.slice 124, 24, .nils, none⟩ (.node (.node .nil 65 ⟨.slice 126, 24, .nils, none⟩ .nil) 66 ⟨.slice 132, 24, .nils, none⟩ .nil))))) 67 ⟨.slice 135, 24, .nils, none⟩ (.node (.node (.node (.node (.node (.node .nil 68 ⟨.struct [(0, 1, 9), (1, 1, 9), (2, 1, 62), (3, 1, 63), (4, 1, 64), (5, 1, 65), (6, 1, 66), (7, 1, 67)], 176, .ag [.str [], .str [], .nils, .nils, .nils, .nils, .nils, .nils], none⟩ .nil) 69 ⟨.struct [(0, 1, 9), (1, 1, 9), (2, 1, 62), (3, 1, 63), (4, 1, 64), (5, 1, 65), (6, 1, 66), (7, 1, 67)], 176, .ag [.str [], .str [], .nils, .nils, .nils, .nils, .nils, .nils], none⟩ (.node .nil 70 ⟨.struct [(0, 1, 3), (1, 1, 9), (2, 1, 9), (3, 1, 9)], 56, .ag [.int .i64 0, .str [], .str [], .str []], none⟩ .nil)) 71 ⟨.struct [(0, 1, 3), (1, 1, 9), (2, 1, 9), (3, 1, 9)], 56, .ag [.int .i64 0, .str [], .str [], .str []], none⟩ (.node (.node .nil 72 ⟨.prim, 8, .nilf, none⟩ .nil) 73 ⟨.prim, 8, .nilf, none⟩ (.node .nil 75 ⟨.prim, 8, .nilf, none⟩ .nil))) 77 ⟨.prim, 8, .nilf, none⟩ (.node (.node (.node .nil 78 ⟨.prim, 8, .nilf, none⟩ .nil) 79 ⟨.prim, 8, .nilf, none⟩ (.node .nil 81 ⟨.prim, 8, .nilf, none⟩ .nil)) 83 ⟨.prim, 8, .nilf, none⟩ (.node (.node .nil 85 ⟨.prim, 8, .nilf, none⟩ .nil) 87 ⟨.prim, 8, .nilf, none⟩ .nil))) 88 ⟨.prim, 8, .nilf, none⟩ (.node (.node (.node (.node .nil 89 ⟨.prim, 8, .nilf, none⟩ .nil) 91 ⟨.prim, 8, .nilf, none⟩ (.node .nil 92 ⟨.prim, 8, .nilf, none⟩ .nil)) 94 ⟨.prim, 8, .nilf, none⟩ (.node (.node .nil 96 ⟨.prim, 8, .nilf, none⟩ .nil) 97 ⟨.prim, 8, .nilf, none⟩ (.node .nil 98 ⟨.prim, 8, .nilf, none⟩ .nil))) 99 ⟨.struct [(0, 1, 3), (1, 1, 3), (2, 1, 26), (3, 3, 37)], 96, .ag [.int .i64 0, .int .i64 0, .nils, .ag [.ff, .nils, .nils]], none⟩ (.node (.node (.node .nil 100 ⟨.struct [(0, 1, 3), (1, 1, 3), (2, 1, 26), (3, 3, 37)], 96, .ag [.int .i64 0, .int .i64 0, .nils, .ag [.ff, .nils, .nils]], none⟩ .nil) 101 ⟨.prim, 8, .nilf, none⟩ (.node .nil 102 ⟨.slice 23, 24, .nils, none⟩ .nil)) 103 ⟨.prim, 8, .nilf, none⟩ (.node (.node .nil 104 ⟨.int .i64, 8, .int .i64 0, none⟩ .nil) 105 ⟨.prim, 8, .nilf, none⟩ .nil)))) 106 ⟨.prim, 8, .nilf, none⟩ (.node (.node (.node (.node (.node .nil 107 ⟨.prim, 8, .nilf, none⟩ .nil) 108 ⟨.prim, 8, .nilf, none⟩ (.node .nil 109 ⟨.prim, 8, .nilf, none⟩ .nil)) 110 ⟨.prim, 8, .nilf, none⟩ (.node (.node .nil 111 ⟨.prim, 8, .nilf, none⟩ .nil) 113 ⟨.prim, 8, .nilf, none⟩ (.node .nil 115 ⟨.prim, 8, .nilf, none⟩ .nil))) 116 ⟨.prim, 8, .nilf, none⟩ (.node (.node (.node .nil 117 ⟨.prim, 8, .nilf, none⟩ .nil) 119 ⟨.prim, 8, .nilf, none⟩ (.node .nil 120 ⟨.prim, 8, .nilf, none⟩ .nil)) 121 ⟨.prim, 8, .nilf, none⟩ (.node (.node .nil 122 ⟨.slice 9, 24, .nils, none⟩ .nil) 123 ⟨.struct [(0, 1, 9), (1, 1, 3), (2, 1, 3), (3, 1, 122), (4, 3, 37)], 112, .ag [.str [], .int .i64 0, .int .i64 0, .nils, .ag [.ff, .nils, .nils]], none⟩ .nil))) 124 ⟨.struct [(0, 1, 9), (1, 1, 3), (2, 1, 3), (3, 1, 122), (4, 3, 37)], 112, .ag [.str [], .int .i64 0, .int .i64 0, .nils, .ag [.ff, .nils, .nils]], none⟩ (.node (.node (.node (.node .nil 125 ⟨.struct [(0, 1, 9), (1, 1, 9), (2, 1, 64)], 56, .ag [.str [], .str [], .nils], none⟩ .nil) 126 ⟨.struct [(0, 1, 9), (1, 1, 9), (2, 1, 64)], 56, .ag [.str [], .str [], .nils], none⟩ (.node .nil 127 ⟨.prim, 8, .nilf, none⟩ .nil)) 128 ⟨.prim, 8, .nilf, none⟩ (.node (.node .nil 129 ⟨.struct [(0, 1, 9), (1, 3, 37), (4, 3, 37), (7, 3, 37), (10, 1, 3)], 192, .ag [.str [], .ag [.ff, .nils, .nils], .ag [.ff, .nils, .nils], .ag [.ff, .nils, .nils], .int .i64 0], none⟩ .nil) 130 ⟨.struct [(0, 1, 9), (1, 3, 37), (4, 3, 37), (7, 3, 37), (10, 1, 3)], 192, .ag [.str [], .ag [.ff, .nils, .nils], .ag [.ff, .nils, .nils], .ag [.ff, .nils, .nils], .int .i64 0], none⟩ (.node .nil 131 ⟨.struct [(0, 1, 9), (1, 1, 3), (2, 1, 122), (3, 1, 23)], 72, .ag [.str [], .int .i64 0, .nils, .nils], none⟩ .nil))) 132 ⟨.struct [(0, 1, 9), (1, 1, 3), (2, 1, 122), (3, 1, 23)], 72, .ag [.str [], .int .i64 0, .nils, .nils], none⟩ (.node (.node (.node .nil 133 ⟨.slice 137, 24, .nils, none⟩ .nil) 134 ⟨.struct [(0, 1, 9), (1, 1, 9), (2, 1, 133)], 56, .ag [.str [], .str [], .nils], none⟩ (.node .nil 135 ⟨.struct [(0, 1, 9), (1, 1, 9), (2, 1, 133)], 56, .ag [.str [], .str [], .nils], none⟩ .nil)) 136 ⟨.struct [(0, 1, 9), (1, 3, 37)], 72, .ag [.str [], .ag [.ff, .nils, .nils]], none⟩ (.node (.node .nil 137 ⟨.struct [(0, 1, 9), (1, 3, 37)], 72, .ag [.str [], .ag [.ff, .nils, .nils]], none⟩ .nil) 138 ⟨.prim, 8, .nilf, none⟩ .nil)))))) 139 ⟨.prim, 8, .nilf, none⟩ (.node (.node (.node (.node (.node (.node (.node .nil 140 ⟨.prim, 8, .nilf, none⟩ .nil) 141 ⟨.struct [(0, 1, 3), (1, 1, 3), (2, 1, 3)], 24, .ag [.int .i64 0, .int .i64 0, .int .i64 0], none⟩ (.node .nil 142 ⟨.struct [(0, 1, 3), (1, 1, 3), (2, 1, 3)], 24, .ag [.int .i64 0, .int .i64 0, .int .i64 0], none⟩ .nil)) 143 ⟨.prim, 8, .nilf, none⟩ (.node (.node .nil 145 ⟨.prim, 8, .nilf, none⟩ .nil) 146 ⟨.prim, 8, .nilf, none⟩ (.node .nil 147 ⟨.map 142 3, 8, .nilm, (some (.ag [.int .i64 0, .int .i64 0, .int .i64 0]))⟩ .nil))) 148 ⟨.prim, 8, .nilf, none⟩ (.node (.node (.node .nil 149 ⟨.prim, 8, .nilf, none⟩ .nil) 150 ⟨.prim, 8, .nilf, none⟩ (.node .nil 151 ⟨.prim, 8, .nilf, none⟩ .nil)) 152 ⟨.prim, 8, .nilf, none⟩ (.node (.node .nil 153 ⟨.prim, 8, .nilf, none⟩ .nil) 154 ⟨.prim, 8, .nilf, none⟩ (.node .nil 155 ⟨.struct [(0, 1, 9), (1, 1, 4)], 24, .ag [.str [], .ff], none⟩ .nil)))) 156 ⟨.struct [(0, 1, 9), (1, 1, 4)], 24, .ag [.str [], .ff], none⟩ (.node (.node (.node (.node .nil 157 ⟨.prim, 8, .nilf, none⟩ .nil) 158 ⟨.prim, 8, .nilf, none⟩ (.node .nil 159 ⟨.prim, 8, .nilf, none⟩ .nil)) 160 ⟨.prim, 8, .nilf, none⟩ (.node (.node .nil 161 ⟨.prim, 8, .nilf, none⟩ .nil) 162 ⟨.prim, 8, .nilf, none⟩ (.node .nil 163 ⟨.prim, 8, .nilf, none⟩ .nil))) 164 ⟨.prim, 8, .nilf, none⟩ (.node (.node (.node .nil 166 ⟨.prim, 8, .nilf, none⟩ .nil) 167 ⟨.ptr 170, 8, .nilp, none⟩ (.node .nil 168 ⟨.map 173 3, 8, .nilm, (some (.ag [.int .i64 0, .int .i64 0, .int .i64 0]))⟩ .nil)) 169 ⟨.struct [(0, 8, 69), (8, 5, 25), (13, 1, 168)], 272, .ag [.ag [.str [], .str [], .nils, .nils, .nils, .nils, .nils, .nils], .ag [.int .i64 0, .nils, .int .i64 0, .nils, .nils], .nilm], none⟩ (.node (.node .nil 170 ⟨.struct [(0, 8, 69), (8, 5, 25), (13, 1, 168)], 272, .ag [.ag [.str [], .str [], .nils, .nils, .nils, .nils, .nils, .nils], .ag [.int .i64 0, .nils, .int .i64 0, .nils, .nils], .nilm], none⟩ .nil) 171 ⟨.prim, 8, .nilf, none⟩ .nil)))) 172 ⟨.struct [(0, 1, 3), (1, 1, 3), (2, 1, 3)], 24, .ag [.int .i64 0, .int .i64 0, .int .i64 0], none⟩ (.node (.node (.node (.node (.node .nil 173 ⟨.struct [(0, 1, 3), (1, 1, 3), (2, 1, 3)], 24, .ag [.int .i64 0, .int .i64 0, .int .i64 0], none⟩ .nil) 174 ⟨.prim, 8, .nilf, none⟩ (.node .nil 175 ⟨.prim, 8, .nilf, none⟩ .nil)) 176 ⟨.slice 229, 24, .nils, none⟩ (.node (.node .nil 177 ⟨.struct [(0, 5, 25), (5, 1, 176), (6, 1, 26)], 136, .ag [.ag [.int .i64 0, .nils, .int .i64 0, .nils, .nils], .nils, .nils], none⟩ .nil) 178 ⟨.struct [(0, 5, 25), (5, 1, 176), (6, 1, 26)], 136, .ag [.ag [.int .i64 0, .nils, .int .i64 0, .nils, .nils], .nils, .nils], none⟩ (.node .nil 180 ⟨.prim, 8, .nilf, none⟩ .nil))) 181 ⟨.prim, 8, .nilf, none⟩ (.node (.node (.node .nil 183 ⟨.prim, 8, .nilf, none⟩ .nil) 184 ⟨.prim, 8, .nilf, none⟩ (.node .nil 185 ⟨.prim, 8, .nilf, none⟩ .nil)) 186 ⟨.prim, 8, .nilf, none⟩ (.node (.node .nil 187 ⟨.prim, 8, .nilf, none⟩ .nil) 188 ⟨.int .u32, 4, .int .u32 0, none⟩ .nil))) 190 ⟨.prim, 8, .nilf, none⟩ (.node (.node (.node (.node .nil 191 ⟨.prim, 8, .nilf, none⟩ .nil) 192 ⟨.prim, 8, .nilf, none⟩ (.node .nil 193 ⟨.prim, 8, .nilf, none⟩ .nil)) 194 ⟨.prim, 8, .nilf, none⟩ (.node (.node .nil 196 ⟨.prim, 8, .nilf, none⟩ .nil) 197 ⟨.prim, 8, .nilf, none⟩ (.node .nil 198 ⟨.prim, 8, .nilf, none⟩ .nil))) 199 ⟨.prim, 8, .nilf, none⟩ (.node (.node (.node .nil 200 ⟨.prim, 8, .nilf, none⟩ .nil) 201 ⟨.prim, 8, .nilf, none⟩ (.node .nil 202 ⟨.prim, 8, .nilf, none⟩ .nil)) 204 ⟨.prim, 8, .nilf, none⟩ (.node (.node .nil 205 ⟨.prim, 8, .nilf, none⟩ .nil) 206 ⟨.slice 26, 24, .nils, none⟩ .nil))))) 207 ⟨.prim, 8, .nilf, none⟩ (.node (.node (.node (.node (.node (.node .nil 208 ⟨.prim, 8, .nilf, none⟩ .nil) 209 ⟨.prim, 8, .nilf, none⟩ (.node .nil 210 ⟨.prim, 8, .nilf, none⟩ .nil)) 211 ⟨.prim, 8, .nilf, none⟩ (.node (.node .nil 212 ⟨.prim, 8, .nilf, none⟩ .nil) 213 ⟨.prim, 8, .nilf, none⟩ (.node .nil 214 ⟨.prim, 8, .nilf, none⟩ .nil))) 215 ⟨.prim, 8, .nilf, none⟩ (.node (.node (.node .nil 216 ⟨.prim, 8, .nilf, none⟩ .nil) 217 ⟨.prim, 8, .nilf, none⟩ (.node .nil 218 ⟨.prim, 8, .nilf, none⟩ .nil)) 219 ⟨.prim, 8, .nilf, none⟩ (.node (.node .nil 220 ⟨.prim, 8, .nilf, none⟩ .nil) 221 ⟨.prim, 8, .nilf, none⟩ .nil))) 222 ⟨.prim, 8, .nilf, none⟩ (.node (.node (.node (.node .nil 223 ⟨.prim, 8, .nilf, none⟩ .nil) 224 ⟨.prim, 8, .nilf, none⟩ (.node .nil 225 ⟨.prim, 8, .nilf, none⟩ .nil)) 226 ⟨.prim, 8, .nilf, none⟩ (.node (.node .nil 227 ⟨.prim, 8, .nilf, none⟩ .nil) 228 ⟨.prim, 8, .nilf, none⟩ (.node .nil 229 ⟨.arr 3 3, 24, .ag [.int .i64 0, .int .i64 0, .int .i64 0], none⟩ .nil))) 230 ⟨.prim, 8, .nilf, none⟩ (.node (.node (.node .nil 231 ⟨.prim, 8, .nilf, none⟩ .nil) 232 ⟨.prim, 8, .nilf, none⟩ (.node .nil 233 ⟨.prim, 8, .nilf, none⟩ .nil)) 234 ⟨.prim, 8, .nilf, none⟩ (.node (.node .nil 236 ⟨.prim, 8, .nilf, none⟩ .nil) 237 ⟨.int .u64, 8, .int .u64 0, none⟩ .nil)))) 238 ⟨.int .u64, 8, .int .u64 0, none⟩ (.node (.node (.node (.node (.node .nil 239 ⟨.prim, 8, .nilf, none⟩ .nil) 241 ⟨.prim, 8, .nilf, none⟩ (.node .nil 242 ⟨.prim, 8, .nilf, none⟩ .nil)) 243 ⟨.prim, 8, .nilf, none⟩ (.node (.node .nil 244 ⟨.prim, 8, .nilf, none⟩ .nil) 245 ⟨.prim, 8, .nilf, none⟩ (.node .nil 246 ⟨.prim, 8, .nilf, none⟩ .nil))) 247 ⟨.prim, 8, .nilf, none⟩ (.node (.node (.node .nil 248 ⟨.prim, 8, .nilf, none⟩ .nil) 250 ⟨.prim, 8, .nilf, none⟩ (.node .nil 251 ⟨.prim, 8, .nilf, none⟩ .nil)) 252 ⟨.prim, 8, .nilf, none⟩ (.node (.node .nil 253 ⟨.prim, 8, .nilf, none⟩ .nil) 255 ⟨.prim, 8, .nilf, none⟩ .nil))) 256 ⟨.prim, 8, .nilf, none⟩ (.node (.node (.node (.node .nil 257 ⟨.struct [(0, 1, 17), (1, 1, 17), (2, 1, 17), (3, 1, 9)], 40, .ag [.nilp, .nilp, .nilp, .str []], none⟩ .nil) 258 ⟨.struct [(0, 1, 17), (1, 1, 17), (2, 1, 17), (3, 1, 9)], 40, .ag [.nilp, .nilp, .nilp, .str []], none⟩ (.node .nil 259 ⟨.arr 0 16, 0, .ag [], none⟩ .nil)) 260 ⟨.struct [(0, 0, 259)], 0, .ag [.ag []], none⟩ (.node (.node .nil 261 ⟨.struct [(0, 0, 259)], 0, .ag [.ag []], none⟩ .nil) 262 ⟨.prim, 8, .nilf, none⟩ (.node .nil 263 ⟨.int .u8, 1, .int .u8 0, none⟩ .nil))) 264 ⟨.int .u8, 1, .int .u8 0, none⟩ (.node (.node (.node .nil 265 ⟨.prim, 8, .nilf, none⟩ .nil) 266 ⟨.ptr 5, 8, .nilp, none⟩ (.node .nil 267 ⟨.int .i32, 4, .int .i32 0, none⟩ .nil)) 268 ⟨.int .i32, 4, .int .i32 0, none⟩ (.node (.node .nil 269 ⟨.struct [(0, 1, 12), (1, 1, 12), (2, 1, 188), (3, 1, 263), (4, 1, 5), (5, 1, 5), (6, 1, 264), (7, 1, 265), (8, 1, 266), (9, 1, 267), (10, 1, 268)], 48, .ag [.int .u64 0, .int .u64 0, .int .u32 0, .int .u8 0, .int .u8 0, .int .u8 0, .int .u8 0, .nilf, .nilp, .int .i32 0, .int .i32 0], none⟩ .nil) 270 ⟨.struct [(0, 1, 12), (1, 1, 12), (2, 1, 188), (3, 1, 263), (4, 1, 5), (5, 1, 5), (6, 1, 264), (7, 1, 265), (8, 1, 266), (9, 1, 267), (10, 1, 268)], 48, .ag [.int .u64 0, .int .u64 0, .int .u32 0, .int .u8 0, .int .u8 0, .int .u8 0, .int .u8 0, .nilf, .nilp, .int .i32 0, .int .i32 0], none⟩ .nil))))))
theorem lay : LayOk Tryz.prog L := layB_sound (by kernel_rfl)
theorem mixed : Tryz.prog.follows .mixedOrders = true := by kernel_rfl
end S

open Go Go.AL Go.Proofs
namespace S

abbrev iL (l : List Int) : AV := .sl 1 (l.map (.int .i64)) .no
abbrev wL (l : List Int) : AV := .sl 1 (l.map (.int .u32)) .no
abbrev bL (l : List Bool) : AV := .sl 1 (l.map .bool) .no

structure Rat where
  neg : Bool
  num : List Int
  den : List Int
  deriving DecidableEq, Inhabited

abbrev Rat.av (r : Rat) : AV := .ag [.bool r.neg, wL r.num, wL r.den]

structure Gate where
  kind : Int
  k : Int
  args : List Int
  dorm : Rat
  deriving DecidableEq, Inhabited

abbrev Gate.av (g : Gate) : AV := .ag [.int .i64 g.kind, .int .i64 g.k, iL g.args, g.dorm.av]

structure Dyn where
  vars : Int
  gates : List Gate
  top : Int
  fail : List Rat
  repair : List Rat
  deriving DecidableEq, Inhabited

abbrev Dyn.av (d : Dyn) : AV := .ag [.int .i64 d.vars, .sl 6 (d.gates.map Gate.av) .no, .int .i64 d.top, .sl 3 (d.fail.map Rat.av) .no, .sl 3 (d.repair.map Rat.av) .no]

structure St where
  failed : Int
  memo : List Int
  deriving DecidableEq, Inhabited

abbrev St.av (s : St) : AV := .ag [.int .i64 s.failed, iL s.memo]

theorem OkL_map {α : Type} {f : α → AV} : ∀ {l : List α}, OkL (l.map f) → ∀ x ∈ l, Ok (f x)
  | [], _, x, hx => by simp at hx
  | y :: l, h, x, hx => by
    simp only [List.map_cons, OkL] at h
    rcases List.mem_cons.1 hx with rfl | hx
    · exact h.1
    · exact OkL_map h.2 x hx

theorem Gate.okArgs {g : Gate} (h : Ok g.av) : g.args.length ≤ 9223372036854775807 := by
  have := h.2.2.1.1
  simpa [maxL] using this

theorem Dyn.okGates {d : Dyn} (h : Ok d.av) : ∀ g ∈ d.gates, Ok g.av := OkL_map h.2.1.2

theorem leRL_of {l m : List AV} (h : l = m) : leRL l m := h ▸ leRL_refl l

end S

open Go Go.AL Go.Proofs
namespace S

/-! ### numbers in words of 32 bits -/

/-- The value of words. -/
def val : List Int → Nat
  | [] => 0
  | x :: l => x.toNat + 4294967296 * val l

/-- They are words. -/
def Ws (l : List Int) : Prop := ∀ x ∈ l, 0 ≤ x ∧ x < 4294967296

/-- The words of a number. -/
def wd (n : Nat) : List Int := if h : n = 0 then [] else ((n % 4294967296 : Nat) : Int) :: wd (n / 4294967296)
termination_by n
decreasing_by exact Nat.div_lt_self (by omega) (by omega)

theorem wd_zero : wd 0 = [] := by rw [wd]; simp
theorem wd_pos {n : Nat} (h : n ≠ 0) : wd n = ((n % 4294967296 : Nat) : Int) :: wd (n / 4294967296) := by rw [wd]; simp [h]

theorem Ws.nil : Ws [] := by intro x hx; simp at hx
theorem Ws.cons {x : Int} {l : List Int} (hx : 0 ≤ x ∧ x < 4294967296) (hl : Ws l) : Ws (x :: l) := by
  intro y hy
  rcases List.mem_cons.1 hy with rfl | hy
  · exact hx
  · exact hl y hy
theorem Ws.tail {x : Int} {l : List Int} (h : Ws (x :: l)) : Ws l := fun y hy => h y (by simp [hy])
theorem Ws.head {x : Int} {l : List Int} (h : Ws (x :: l)) : 0 ≤ x ∧ x < 4294967296 := h x (by simp)
theorem Ws.append {l m : List Int} (h : Ws l) (g : Ws m) : Ws (l ++ m) := by
  intro x hx
  rcases List.mem_append.1 hx with hx | hx
  · exact h x hx
  · exact g x hx
theorem Ws.take {l : List Int} (h : Ws l) (n : Nat) : Ws (l.take n) := fun x hx => h x (List.mem_of_mem_take hx)
theorem Ws.drop {l : List Int} (h : Ws l) (n : Nat) : Ws (l.drop n) := fun x hx => h x (List.mem_of_mem_drop hx)
theorem Ws.get {l : List Int} (h : Ws l) {i : Nat} (hi : i < l.length) : 0 ≤ l[i] ∧ l[i] < 4294967296 := h _ (List.getElem_mem hi)
theorem Ws.getD {l : List Int} (h : Ws l) {i : Nat} : 0 ≤ l.getD i 0 ∧ l.getD i 0 < 4294967296 := by
  rw [List.getD_eq_getElem?_getD]
  cases hi : l[i]? with
  | none => exact ⟨Int.le_refl _, by show (0 : Int) < _; omega⟩
  | some x => exact h x (List.mem_of_getElem? hi)
theorem Ws.ok {l : List Int} (h : OkL (l.map (AV.int .u32))) : Ws l := by
  intro x hx
  have := OkL_map h x hx
  simp [Ok, InR, IntKind.min, IntKind.max, IntKind.signed, IntKind.bits] at this
  omega

theorem wd_Ws (n : Nat) : Ws (wd n) := by
  induction n using Nat.strongRecOn with
  | _ n ih =>
    by_cases h : n = 0
    · subst h; rw [wd_zero]; exact Ws.nil
    · rw [wd_pos h]
      exact Ws.cons (by omega) (ih _ (Nat.div_lt_self (by omega) (by omega)))

theorem val_wd (n : Nat) : val (wd n) = n := by
  induction n using Nat.strongRecOn with
  | _ n ih =>
    by_cases h : n = 0
    · subst h; rw [wd_zero]; rfl
    · rw [wd_pos h, val, ih _ (Nat.div_lt_self (by omega) (by omega))]
      omega

theorem val_append : ∀ (l m : List Int), val (l ++ m) = val l + 4294967296 ^ l.length * val m
  | [], m => by simp [val]
  | x :: l, m => by
    simp only [List.cons_append, val, val_append l m, List.length_cons, Nat.pow_succ]
    rw [Nat.mul_add, ← Nat.mul_assoc, Nat.mul_comm 4294967296 (4294967296 ^ l.length)]; omega

theorem val_lt : ∀ {l : List Int}, Ws l → val l < 4294967296 ^ l.length
  | [], _ => by simp [val]
  | x :: l, h => by
    have := val_lt h.tail
    have hx := h.head
    simp only [val, List.length_cons, Nat.pow_succ]
    have : 4294967296 * (val l + 1) ≤ 4294967296 * 4294967296 ^ l.length := Nat.mul_le_mul_left _ (by omega)
    rw [Nat.mul_comm (4294967296 ^ l.length)]
    omega

/-- The last word is not 0. -/
def Pl (l : List Int) : Prop := l = [] ∨ l.getLastD 0 ≠ 0

theorem wd_val : ∀ {l : List Int}, Ws l → Pl l → wd (val l) = l
  | [], _, _ => by rw [val, wd_zero]
  | [x], h, hp => by
    have hx := h.head
    have h0 : x ≠ 0 := by
      rcases hp with hp | hp
      · cases hp
      · simpa using hp
    simp only [val]
    rw [wd_pos (by omega)]
    have e1 : (x.toNat + 4294967296 * 0) % 4294967296 = x.toNat := by omega
    have e2 : (x.toNat + 4294967296 * 0) / 4294967296 = 0 := by omega
    rw [e1, e2, wd_zero]
    simp; omega
  | x :: y :: l, h, hp => by
    have hx := h.head
    have hp' : Pl (y :: l) := by
      rcases hp with hp | hp
      · cases hp
      · exact .inr (by simpa using hp)
    have ih := wd_val h.tail hp'
    have hv : val (y :: l) ≠ 0 := by
      intro e
      rw [e, wd_zero] at ih; cases ih
    rw [val]
    generalize val (y :: l) = n at *
    rw [wd_pos (by omega)]
    have e1 : (x.toNat + 4294967296 * n) % 4294967296 = x.toNat := by omega
    have e2 : (x.toNat + 4294967296 * n) / 4294967296 = n := by omega
    rw [e1, e2, ih]
    congr 1
    omega

theorem wd_Pl (n : Nat) : Pl (wd n) := by
  induction n using Nat.strongRecOn with
  | _ n ih =>
    by_cases h : n = 0
    · subst h; rw [wd_zero]; exact .inl rfl
    · rw [wd_pos h]
      refine .inr ?_
      by_cases h2 : n / 4294967296 = 0
      · rw [h2, wd_zero]
        show ((n % 4294967296 : Nat) : Int) ≠ 0
        omega
      · have := ih (n / 4294967296) (Nat.div_lt_self (by omega) (by omega))
        rcases this with hn | hn
        · rw [wd_pos h2] at hn; cases hn
        · rw [wd_pos h2] at hn ⊢
          simpa using hn

theorem val_zeros : ∀ {l : List Int}, (∀ x ∈ l, x = 0) → val l = 0
  | [], _ => rfl
  | x :: l, h => by
    have h1 := h x (by simp)
    have h2 := val_zeros (l := l) fun y hy => h y (by simp [hy])
    simp [val, h1, h2]

/-- Without the zeros at its end. -/
theorem trim_eq {l : List Int} (hl : Ws l) {n : Nat} (hn : n ≤ l.length) (hz : ∀ k, n ≤ k → l.getD k 0 = 0) (hp : n = 0 ∨ l.getD (n - 1) 0 ≠ 0) : l.take n = wd (val l) := by
  have h1 : val l = val (l.take n) := by
    conv => lhs; rw [← List.take_append_drop n l]
    rw [val_append, val_zeros (l := l.drop n), Nat.mul_zero, Nat.add_zero]
    intro x hx
    obtain ⟨k, hk, rfl⟩ := List.getElem_of_mem hx
    have := hz (n + k) (by omega)
    simp only [List.length_drop] at hk
    rw [List.getD_eq_getElem?_getD, List.getElem?_eq_getElem (by omega)] at this
    simpa [List.getElem_drop] using this
  rw [h1]
  refine (wd_val (hl.take n) ?_).symm
  rcases hp with rfl | hp
  · exact .inl (by simp)
  · by_cases h0 : n = 0
    · subst h0; exact .inl (by simp)
    · refine .inr ?_
      rw [List.getLastD_eq_getLast?, List.getLast?_eq_getElem?]
      have e : (l.take n).length = n := by simp; omega
      rw [e, List.getElem?_take, if_pos (by omega)]
      rw [List.getD_eq_getElem?_getD] at hp
      exact hp

theorem wd_len_le {l : List Int} (hl : Ws l) : (wd (val l)).length ≤ l.length := by
  -- by the greatest place that is not 0
  have : ∀ n, n ≤ l.length → (∀ k, n ≤ k → l.getD k 0 = 0) → ∃ m, m ≤ n ∧ (∀ k, m ≤ k → l.getD k 0 = 0) ∧ (m = 0 ∨ l.getD (m - 1) 0 ≠ 0) := by
    intro n
    induction n with
    | zero => intro _ h; exact ⟨0, Nat.le_refl _, h, .inl rfl⟩
    | succ n ih =>
      intro hn h
      by_cases h0 : l.getD n 0 = 0
      · obtain ⟨m, h1, h2, h3⟩ := ih (by omega) fun k hk => by
          by_cases hkn : k = n
          · subst hkn; exact h0
          · exact h k (by omega)
        exact ⟨m, by omega, h2, h3⟩
      · exact ⟨n + 1, Nat.le_refl _, h, .inr (by simpa using h0)⟩
  obtain ⟨m, h1, h2, h3⟩ := this l.length (Nat.le_refl _) fun k hk => by
    rw [List.getD_eq_getElem?_getD, List.getElem?_eq_none hk]; rfl
  rw [← trim_eq hl h1 h2 h3, List.length_take]
  omega

theorem val_take_drop {l : List Int} (n : Nat) (h : n ≤ l.length) : val l = val (l.take n) + 4294967296 ^ n * val (l.drop n) := by
  conv => lhs; rw [← List.take_append_drop n l]
  rw [val_append]
  congr 3
  simp; omega

theorem val_pos_of_len {l : List Int} (hp : Pl l) (h : l ≠ []) (hl : Ws l) : 4294967296 ^ (l.length - 1) ≤ val l := by
  have hlen : 0 < l.length := List.length_pos_iff.2 h
  rw [val_take_drop (l.length - 1) (by omega)]
  rcases hp with hp | hp
  · exact absurd hp h
  · have hd : l.drop (l.length - 1) = [l[l.length - 1]'(by omega)] := by
      rw [List.drop_eq_getElem_cons (by omega)]
      congr 1
      exact List.drop_eq_nil_of_le (by omega)
    rw [hd]
    have h1 : l[l.length - 1]'(by omega) ≠ 0 := by
      rw [List.getLastD_eq_getLast?, List.getLast?_eq_getElem?, List.getElem?_eq_getElem (by omega)] at hp
      exact hp
    have h2 := hl.get (i := l.length - 1) (by omega)
    simp only [val]
    have : 4294967296 ^ (l.length - 1) * 1 ≤ 4294967296 ^ (l.length - 1) * ((l[l.length - 1]'(by omega)).toNat + 4294967296 * 0) := Nat.mul_le_mul_left _ (by omega)
    omega

end S

open Go Go.AL Go.Proofs
namespace S
set_option maxRecDepth 100000

theorem getD_lt' {α : Type} {l : List α} {i : Nat} {x : α} (h : i < l.length) : l.getD i x = l[i] := by
  rw [List.getD_eq_getElem?_getD, List.getElem?_eq_getElem h]; rfl

theorem aidxN' {α : Type} (d : α) {f : α → AV} {l : List α} {i : Nat} {n : Int} {k : AV → Prop} (hn : n = i) (h : i < l.length) (hk : k (f (l.getD i d))) : AIdx (l.map f) n k := by
  subst hn
  refine aidx h ?_
  rw [getD_lt' h] at hk; exact hk

theorem c_trim (a : List Int) (hsz : a.length ≤ 1000000) : FnH Tryz.prog 185 [wL a] [] (wL (wd (val a))) [] := by
  refine FnH.intro lay mixed Tryz.func185 (by kernel_rfl) rfl (by kernel_rfl) rfl fun hok => ?_
  have hl : a.length ≤ 9223372036854775807 := by simpa [OkL, Ok, maxL] using hok.1.1
  have hw : Ws a := Ws.ok hok.1.2
  (conv => whnf)
  refine LoopE.of <| LoopSpec.inv (.refl _ _) (fun (n : Nat) => n ≤ a.length ∧ ∀ k, n ≤ k → a.getD k 0 = 0) (fun (n : Nat) => [(3, .int .i64 n)]) (fun _ => _) (fun (n : Nat) => n) a.length ?_ (fun _ => rfl) ?_ ?_
  · exact ⟨Nat.le_refl _, fun k hk => by rw [List.getD_eq_getElem?_getD, List.getElem?_eq_none hk]; rfl⟩
  · (repeat' (first | exact rfl | exact trivial | exact HWk.refl rfl | exact leRL_refl _ | (refine And.intro ?_ ?_)))
    simp
  rintro n ⟨hn, hz⟩ _
  have fin : (n = 0 ∨ a.getD (n - 1) 0 ≠ 0) → a.take n = wd (val a) := trim_eq hw hn hz
  (conv => whnf)
  refine And.intro (fun h => ?_) (fun h => ?_)
  · (conv => whnf)
    (refine ⟨inr64 (by omega) (by omega), ?_⟩; (conv => whnf))
    refine aidxN' 0 (i := n - 1) (by omega) (by omega) ?_
    (conv => whnf)
    refine And.intro (fun h0 => ?_) (fun h0 => ?_)
    · (conv => whnf)
      (refine ⟨inr64 (by omega) (by omega), ?_⟩; (conv => whnf))
      refine ⟨n - 1, ?_, ?_, ?_⟩
      · refine ⟨by omega, fun k hk => ?_⟩
        by_cases hkn : k = n - 1
        · subst hkn; exact h0
        · exact hz k (by omega)
      · (repeat' (first | exact rfl | exact trivial | exact HWk.refl rfl | exact leRL_refl _ | (refine And.intro ?_ ?_)))
        omega
      · omega
    · have e := fin (.inr h0)
      (conv => whnf)
      refine And.intro (fun hh => ?_) (fun hh => ?_)
      · exfalso; omega
      (conv => whnf)
      refine ⟨⟨by omega, by omega, by simp; omega⟩, ?_⟩
      have hcut : ((a.map (AV.int .u32)).drop (0 : Int).toNat).take ((n : Int).toNat - (0 : Int).toNat) = (wd (val a)).map (AV.int .u32) := by
        rw [← e]; simp [List.map_take]
      rw [hcut]
      have hll : (wd (val a)).length ≤ a.length := by rw [← e]; simp; omega
      (conv => whnf)
      refine .tok (by simp [maxL]; omega) (by simp; omega) ?_
      (conv => whnf)
      (refine FinSpec.mono ?_; (conv => whnf); refine ⟨?_, rfl⟩; (conv => whnf))
      exact ⟨rfl, leRL_of (by simp)⟩
  · have e := fin (.inl (by omega))
    (conv => whnf)
    refine And.intro (fun hh => ?_) (fun hh => by exfalso; omega)
    (conv => whnf)
    (refine FinSpec.mono ?_; (conv => whnf); refine ⟨?_, rfl⟩; (conv => whnf))
    rw [← e, show n = 0 by omega]
    rfl
/-- How two numbers compare. -/
def cmpN (a b : Nat) : Int := if a < b then -1 else if b < a then 1 else 0

theorem val_lt_of_len {a b : List Int} (ha : Ws a) (hb : Ws b) (hp : Pl b) (h : a.length < b.length) : val a < val b := by
  have h1 := val_lt ha
  have h2 := val_pos_of_len hp (by intro e; subst e; simp at h) hb
  have h3 : 4294967296 ^ a.length ≤ 4294967296 ^ (b.length - 1) := Nat.pow_le_pow_right (by omega) (by omega)
  omega

theorem val_lt_at {a b : List Int} (ha : Ws a) (hb : Ws b) {i : Nat} (h1 : i < a.length) (h2 : i < b.length) (hd : a.drop (i + 1) = b.drop (i + 1)) (h : a[i] < b[i]) : val a < val b := by
  rw [val_take_drop i (by omega : i ≤ a.length), val_take_drop i (by omega : i ≤ b.length), List.drop_eq_getElem_cons h1, List.drop_eq_getElem_cons h2]
  simp only [val]
  rw [hd]
  have h3 := val_lt (ha.take i)
  have e : (a.take i).length = i := by rw [List.length_take]; omega
  rw [e] at h3
  have h4 := ha.get h1
  have h5 := hb.get h2
  generalize 4294967296 * val (List.drop (i + 1) b) = w
  have : 4294967296 ^ i * (a[i].toNat + w + 1) ≤ 4294967296 ^ i * (b[i].toNat + w) := Nat.mul_le_mul_left _ (by omega)
  rw [Nat.mul_add _ _ 1] at this
  omega

theorem c_Cmp (a b : List Int) (ha : a.length ≤ 1000000) (hb : b.length ≤ 1000000) : FnH Tryz.prog 131 [wL a, wL b] [] (.int .i64 (cmpN (val a) (val b))) [] := by
  refine FnH.intro lay mixed Tryz.func131 (by kernel_rfl) rfl (by kernel_rfl) rfl fun hok => ?_
  have wa : Ws a := Ws.ok hok.1.2
  have wb : Ws b := Ws.ok hok.2.1.2
  have la := wd_len_le wa
  have lb := wd_len_le wb
  (conv => whnf)
  refine .pure _ _ ?_ ⟨rfl, rfl⟩ (c_trim a ha) fun _ => ?_
  · exact leL_refl _
  (conv => whnf)
  refine .pure _ _ ?_ ⟨rfl, rfl⟩ (c_trim b hb) fun _ => ?_
  · exact leL_refl _
  have e1 := val_wd (val a)
  have e2 := val_wd (val b)
  have pa := wd_Pl (val a)
  have pb := wd_Pl (val b)
  have ua := wd_Ws (val a)
  have ub := wd_Ws (val b)
  rw [← e1, ← e2]
  rw [e1, e2]
  generalize hA : wd (val a) = A at *
  generalize hB : wd (val b) = B at *
  rw [← e1, ← e2]
  (conv => whnf)
  refine And.intro (fun h => ?_) (fun h => ?_)
  · have h : A.length ≠ B.length := by simp only [List.length_map] at h; omega
    (conv => whnf)
    refine And.intro (fun h1 => ?_) (fun h1 => ?_)
    · have h1 : A.length < B.length := by simp only [List.length_map] at h1; omega
      (conv => whnf)
      (refine FinSpec.mono ?_; (conv => whnf); refine ⟨?_, rfl⟩; (conv => whnf))
      refine ⟨rfl, ?_⟩
      rw [cmpN, if_pos (val_lt_of_len ua ub pb h1)]
    · have h1 : B.length < A.length := by simp only [List.length_map] at h1; omega
      have := val_lt_of_len ub ua pa h1
      (conv => whnf)
      (refine FinSpec.mono ?_; (conv => whnf); refine ⟨?_, rfl⟩; (conv => whnf))
      refine ⟨rfl, ?_⟩
      rw [cmpN, if_neg (by omega), if_pos this]
  have h : A.length = B.length := by simp only [List.length_map] at h; omega
  (conv => whnf)
  refine ⟨inr64 (by simp; omega) (by simp; omega), ?_⟩
  (conv => whnf)
  refine LoopE.of <| LoopSpec.inv (.refl _ _) (fun (n : Nat) => n ≤ A.length ∧ A.drop n = B.drop n) (fun (n : Nat) => [(5, .int .i64 ((n : Int) - 1))]) (fun _ => _) (fun (n : Nat) => n) A.length ?_ (fun _ => rfl) ?_ ?_
  · exact ⟨Nat.le_refl _, by rw [List.drop_length, h, List.drop_length]⟩
  · (repeat' (first | exact rfl | exact trivial | exact HWk.refl rfl | exact leRL_refl _ | (refine And.intro ?_ ?_)))
    simp
  rintro n ⟨hn, hd⟩ _
  (conv => whnf)
  refine And.intro (fun h0 => ?_) (fun h0 => ?_)
  · have h1 : n - 1 < A.length := by omega
    have h2 : n - 1 < B.length := by omega
    (conv => whnf)
    (refine ADraw.auto (by kernel_rfl) ?_; (conv => whnf))
    refine aidxN' 0 (i := n - 1) (by omega) h1 ?_
    (conv => whnf)
    refine aidxN' 0 (i := n - 1) (by omega) h2 ?_
    rw [getD_lt' h1, getD_lt' h2]
    (conv => whnf)
    have hd' : A.drop (n - 1 + 1) = B.drop (n - 1 + 1) := by rw [show n - 1 + 1 = n by omega]; exact hd
    refine And.intro (fun h3 => ?_) (fun h3 => ?_)
    · (conv => whnf)
      (refine FinSpec.mono ?_; (conv => whnf); refine ⟨?_, rfl⟩; (conv => whnf))
      refine ⟨rfl, ?_⟩
      rw [cmpN, if_pos (val_lt_at ua ub h1 h2 hd' h3)]
    (conv => whnf)
    (refine ADraw.auto (by kernel_rfl) ?_; (conv => whnf))
    refine aidxN' 0 (i := n - 1) (by omega) h1 ?_
    (conv => whnf)
    refine aidxN' 0 (i := n - 1) (by omega) h2 ?_
    rw [getD_lt' h1, getD_lt' h2]
    (conv => whnf)
    refine And.intro (fun h4 => ?_) (fun h4 => ?_)
    · have := val_lt_at ub ua h2 h1 hd'.symm h4
      (conv => whnf)
      (refine FinSpec.mono ?_; (conv => whnf); refine ⟨?_, rfl⟩; (conv => whnf))
      refine ⟨rfl, ?_⟩
      rw [cmpN, if_neg (by omega), if_pos this]
    (conv => whnf)
    (refine ⟨inr64 (by omega) (by omega), ?_⟩; (conv => whnf))
    refine ⟨n - 1, ?_, ?_, ?_⟩
    · refine ⟨by omega, ?_⟩
      rw [List.drop_eq_getElem_cons h1, List.drop_eq_getElem_cons h2, hd']
      congr 1
      omega
    · (repeat' (first | exact rfl | exact trivial | exact HWk.refl rfl | exact leRL_refl _ | (refine And.intro ?_ ?_)))
      omega
    · omega
  · have hn0 : n = 0 := by omega
    subst hn0
    have hAB : A = B := by simpa using hd
    (conv => whnf)
    (refine FinSpec.mono ?_; (conv => whnf); refine ⟨?_, rfl⟩; (conv => whnf))
    refine ⟨rfl, ?_⟩
    rw [cmpN, hAB, if_neg (by omega), if_neg (by omega)]
end S

open Go Go.AL Go.Proofs
namespace S
set_option maxRecDepth 100000

theorem c_natOf (n : Nat) (h : n < 2 ^ 63) : FnH Tryz.prog 207 [.int .i64 n] [] (wL (wd n)) [] := by
  refine FnH.intro lay mixed Tryz.func207 (by kernel_rfl) rfl (by kernel_rfl) rfl fun hok => ?_
  (conv => whnf)
  refine And.intro (fun h0 => ?_) (fun h0 => ?_)
  · have hn : n = 0 := by omega
    subst hn
    (conv => whnf)
    (refine FinSpec.mono ?_; (conv => whnf); refine ⟨?_, rfl⟩; (conv => whnf))
    rw [wd_zero]; rfl
  (conv => whnf)
  refine ⟨by decide, ?_⟩
  rw [shr_word rfl]
  (conv => whnf)
  rw [wrapu32_mod, wrapu32_mod]
  have hw : Ws [((n % 4294967296 : Nat) : Int), ((n / 4294967296 % 4294967296 : Nat) : Int)] := Ws.cons (by omega) (Ws.cons (by omega) Ws.nil)
  have hv : val [((n % 4294967296 : Nat) : Int), ((n / 4294967296 % 4294967296 : Nat) : Int)] = n := by
    simp only [val]; omega
  have hc := c_trim [((n % 4294967296 : Nat) : Int), ((n / 4294967296 % 4294967296 : Nat) : Int)] (by simp)
  rw [hv] at hc
  refine .pure _ _ ?_ ⟨rfl, rfl⟩ hc fun _ => ?_
  · (repeat' (first | exact rfl | exact trivial | exact HWk.refl rfl | exact leRL_refl _ | (refine And.intro ?_ ?_)))
  (conv => whnf)
  (refine FinSpec.mono ?_; (conv => whnf); refine ⟨?_, rfl⟩; (conv => whnf))
  (repeat' (first | exact rfl | exact trivial | exact HWk.refl rfl | exact leRL_refl _ | (refine And.intro ?_ ?_)))

theorem digit_lt {r x b : Nat} (hr : r < b) (hx : x < 4294967296) : (r * 4294967296 + x) / b < 4294967296 := by
  rw [Nat.div_lt_iff_lt_mul (by omega)]
  have : (r + 1) * 4294967296 ≤ b * 4294967296 := Nat.mul_le_mul_right _ (by omega)
  rw [Nat.mul_comm 4294967296 b]
  omega

theorem c_small (a : List Int) (b : Nat) (hb : 0 < b ∧ b < 4294967296) (hsz : a.length ≤ 1000000) :
    FnH Tryz.prog 206 [wL a, .int .u32 b] [] (.tup [wL (wd (val a / b)), .int .u32 (val a % b : Nat)]) [] := by
  refine FnH.intro lay mixed Tryz.func206 (by kernel_rfl) rfl (by kernel_rfl) rfl fun hok => ?_
  have hw : Ws a := Ws.ok hok.1.2
  (conv => whnf)
  refine ⟨⟨by omega, by omega, by simp; omega, by simp; omega⟩, .wr ?_⟩
  (conv => whnf)
  refine ⟨inr64 (by simp; omega) (by simp; omega), ?_⟩
  (conv => whnf)
  refine LoopE.of <| LoopSpec.inv (.refl _ _) (fun x : Nat × List Int => x.1 ≤ a.length ∧ x.2.length = a.length ∧ Ws x.2 ∧ val (x.2.drop x.1) = val (a.drop x.1) / b)
    (fun | (n, _) => [(8, .int .i64 ((n : Int) - 1)), (7, .int .u64 (val (a.drop n) % b : Nat))]) (fun | (_, out) => [(0, .arr 1 a.length (out.map (.int .u32)))]) (fun x => x.1) (a.length, List.replicate a.length 0) ?_ (fun _ => rfl) ?_ ?_
  · refine ⟨Nat.le_refl _, by simp, ?_, ?_⟩
    · intro x hx
      rw [List.mem_replicate] at hx
      rw [hx.2]; omega
    · simp [val]
  · refine ⟨?_, .mk ?_ ⟨by simp, trivial⟩⟩
    · (repeat' (first | exact rfl | exact trivial | exact HWk.refl rfl | exact leRL_refl _ | (refine And.intro ?_ ?_)))
      · simp
      · simp [val]
    · (repeat' (first | exact rfl | exact trivial | exact HWk.refl rfl | exact leRL_refl _ | (refine And.intro ?_ ?_)))
      · simp
      · exact leRL_of (by simp)
  rintro ⟨n, out⟩ ⟨hn, ho, hwo, hv⟩ _
  simp only at hn ho hwo hv
  have hr : val (a.drop n) % b < b := Nat.mod_lt _ hb.1
  (conv => whnf)
  refine And.intro (fun h => ?_) (fun h => ?_)
  · have h1 : n - 1 < a.length := by omega
    have hx := hw.get h1
    have hda : a.drop (n - 1) = a[n - 1] :: a.drop n := by
      rw [List.drop_eq_getElem_cons h1]; congr 2; omega
    obtain ⟨x, hxx⟩ : ∃ x : Nat, a[n - 1] = x := ⟨(a[n - 1]).toNat, by omega⟩
    have hval : val (a.drop (n - 1)) = x + 4294967296 * val (a.drop n) := by rw [hda, val, hxx]; simp
    generalize hV : val (a.drop n) = V at *
    generalize hR : V % b = r at *
    have hq : (r * 4294967296 + x) / b < 4294967296 := digit_lt hr (by omega)
    have key : x + 4294967296 * V = b * (4294967296 * (V / b)) + (r * 4294967296 + x) := by
      have := Nat.div_add_mod V b
      rw [hR] at this
      conv => lhs; rw [← this]
      rw [Nat.mul_add, ← Nat.mul_assoc, Nat.mul_comm 4294967296 b, Nat.mul_assoc]; omega
    have kdiv : (x + 4294967296 * V) / b = (r * 4294967296 + x) / b + 4294967296 * (V / b) := by
      rw [key, Nat.mul_add_div hb.1]; omega
    have kmod : (x + 4294967296 * V) % b = (r * 4294967296 + x) % b := by
      rw [key, Nat.mul_add_mod]
    obtain ⟨q, hqq⟩ : ∃ q, (r * 4294967296 + x) / b = q := ⟨_, rfl⟩
    obtain ⟨m, hmm⟩ : ∃ m, (r * 4294967296 + x) % b = m := ⟨_, rfl⟩
    have hm : m < b := hmm ▸ Nat.mod_lt _ hb.1
    rw [hqq] at hq kdiv
    rw [hmm] at kmod
    have hdo : (out.set (n - 1) (q : Int)).drop (n - 1) = (q : Int) :: out.drop n := by
      rw [List.drop_eq_getElem_cons (by rw [List.length_set]; omega)]
      rw [List.getElem_set_self]
      congr 1
      rw [List.drop_set_of_lt (by omega)]
      congr 1; omega
    (conv => whnf)
    refine ⟨by decide, ?_⟩
    rw [shl_word (by omega)]
    (conv => whnf)
    refine aidxN' 0 (i := n - 1) (by omega) h1 ?_
    rw [getD_lt' h1, hxx]
    (conv => whnf)
    rw [wrap_u64 (n := (x : Int)) (by omega) (by omega), or_word (by omega) (by omega)]
    (conv => whnf)
    rw [wrap_u64 (n := (b : Int)) (by omega) (by omega)]
    refine ⟨by omega, ?_⟩
    rw [tdiv_nat, hqq]
    (conv => whnf)
    rw [wrap_u64 (n := (q : Int)) (by omega) (by omega), wrap_u32 (n := (q : Int)) (by omega) (by omega)]
    refine ⟨⟨by omega, by simp; omega⟩, ?_⟩
    (conv => whnf)
    refine ⟨by simp; omega, rfl, ?_⟩
    (conv => whnf)
    rw [wrap_u64 (n := (b : Int)) (by omega) (by omega)]
    refine ⟨by omega, ?_⟩
    rw [tmod_nat, hmm]
    (conv => whnf)
    (refine ⟨inr64 (by omega) (by omega), ?_⟩; (conv => whnf))
    refine ⟨(n - 1, out.set (n - 1) q), ?_, ?_, ?_⟩
    · refine ⟨by show n - 1 ≤ a.length; omega, by simpa using ho, ?_, ?_⟩
      · intro y hy
        rcases List.mem_or_eq_of_mem_set hy with hy | rfl
        · exact hwo y hy
        · omega
      · show val ((out.set (n - 1) (q : Int)).drop (n - 1)) = val (a.drop (n - 1)) / b
        rw [hdo, val, hval, kdiv, hv]; simp
    · refine ⟨?_, .mk ?_ ⟨by simp, trivial⟩⟩
      · (repeat' (first | exact rfl | exact trivial | exact HWk.refl rfl | exact leRL_refl _ | (refine And.intro ?_ ?_)))
        · omega
        · rw [hval, kmod]
      · (repeat' (first | exact rfl | exact trivial | exact HWk.refl rfl | exact leRL_refl _ | (refine And.intro ?_ ?_)))
        refine leRL_of ?_
        rw [List.map_set]
        simp [strip]
    · show n - 1 < n
      omega
  · have hn0 : n = 0 := by omega
    subst hn0
    simp only [List.drop_zero] at hv hr
    have hcc := c_trim out (by omega)
    rw [hv] at hcc
    (conv => whnf)
    refine .gen _ _ (FnH.frz 0 rfl rfl (by simp; omega) (FnH.ofPure hcc ?_ ⟨rfl, rfl⟩)) fun _ => ?_
    · (repeat' (first | exact rfl | exact trivial | exact HWk.refl rfl | exact leRL_refl _ | (refine And.intro ?_ ?_)))
      refine leRL_of ?_
      simp
      rw [List.take_of_length_le (by simp [ho])]
    (conv => whnf)
    rw [List.drop_zero, wrap_u32 (by omega) (by omega)]
    (refine FinSpec.mono ?_; (conv => whnf); refine ⟨?_, rfl⟩; (conv => whnf))
    (repeat' (first | exact rfl | exact trivial | exact HWk.refl rfl | exact leRL_refl _ | (refine And.intro ?_ ?_)))
end S

open Go Go.AL Go.Proofs
namespace S
set_option maxRecDepth 100000

/-- What a division does. -/
def DivC (x y : Nat) : Prop := FnH Tryz.prog 184 [wL (wd x), wL (wd y)] [] (.tup [wL (wd (x / y)), wL (wd (x % y)), .nilI]) []

theorem wd_small {y : Nat} (h0 : y ≠ 0) (h : y < 4294967296) : wd y = [(y : Int)] := by
  rw [wd_pos h0, show y / 4294967296 = 0 by omega, wd_zero, show y % 4294967296 = y by omega]

theorem div_small (x y : Nat) (hx : (wd x).length ≤ 1000000) (h0 : y ≠ 0) (hy : y < 4294967296) : DivC x y := by
  unfold DivC
  have c1 := c_trim (wd x) hx
  rw [val_wd] at c1
  have hyl := wd_small h0 hy
  have c2 := c_trim (wd y) (by rw [hyl]; simp)
  rw [val_wd] at c2
  have c3 := c_Cmp (wd x) (wd y) hx (by rw [hyl]; simp)
  rw [val_wd, val_wd] at c3
  refine FnH.intro lay mixed Tryz.func184 (by kernel_rfl) rfl (by kernel_rfl) rfl fun hok => ?_
  (conv => whnf)
  refine .pure _ _ ?_ ⟨rfl, rfl⟩ c1 fun _ => ?_
  · exact leL_refl _
  (conv => whnf)
  refine .pure _ _ ?_ ⟨rfl, rfl⟩ c2 fun _ => ?_
  · exact leL_refl _
  (conv => whnf)
  refine And.intro (fun h => ?_) (fun _ => ?_)
  · exfalso
    rw [hyl] at h; simp at h
  (conv => whnf)
  refine .pure _ _ ?_ ⟨rfl, rfl⟩ c3 fun _ => ?_
  · exact leL_refl _
  (conv => whnf)
  refine And.intro (fun h => ?_) (fun h => ?_)
  · have hlt : x < y := by
      unfold cmpN at h
      split at h
      · assumption
      · split at h <;> omega
    (conv => whnf)
    (refine FinSpec.mono ?_; (conv => whnf); refine ⟨?_, rfl⟩; (conv => whnf))
    refine ⟨?_, ?_, rfl, trivial⟩
    · rw [Nat.div_eq_of_lt hlt, wd_zero]; rfl
    · rw [Nat.mod_eq_of_lt hlt]; exact le0_refl _
  rw [hyl]
  (conv => whnf)
  refine And.intro (fun _ => ?_) (fun h => ?_)
  · (conv => whnf)
    refine ⟨⟨.int .u32 y, ⟨by decide, rfl⟩, ?_⟩⟩
    have c4 := c_small (wd x) y ⟨by omega, hy⟩ hx
    rw [val_wd] at c4
    (conv => whnf)
    refine .pure _ _ ?_ ⟨rfl, rfl⟩ c4 fun _ => ?_
    · exact leL_refl _
    have hm : x % y < y := Nat.mod_lt _ (by omega)
    (conv => whnf)
    rw [wrap64 (n := ((x % y : Nat) : Int)) (by omega) (by omega)]
    refine .pure _ _ ?_ ⟨rfl, rfl⟩ (c_natOf (x % y) (by omega)) fun _ => ?_
    · exact leL_refl _
    (conv => whnf)
    (refine FinSpec.mono ?_; (conv => whnf); refine ⟨?_, rfl⟩; (conv => whnf))
    exact ⟨le0_refl _, leL_refl _⟩
  · exfalso; simp at h

theorem wd_len_mono {x y : Nat} (h : x ≤ y) : (wd x).length ≤ (wd y).length := by
  apply Classical.byContradiction
  intro hn
  have := val_lt_of_len (wd_Ws y) (wd_Ws x) (wd_Pl x) (by omega)
  rw [val_wd, val_wd] at this
  omega

theorem c_Gcd (a b : List Int) (ha : a.length ≤ 1000000) (hb : b.length ≤ 1000000) (hd : ∀ x y, y ≠ 0 → x ≤ max (val a) (val b) → y ≤ max (val a) (val b) → DivC x y) :
    FnH Tryz.prog 132 [wL a, wL b] [] (wL (wd (Nat.gcd (val a) (val b)))) [] := by
  refine FnH.intro lay mixed Tryz.func132 (by kernel_rfl) rfl (by kernel_rfl) rfl fun hok => ?_
  have wa : Ws a := Ws.ok hok.1.2
  have wb : Ws b := Ws.ok hok.2.1.2
  (conv => whnf)
  refine .pure _ _ ?_ ⟨rfl, rfl⟩ (c_trim a ha) fun _ => ?_
  · exact leL_refl _
  (conv => whnf)
  refine .pure _ _ ?_ ⟨rfl, rfl⟩ (c_trim b hb) fun _ => ?_
  · exact leL_refl _
  (conv => whnf)
  refine LoopE.of <| LoopSpec.inv (.refl _ _) (fun (x : Nat × Nat) => x.1 ≤ max (val a) (val b) ∧ x.2 ≤ max (val a) (val b) ∧ Nat.gcd x.1 x.2 = Nat.gcd (val a) (val b)) (fun (x : Nat × Nat) => [(0, wL (wd x.1)), (1, wL (wd x.2))]) (fun _ => _) (fun (x : Nat × Nat) => x.2) (val a, val b) ?_ (fun _ => rfl) ?_ ?_
  · exact ⟨Nat.le_max_left _ _, Nat.le_max_right _ _, rfl⟩
  · (repeat' (first | exact rfl | exact trivial | exact HWk.refl rfl | exact leRL_refl _ | (refine And.intro ?_ ?_)))
  rintro ⟨x, y⟩ ⟨h1, h2, h3⟩ _
  simp only at h1 h2 h3
  (conv => whnf)
  refine And.intro (fun h => ?_) (fun h => ?_)
  · have h0 : y ≠ 0 := by
      intro e; subst e
      rw [show ((x, 0) : Nat × Nat).2 = 0 from rfl, wd_zero] at h
      simp at h
    (conv => whnf)
    refine .pure _ _ ?_ ⟨rfl, rfl⟩ (hd x y h0 h1 h2) fun _ => ?_
    · exact leL_refl _
    have hm : x % y < y := Nat.mod_lt _ (by omega)
    (conv => whnf)
    refine ⟨(y, x % y), ?_, ?_, ?_⟩
    · refine ⟨h2, by show x % y ≤ _; omega, ?_⟩
      show Nat.gcd y (x % y) = _
      rw [← h3, Nat.gcd_comm x y, Nat.gcd_rec y x]
      try exact Nat.gcd_comm _ _
    · (repeat' (first | exact rfl | exact trivial | exact HWk.refl rfl | exact leRL_refl _ | (refine And.intro ?_ ?_)))
    · show x % y < y
      exact hm
  · have h0 : y = 0 := by
      apply Classical.byContradiction
      intro hy
      apply h
      show (0 : Int) < ((wd y).map _).length
      rw [wd_pos hy]; simp
    subst h0
    (conv => whnf)
    (refine FinSpec.mono ?_; (conv => whnf); refine ⟨?_, rfl⟩; (conv => whnf))
    refine ⟨rfl, leRL_of ?_⟩
    rw [← h3, Nat.gcd_zero_right]
end S

open Go Go.AL Go.Proofs
namespace S
set_option maxRecDepth 100000

/-! ### the reference's numbers -/

theorem c_rTrim (a : List Int) (hsz : a.length ≤ 1000000) : FnH Tryz.prog 191 [wL a] [] (wL (wd (val a))) [] := by
  refine FnH.intro lay mixed Tryz.func191 (by kernel_rfl) rfl (by kernel_rfl) rfl fun hok => ?_
  have hl : a.length ≤ 9223372036854775807 := by simpa [OkL, Ok, maxL] using hok.1.1
  have hw : Ws a := Ws.ok hok.1.2
  (conv => whnf)
  refine LoopE.of <| LoopSpec.inv (.refl _ _) (fun (n : Nat) => n ≤ a.length ∧ ∀ k, n ≤ k → a.getD k 0 = 0) (fun (n : Nat) => [(3, .int .i64 n)]) (fun _ => _) (fun (n : Nat) => n) a.length ?_ (fun _ => rfl) ?_ ?_
  · exact ⟨Nat.le_refl _, fun k hk => by rw [List.getD_eq_getElem?_getD, List.getElem?_eq_none hk]; rfl⟩
  · (repeat' (first | exact rfl | exact trivial | exact HWk.refl rfl | exact leRL_refl _ | (refine And.intro ?_ ?_)))
    simp
  rintro n ⟨hn, hz⟩ _
  have fin : (n = 0 ∨ a.getD (n - 1) 0 ≠ 0) → a.take n = wd (val a) := trim_eq hw hn hz
  have cut : a.take n = wd (val a) → ((a.map (AV.int .u32)).drop (0 : Int).toNat).take ((n : Int).toNat - (0 : Int).toNat) = (wd (val a)).map (AV.int .u32) := by
    intro e
    rw [← e]; simp [List.map_take]
  have hll : a.take n = wd (val a) → (wd (val a)).length ≤ a.length := by
    intro e
    rw [← e]; simp; omega
  (conv => whnf)
  refine And.intro (fun h => ?_) (fun h => ?_)
  · (conv => whnf)
    (refine ⟨inr64 (by omega) (by omega), ?_⟩; (conv => whnf))
    refine aidxN' 0 (i := n - 1) (by omega) (by omega) ?_
    (conv => whnf)
    refine And.intro (fun h0 => ?_) (fun h0 => ?_)
    · (conv => whnf)
      (refine ⟨inr64 (by omega) (by omega), ?_⟩; (conv => whnf))
      refine ⟨n - 1, ?_, ?_, ?_⟩
      · refine ⟨by omega, fun k hk => ?_⟩
        by_cases hkn : k = n - 1
        · subst hkn; exact h0
        · exact hz k (by omega)
      · (repeat' (first | exact rfl | exact trivial | exact HWk.refl rfl | exact leRL_refl _ | (refine And.intro ?_ ?_)))
        omega
      · omega
    · have e := fin (.inr h0)
      have hlen := hll e
      (conv => whnf)
      refine ⟨⟨by omega, by omega, by simp; omega⟩, ?_⟩
      rw [cut e]
      (conv => whnf)
      refine .tok (by simp [maxL]; omega) (by simp; omega) ?_
      (conv => whnf)
      (refine FinSpec.mono ?_; (conv => whnf); refine ⟨?_, rfl⟩; (conv => whnf))
      exact ⟨rfl, leRL_of (by simp)⟩
  · have e := fin (.inl (by omega))
    have hlen := hll e
    (conv => whnf)
    refine ⟨⟨by omega, by omega, by simp; omega⟩, ?_⟩
    rw [cut e]
    (conv => whnf)
    refine .tok (by simp [maxL]; omega) (by simp; omega) ?_
    (conv => whnf)
    (refine FinSpec.mono ?_; (conv => whnf); refine ⟨?_, rfl⟩; (conv => whnf))
    exact ⟨rfl, leRL_of (by simp)⟩

theorem c_rWord (a : List Int) (i : Nat) : FnH Tryz.prog 190 [wL a, .int .i64 i] [] (.int .u64 (a.getD i 0)) [] := by
  refine FnH.intro lay mixed Tryz.func190 (by kernel_rfl) rfl (by kernel_rfl) rfl fun hok => ?_
  have hw : Ws a := Ws.ok hok.1.2
  (conv => whnf)
  refine And.intro (fun h => ?_) (fun h => ?_)
  · have h : i < a.length := by simp only [List.length_map] at h; omega
    (conv => whnf)
    refine aidxN' 0 rfl h ?_
    (conv => whnf)
    (refine FinSpec.mono ?_; (conv => whnf); refine ⟨?_, rfl⟩; (conv => whnf))
    have := hw.getD (i := i)
    exact ⟨rfl, wrap_u64 (by omega) (by omega)⟩
  · have h : a.length ≤ i := by simp only [List.length_map] at h; omega
    (conv => whnf)
    (refine FinSpec.mono ?_; (conv => whnf); refine ⟨?_, rfl⟩; (conv => whnf))
    refine ⟨rfl, ?_⟩
    rw [List.getD_eq_getElem?_getD, List.getElem?_eq_none h]; rfl


theorem r_size : FnH Tryz.prog 202 [.int .i64 1] [] (wL [1, 0]) [] := by
  refine FnH.intro lay mixed Tryz.func202 (by kernel_rfl) rfl (by kernel_rfl) rfl fun hok => ?_
  (conv => whnf)
  (repeat' (first | (refine LoopE.step 300 ?_; (conv => whnf)) | (refine And.intro (fun _ => ?_) (fun h => absurd (by decide +kernel) h); (conv => whnf)) | (refine And.intro (fun h => absurd h (by decide +kernel)) (fun _ => ?_); (conv => whnf)) | (refine And.intro (inr64 (by decide +kernel) (by decide +kernel)) ?_; (conv => whnf)) | (refine And.intro (by decide +kernel) ?_; (conv => whnf)) | (refine AIdx.mk ⟨_, ⟨by decide +kernel, rfl⟩, ?_⟩; (conv => whnf)) | (refine ACut.mk ⟨by decide +kernel, ?_⟩; (conv => whnf)) | (refine AApp0.tok (by decide +kernel) (by decide +kernel) ?_; (conv => whnf)) | (refine AApp.mk (by decide +kernel) (by decide +kernel) ?_; (conv => whnf)) | (refine AMake.wr ?_; (conv => whnf)) | (refine ADraw.auto (by kernel_rfl) ?_; (conv => whnf))))
  (refine FinSpec.mono ?_; (conv => whnf); refine ⟨?_, rfl⟩; (conv => whnf))
  exact ⟨rfl, ⟨rfl, by decide +kernel⟩, ⟨rfl, by decide +kernel⟩, trivial⟩

theorem r_bits : FnH Tryz.prog 186 [wL [1, 0]] [] (.int .i64 1) [] := by
  refine FnH.intro lay mixed Tryz.func186 (by kernel_rfl) rfl (by kernel_rfl) rfl fun hok => ?_
  (conv => whnf)
  (repeat' (first | (refine LoopE.step 300 ?_; (conv => whnf)) | (refine And.intro (fun _ => ?_) (fun h => absurd (by decide +kernel) h); (conv => whnf)) | (refine And.intro (fun h => absurd h (by decide +kernel)) (fun _ => ?_); (conv => whnf)) | (refine And.intro (inr64 (by decide +kernel) (by decide +kernel)) ?_; (conv => whnf)) | (refine And.intro (by decide +kernel) ?_; (conv => whnf)) | (refine AIdx.mk ⟨_, ⟨by decide +kernel, rfl⟩, ?_⟩; (conv => whnf)) | (refine ACut.mk ⟨by decide +kernel, ?_⟩; (conv => whnf)) | (refine AApp0.tok (by decide +kernel) (by decide +kernel) ?_; (conv => whnf)) | (refine AApp.mk (by decide +kernel) (by decide +kernel) ?_; (conv => whnf)) | (refine AMake.wr ?_; (conv => whnf)) | (refine ADraw.auto (by kernel_rfl) ?_; (conv => whnf))))
  (refine FinSpec.mono ?_; (conv => whnf); refine ⟨?_, rfl⟩; (conv => whnf))
  exact ⟨rfl, by decide +kernel⟩

theorem r_up1 : FnH Tryz.prog 214 [wL [1], .int .i64 31] [] (wL [2147483648]) [] := by
  have ct := c_rTrim [2147483648, 0] (by decide)
  rw [show wd (val [2147483648, 0]) = [2147483648] from by decide +kernel] at ct
  refine FnH.intro lay mixed Tryz.func214 (by kernel_rfl) rfl (by kernel_rfl) rfl fun hok => ?_
  (conv => whnf)
  (repeat' (first | (refine LoopE.step 300 ?_; (conv => whnf)) | (refine And.intro (fun _ => ?_) (fun h => absurd (by decide +kernel) h); (conv => whnf)) | (refine And.intro (fun h => absurd h (by decide +kernel)) (fun _ => ?_); (conv => whnf)) | (refine And.intro (inr64 (by decide +kernel) (by decide +kernel)) ?_; (conv => whnf)) | (refine And.intro (by decide +kernel) ?_; (conv => whnf)) | (refine AIdx.mk ⟨_, ⟨by decide +kernel, rfl⟩, ?_⟩; (conv => whnf)) | (refine ACut.mk ⟨by decide +kernel, ?_⟩; (conv => whnf)) | (refine AApp0.tok (by decide +kernel) (by decide +kernel) ?_; (conv => whnf)) | (refine AApp.mk (by decide +kernel) (by decide +kernel) ?_; (conv => whnf)) | (refine AMake.wr ?_; (conv => whnf)) | (refine ADraw.auto (by kernel_rfl) ?_; (conv => whnf))))
  refine .pure _ _ ?_ ⟨rfl, rfl⟩ (ct) fun _ => ?_
  · (repeat' (first | exact trivial | (refine And.intro ?_ ?_) | (decide +kernel) | exact rfl))
  (conv => whnf)
  (repeat' (first | (refine LoopE.step 300 ?_; (conv => whnf)) | (refine And.intro (fun _ => ?_) (fun h => absurd (by decide +kernel) h); (conv => whnf)) | (refine And.intro (fun h => absurd h (by decide +kernel)) (fun _ => ?_); (conv => whnf)) | (refine And.intro (inr64 (by decide +kernel) (by decide +kernel)) ?_; (conv => whnf)) | (refine And.intro (by decide +kernel) ?_; (conv => whnf)) | (refine AIdx.mk ⟨_, ⟨by decide +kernel, rfl⟩, ?_⟩; (conv => whnf)) | (refine ACut.mk ⟨by decide +kernel, ?_⟩; (conv => whnf)) | (refine AApp0.tok (by decide +kernel) (by decide +kernel) ?_; (conv => whnf)) | (refine AApp.mk (by decide +kernel) (by decide +kernel) ?_; (conv => whnf)) | (refine AMake.wr ?_; (conv => whnf)) | (refine ADraw.auto (by kernel_rfl) ?_; (conv => whnf))))
  (refine FinSpec.mono ?_; (conv => whnf); refine ⟨?_, rfl⟩; (conv => whnf))
  (repeat' (first | exact rfl | exact trivial | exact HWk.refl rfl | exact leRL_refl _ | (refine And.intro ?_ ?_)))

theorem r_up2 : FnH Tryz.prog 214 [wL [1, 0], .int .i64 31] [] (wL [2147483648]) [] := by
  have ct := c_rTrim [2147483648, 0, 0] (by decide)
  rw [show wd (val [2147483648, 0, 0]) = [2147483648] from by decide +kernel] at ct
  refine FnH.intro lay mixed Tryz.func214 (by kernel_rfl) rfl (by kernel_rfl) rfl fun hok => ?_
  (conv => whnf)
  (repeat' (first | (refine LoopE.step 300 ?_; (conv => whnf)) | (refine And.intro (fun _ => ?_) (fun h => absurd (by decide +kernel) h); (conv => whnf)) | (refine And.intro (fun h => absurd h (by decide +kernel)) (fun _ => ?_); (conv => whnf)) | (refine And.intro (inr64 (by decide +kernel) (by decide +kernel)) ?_; (conv => whnf)) | (refine And.intro (by decide +kernel) ?_; (conv => whnf)) | (refine AIdx.mk ⟨_, ⟨by decide +kernel, rfl⟩, ?_⟩; (conv => whnf)) | (refine ACut.mk ⟨by decide +kernel, ?_⟩; (conv => whnf)) | (refine AApp0.tok (by decide +kernel) (by decide +kernel) ?_; (conv => whnf)) | (refine AApp.mk (by decide +kernel) (by decide +kernel) ?_; (conv => whnf)) | (refine AMake.wr ?_; (conv => whnf)) | (refine ADraw.auto (by kernel_rfl) ?_; (conv => whnf))))
  refine .pure _ _ ?_ ⟨rfl, rfl⟩ (ct) fun _ => ?_
  · (repeat' (first | exact trivial | (refine And.intro ?_ ?_) | (decide +kernel) | exact rfl))
  (conv => whnf)
  (repeat' (first | (refine LoopE.step 300 ?_; (conv => whnf)) | (refine And.intro (fun _ => ?_) (fun h => absurd (by decide +kernel) h); (conv => whnf)) | (refine And.intro (fun h => absurd h (by decide +kernel)) (fun _ => ?_); (conv => whnf)) | (refine And.intro (inr64 (by decide +kernel) (by decide +kernel)) ?_; (conv => whnf)) | (refine And.intro (by decide +kernel) ?_; (conv => whnf)) | (refine AIdx.mk ⟨_, ⟨by decide +kernel, rfl⟩, ?_⟩; (conv => whnf)) | (refine ACut.mk ⟨by decide +kernel, ?_⟩; (conv => whnf)) | (refine AApp0.tok (by decide +kernel) (by decide +kernel) ?_; (conv => whnf)) | (refine AApp.mk (by decide +kernel) (by decide +kernel) ?_; (conv => whnf)) | (refine AMake.wr ?_; (conv => whnf)) | (refine ADraw.auto (by kernel_rfl) ?_; (conv => whnf))))
  (refine FinSpec.mono ?_; (conv => whnf); refine ⟨?_, rfl⟩; (conv => whnf))
  (repeat' (first | exact rfl | exact trivial | exact HWk.refl rfl | exact leRL_refl _ | (refine And.intro ?_ ?_)))

theorem r_cmp : FnH Tryz.prog 215 [wL [2147483648], wL [2147483648]] [] (.int .i64 0) [] := by
  have cw := c_rWord [2147483648] 0
  refine FnH.intro lay mixed Tryz.func215 (by kernel_rfl) rfl (by kernel_rfl) rfl fun hok => ?_
  (conv => whnf)
  (repeat' (first | (refine LoopE.step 300 ?_; (conv => whnf)) | (refine And.intro (fun _ => ?_) (fun h => absurd (by decide +kernel) h); (conv => whnf)) | (refine And.intro (fun h => absurd h (by decide +kernel)) (fun _ => ?_); (conv => whnf)) | (refine And.intro (inr64 (by decide +kernel) (by decide +kernel)) ?_; (conv => whnf)) | (refine And.intro (by decide +kernel) ?_; (conv => whnf)) | (refine AIdx.mk ⟨_, ⟨by decide +kernel, rfl⟩, ?_⟩; (conv => whnf)) | (refine ACut.mk ⟨by decide +kernel, ?_⟩; (conv => whnf)) | (refine AApp0.tok (by decide +kernel) (by decide +kernel) ?_; (conv => whnf)) | (refine AApp.mk (by decide +kernel) (by decide +kernel) ?_; (conv => whnf)) | (refine AMake.wr ?_; (conv => whnf)) | (refine ADraw.auto (by kernel_rfl) ?_; (conv => whnf))))
  refine .pure _ _ ?_ ⟨rfl, rfl⟩ (cw) fun _ => ?_
  · (repeat' (first | exact trivial | (refine And.intro ?_ ?_) | (decide +kernel) | exact rfl))
  (conv => whnf)
  (repeat' (first | (refine LoopE.step 300 ?_; (conv => whnf)) | (refine And.intro (fun _ => ?_) (fun h => absurd (by decide +kernel) h); (conv => whnf)) | (refine And.intro (fun h => absurd h (by decide +kernel)) (fun _ => ?_); (conv => whnf)) | (refine And.intro (inr64 (by decide +kernel) (by decide +kernel)) ?_; (conv => whnf)) | (refine And.intro (by decide +kernel) ?_; (conv => whnf)) | (refine AIdx.mk ⟨_, ⟨by decide +kernel, rfl⟩, ?_⟩; (conv => whnf)) | (refine ACut.mk ⟨by decide +kernel, ?_⟩; (conv => whnf)) | (refine AApp0.tok (by decide +kernel) (by decide +kernel) ?_; (conv => whnf)) | (refine AApp.mk (by decide +kernel) (by decide +kernel) ?_; (conv => whnf)) | (refine AMake.wr ?_; (conv => whnf)) | (refine ADraw.auto (by kernel_rfl) ?_; (conv => whnf))))
  refine .pure _ _ ?_ ⟨rfl, rfl⟩ (cw) fun _ => ?_
  · (repeat' (first | exact trivial | (refine And.intro ?_ ?_) | (decide +kernel) | exact rfl))
  (conv => whnf)
  (repeat' (first | (refine LoopE.step 300 ?_; (conv => whnf)) | (refine And.intro (fun _ => ?_) (fun h => absurd (by decide +kernel) h); (conv => whnf)) | (refine And.intro (fun h => absurd h (by decide +kernel)) (fun _ => ?_); (conv => whnf)) | (refine And.intro (inr64 (by decide +kernel) (by decide +kernel)) ?_; (conv => whnf)) | (refine And.intro (by decide +kernel) ?_; (conv => whnf)) | (refine AIdx.mk ⟨_, ⟨by decide +kernel, rfl⟩, ?_⟩; (conv => whnf)) | (refine ACut.mk ⟨by decide +kernel, ?_⟩; (conv => whnf)) | (refine AApp0.tok (by decide +kernel) (by decide +kernel) ?_; (conv => whnf)) | (refine AApp.mk (by decide +kernel) (by decide +kernel) ?_; (conv => whnf)) | (refine AMake.wr ?_; (conv => whnf)) | (refine ADraw.auto (by kernel_rfl) ?_; (conv => whnf))))
  refine .pure _ _ ?_ ⟨rfl, rfl⟩ (cw) fun _ => ?_
  · (repeat' (first | exact trivial | (refine And.intro ?_ ?_) | (decide +kernel) | exact rfl))
  (conv => whnf)
  (repeat' (first | (refine LoopE.step 300 ?_; (conv => whnf)) | (refine And.intro (fun _ => ?_) (fun h => absurd (by decide +kernel) h); (conv => whnf)) | (refine And.intro (fun h => absurd h (by decide +kernel)) (fun _ => ?_); (conv => whnf)) | (refine And.intro (inr64 (by decide +kernel) (by decide +kernel)) ?_; (conv => whnf)) | (refine And.intro (by decide +kernel) ?_; (conv => whnf)) | (refine AIdx.mk ⟨_, ⟨by decide +kernel, rfl⟩, ?_⟩; (conv => whnf)) | (refine ACut.mk ⟨by decide +kernel, ?_⟩; (conv => whnf)) | (refine AApp0.tok (by decide +kernel) (by decide +kernel) ?_; (conv => whnf)) | (refine AApp.mk (by decide +kernel) (by decide +kernel) ?_; (conv => whnf)) | (refine AMake.wr ?_; (conv => whnf)) | (refine ADraw.auto (by kernel_rfl) ?_; (conv => whnf))))
  refine .pure _ _ ?_ ⟨rfl, rfl⟩ (cw) fun _ => ?_
  · (repeat' (first | exact trivial | (refine And.intro ?_ ?_) | (decide +kernel) | exact rfl))
  (conv => whnf)
  (repeat' (first | (refine LoopE.step 300 ?_; (conv => whnf)) | (refine And.intro (fun _ => ?_) (fun h => absurd (by decide +kernel) h); (conv => whnf)) | (refine And.intro (fun h => absurd h (by decide +kernel)) (fun _ => ?_); (conv => whnf)) | (refine And.intro (inr64 (by decide +kernel) (by decide +kernel)) ?_; (conv => whnf)) | (refine And.intro (by decide +kernel) ?_; (conv => whnf)) | (refine AIdx.mk ⟨_, ⟨by decide +kernel, rfl⟩, ?_⟩; (conv => whnf)) | (refine ACut.mk ⟨by decide +kernel, ?_⟩; (conv => whnf)) | (refine AApp0.tok (by decide +kernel) (by decide +kernel) ?_; (conv => whnf)) | (refine AApp.mk (by decide +kernel) (by decide +kernel) ?_; (conv => whnf)) | (refine AMake.wr ?_; (conv => whnf)) | (refine ADraw.auto (by kernel_rfl) ?_; (conv => whnf))))
  (refine FinSpec.mono ?_; (conv => whnf); refine ⟨?_, rfl⟩; (conv => whnf))
  exact ⟨rfl, rfl⟩

theorem r_sub : FnH Tryz.prog 216 [wL [2147483648], wL [2147483648]] [] (.tup [wL [], .int .i64 0]) [] := by
  have cw := c_rWord [2147483648] 0
  have ct := c_rTrim [0] (by decide)
  rw [show wd (val [0]) = [] from by decide +kernel] at ct
  refine FnH.intro lay mixed Tryz.func216 (by kernel_rfl) rfl (by kernel_rfl) rfl fun hok => ?_
  (conv => whnf)
  (repeat' (first | (refine LoopE.step 300 ?_; (conv => whnf)) | (refine And.intro (fun _ => ?_) (fun h => absurd (by decide +kernel) h); (conv => whnf)) | (refine And.intro (fun h => absurd h (by decide +kernel)) (fun _ => ?_); (conv => whnf)) | (refine And.intro (inr64 (by decide +kernel) (by decide +kernel)) ?_; (conv => whnf)) | (refine And.intro (by decide +kernel) ?_; (conv => whnf)) | (refine AIdx.mk ⟨_, ⟨by decide +kernel, rfl⟩, ?_⟩; (conv => whnf)) | (refine ACut.mk ⟨by decide +kernel, ?_⟩; (conv => whnf)) | (refine AApp0.tok (by decide +kernel) (by decide +kernel) ?_; (conv => whnf)) | (refine AApp.mk (by decide +kernel) (by decide +kernel) ?_; (conv => whnf)) | (refine AMake.wr ?_; (conv => whnf)) | (refine ADraw.auto (by kernel_rfl) ?_; (conv => whnf))))
  refine .pure _ _ ?_ ⟨rfl, rfl⟩ (r_cmp) fun _ => ?_
  · (repeat' (first | exact trivial | (refine And.intro ?_ ?_) | (decide +kernel) | exact rfl))
  (conv => whnf)
  (repeat' (first | (refine LoopE.step 300 ?_; (conv => whnf)) | (refine And.intro (fun _ => ?_) (fun h => absurd (by decide +kernel) h); (conv => whnf)) | (refine And.intro (fun h => absurd h (by decide +kernel)) (fun _ => ?_); (conv => whnf)) | (refine And.intro (inr64 (by decide +kernel) (by decide +kernel)) ?_; (conv => whnf)) | (refine And.intro (by decide +kernel) ?_; (conv => whnf)) | (refine AIdx.mk ⟨_, ⟨by decide +kernel, rfl⟩, ?_⟩; (conv => whnf)) | (refine ACut.mk ⟨by decide +kernel, ?_⟩; (conv => whnf)) | (refine AApp0.tok (by decide +kernel) (by decide +kernel) ?_; (conv => whnf)) | (refine AApp.mk (by decide +kernel) (by decide +kernel) ?_; (conv => whnf)) | (refine AMake.wr ?_; (conv => whnf)) | (refine ADraw.auto (by kernel_rfl) ?_; (conv => whnf))))
  refine .pure _ _ ?_ ⟨rfl, rfl⟩ (cw) fun _ => ?_
  · (repeat' (first | exact trivial | (refine And.intro ?_ ?_) | (decide +kernel) | exact rfl))
  (conv => whnf)
  (repeat' (first | (refine LoopE.step 300 ?_; (conv => whnf)) | (refine And.intro (fun _ => ?_) (fun h => absurd (by decide +kernel) h); (conv => whnf)) | (refine And.intro (fun h => absurd h (by decide +kernel)) (fun _ => ?_); (conv => whnf)) | (refine And.intro (inr64 (by decide +kernel) (by decide +kernel)) ?_; (conv => whnf)) | (refine And.intro (by decide +kernel) ?_; (conv => whnf)) | (refine AIdx.mk ⟨_, ⟨by decide +kernel, rfl⟩, ?_⟩; (conv => whnf)) | (refine ACut.mk ⟨by decide +kernel, ?_⟩; (conv => whnf)) | (refine AApp0.tok (by decide +kernel) (by decide +kernel) ?_; (conv => whnf)) | (refine AApp.mk (by decide +kernel) (by decide +kernel) ?_; (conv => whnf)) | (refine AMake.wr ?_; (conv => whnf)) | (refine ADraw.auto (by kernel_rfl) ?_; (conv => whnf))))
  refine .pure _ _ ?_ ⟨rfl, rfl⟩ (cw) fun _ => ?_
  · (repeat' (first | exact trivial | (refine And.intro ?_ ?_) | (decide +kernel) | exact rfl))
  (conv => whnf)
  (repeat' (first | (refine LoopE.step 300 ?_; (conv => whnf)) | (refine And.intro (fun _ => ?_) (fun h => absurd (by decide +kernel) h); (conv => whnf)) | (refine And.intro (fun h => absurd h (by decide +kernel)) (fun _ => ?_); (conv => whnf)) | (refine And.intro (inr64 (by decide +kernel) (by decide +kernel)) ?_; (conv => whnf)) | (refine And.intro (by decide +kernel) ?_; (conv => whnf)) | (refine AIdx.mk ⟨_, ⟨by decide +kernel, rfl⟩, ?_⟩; (conv => whnf)) | (refine ACut.mk ⟨by decide +kernel, ?_⟩; (conv => whnf)) | (refine AApp0.tok (by decide +kernel) (by decide +kernel) ?_; (conv => whnf)) | (refine AApp.mk (by decide +kernel) (by decide +kernel) ?_; (conv => whnf)) | (refine AMake.wr ?_; (conv => whnf)) | (refine ADraw.auto (by kernel_rfl) ?_; (conv => whnf))))
  refine .pure _ _ ?_ ⟨rfl, rfl⟩ (ct) fun _ => ?_
  · (repeat' (first | exact trivial | (refine And.intro ?_ ?_) | (decide +kernel) | exact rfl))
  (conv => whnf)
  (repeat' (first | (refine LoopE.step 300 ?_; (conv => whnf)) | (refine And.intro (fun _ => ?_) (fun h => absurd (by decide +kernel) h); (conv => whnf)) | (refine And.intro (fun h => absurd h (by decide +kernel)) (fun _ => ?_); (conv => whnf)) | (refine And.intro (inr64 (by decide +kernel) (by decide +kernel)) ?_; (conv => whnf)) | (refine And.intro (by decide +kernel) ?_; (conv => whnf)) | (refine AIdx.mk ⟨_, ⟨by decide +kernel, rfl⟩, ?_⟩; (conv => whnf)) | (refine ACut.mk ⟨by decide +kernel, ?_⟩; (conv => whnf)) | (refine AApp0.tok (by decide +kernel) (by decide +kernel) ?_; (conv => whnf)) | (refine AApp.mk (by decide +kernel) (by decide +kernel) ?_; (conv => whnf)) | (refine AMake.wr ?_; (conv => whnf)) | (refine ADraw.auto (by kernel_rfl) ?_; (conv => whnf))))
  (refine FinSpec.mono ?_; (conv => whnf); refine ⟨?_, rfl⟩; (conv => whnf))
  (repeat' (first | exact rfl | exact trivial | exact HWk.refl rfl | exact leRL_refl _ | (refine And.intro ?_ ?_)))

theorem r_down : FnH Tryz.prog 217 [wL [], .int .i64 31] [] (wL []) [] := by
  have ct := c_rTrim [] (by decide)
  rw [show wd (val []) = [] from by decide +kernel] at ct
  refine FnH.intro lay mixed Tryz.func217 (by kernel_rfl) rfl (by kernel_rfl) rfl fun hok => ?_
  (conv => whnf)
  (repeat' (first | (refine LoopE.step 300 ?_; (conv => whnf)) | (refine And.intro (fun _ => ?_) (fun h => absurd (by decide +kernel) h); (conv => whnf)) | (refine And.intro (fun h => absurd h (by decide +kernel)) (fun _ => ?_); (conv => whnf)) | (refine And.intro (inr64 (by decide +kernel) (by decide +kernel)) ?_; (conv => whnf)) | (refine And.intro (by decide +kernel) ?_; (conv => whnf)) | (refine AIdx.mk ⟨_, ⟨by decide +kernel, rfl⟩, ?_⟩; (conv => whnf)) | (refine ACut.mk ⟨by decide +kernel, ?_⟩; (conv => whnf)) | (refine AApp0.tok (by decide +kernel) (by decide +kernel) ?_; (conv => whnf)) | (refine AApp.mk (by decide +kernel) (by decide +kernel) ?_; (conv => whnf)) | (refine AMake.wr ?_; (conv => whnf)) | (refine ADraw.auto (by kernel_rfl) ?_; (conv => whnf))))
  refine .pure _ _ ?_ ⟨rfl, rfl⟩ (ct) fun _ => ?_
  · (repeat' (first | exact trivial | (refine And.intro ?_ ?_) | (decide +kernel) | exact rfl))
  (conv => whnf)
  (repeat' (first | (refine LoopE.step 300 ?_; (conv => whnf)) | (refine And.intro (fun _ => ?_) (fun h => absurd (by decide +kernel) h); (conv => whnf)) | (refine And.intro (fun h => absurd h (by decide +kernel)) (fun _ => ?_); (conv => whnf)) | (refine And.intro (inr64 (by decide +kernel) (by decide +kernel)) ?_; (conv => whnf)) | (refine And.intro (by decide +kernel) ?_; (conv => whnf)) | (refine AIdx.mk ⟨_, ⟨by decide +kernel, rfl⟩, ?_⟩; (conv => whnf)) | (refine ACut.mk ⟨by decide +kernel, ?_⟩; (conv => whnf)) | (refine AApp0.tok (by decide +kernel) (by decide +kernel) ?_; (conv => whnf)) | (refine AApp.mk (by decide +kernel) (by decide +kernel) ?_; (conv => whnf)) | (refine AMake.wr ?_; (conv => whnf)) | (refine ADraw.auto (by kernel_rfl) ?_; (conv => whnf))))
  (refine FinSpec.mono ?_; (conv => whnf); refine ⟨?_, rfl⟩; (conv => whnf))
  (repeat' (first | exact rfl | exact trivial | exact HWk.refl rfl | exact leRL_refl _ | (refine And.intro ?_ ?_)))

theorem r_mul : FnH Tryz.prog 140 [wL [2147483648], wL [1]] [] (wL [2147483648]) [] := by
  have cw0 := c_rWord [1] 0
  have cw1 := c_rWord [1] 1
  have ct := c_rTrim [2147483648, 0, 0] (by decide)
  rw [show wd (val [2147483648, 0, 0]) = [2147483648] from by decide +kernel] at ct
  refine FnH.intro lay mixed Tryz.func140 (by kernel_rfl) rfl (by kernel_rfl) rfl fun hok => ?_
  (conv => whnf)
  (repeat' (first | (refine LoopE.step 300 ?_; (conv => whnf)) | (refine And.intro (fun _ => ?_) (fun h => absurd (by decide +kernel) h); (conv => whnf)) | (refine And.intro (fun h => absurd h (by decide +kernel)) (fun _ => ?_); (conv => whnf)) | (refine And.intro (inr64 (by decide +kernel) (by decide +kernel)) ?_; (conv => whnf)) | (refine And.intro (by decide +kernel) ?_; (conv => whnf)) | (refine AIdx.mk ⟨_, ⟨by decide +kernel, rfl⟩, ?_⟩; (conv => whnf)) | (refine ACut.mk ⟨by decide +kernel, ?_⟩; (conv => whnf)) | (refine AApp0.tok (by decide +kernel) (by decide +kernel) ?_; (conv => whnf)) | (refine AApp.mk (by decide +kernel) (by decide +kernel) ?_; (conv => whnf)) | (refine AMake.wr ?_; (conv => whnf)) | (refine ADraw.auto (by kernel_rfl) ?_; (conv => whnf))))
  refine ACallP.pure _ _ ?_ ⟨rfl, rfl⟩ (cw0) ?_
  · (repeat' (first | exact trivial | (refine And.intro ?_ ?_) | (decide +kernel) | exact rfl))
  (conv => whnf)
  (repeat' (first | (refine LoopE.step 300 ?_; (conv => whnf)) | (refine And.intro (fun _ => ?_) (fun h => absurd (by decide +kernel) h); (conv => whnf)) | (refine And.intro (fun h => absurd h (by decide +kernel)) (fun _ => ?_); (conv => whnf)) | (refine And.intro (inr64 (by decide +kernel) (by decide +kernel)) ?_; (conv => whnf)) | (refine And.intro (by decide +kernel) ?_; (conv => whnf)) | (refine AIdx.mk ⟨_, ⟨by decide +kernel, rfl⟩, ?_⟩; (conv => whnf)) | (refine ACut.mk ⟨by decide +kernel, ?_⟩; (conv => whnf)) | (refine AApp0.tok (by decide +kernel) (by decide +kernel) ?_; (conv => whnf)) | (refine AApp.mk (by decide +kernel) (by decide +kernel) ?_; (conv => whnf)) | (refine AMake.wr ?_; (conv => whnf)) | (refine ADraw.auto (by kernel_rfl) ?_; (conv => whnf))))
  refine ACallP.pure _ _ ?_ ⟨rfl, rfl⟩ (cw1) ?_
  · (repeat' (first | exact trivial | (refine And.intro ?_ ?_) | (decide +kernel) | exact rfl))
  (conv => whnf)
  (repeat' (first | (refine LoopE.step 300 ?_; (conv => whnf)) | (refine And.intro (fun _ => ?_) (fun h => absurd (by decide +kernel) h); (conv => whnf)) | (refine And.intro (fun h => absurd h (by decide +kernel)) (fun _ => ?_); (conv => whnf)) | (refine And.intro (inr64 (by decide +kernel) (by decide +kernel)) ?_; (conv => whnf)) | (refine And.intro (by decide +kernel) ?_; (conv => whnf)) | (refine AIdx.mk ⟨_, ⟨by decide +kernel, rfl⟩, ?_⟩; (conv => whnf)) | (refine ACut.mk ⟨by decide +kernel, ?_⟩; (conv => whnf)) | (refine AApp0.tok (by decide +kernel) (by decide +kernel) ?_; (conv => whnf)) | (refine AApp.mk (by decide +kernel) (by decide +kernel) ?_; (conv => whnf)) | (refine AMake.wr ?_; (conv => whnf)) | (refine ADraw.auto (by kernel_rfl) ?_; (conv => whnf))))
  refine .gen _ _ (FnH.frz 0 rfl rfl (by decide +kernel) (FnH.ofPure (ct) ?_ ⟨rfl, rfl⟩)) fun _ => ?_
  · (repeat' (first | exact trivial | (refine And.intro ?_ ?_) | (decide +kernel) | exact rfl))
  (conv => whnf)
  (repeat' (first | (refine LoopE.step 300 ?_; (conv => whnf)) | (refine And.intro (fun _ => ?_) (fun h => absurd (by decide +kernel) h); (conv => whnf)) | (refine And.intro (fun h => absurd h (by decide +kernel)) (fun _ => ?_); (conv => whnf)) | (refine And.intro (inr64 (by decide +kernel) (by decide +kernel)) ?_; (conv => whnf)) | (refine And.intro (by decide +kernel) ?_; (conv => whnf)) | (refine AIdx.mk ⟨_, ⟨by decide +kernel, rfl⟩, ?_⟩; (conv => whnf)) | (refine ACut.mk ⟨by decide +kernel, ?_⟩; (conv => whnf)) | (refine AApp0.tok (by decide +kernel) (by decide +kernel) ?_; (conv => whnf)) | (refine AApp.mk (by decide +kernel) (by decide +kernel) ?_; (conv => whnf)) | (refine AMake.wr ?_; (conv => whnf)) | (refine ADraw.auto (by kernel_rfl) ?_; (conv => whnf))))
  (refine FinSpec.mono ?_; (conv => whnf); refine ⟨?_, rfl⟩; (conv => whnf))
  (repeat' (first | exact rfl | exact trivial | exact HWk.refl rfl | exact leRL_refl _ | (refine And.intro ?_ ?_)))

theorem r_div11 : FnH Tryz.prog 189 [wL [1], wL [1]] [] (.tup [wL [1], wL [], .int .i64 0]) [] := by
  have cw0 := c_rWord [2147483648] 0
  have cw1 := c_rWord [2147483648] 1
  have ct1 := c_rTrim [1] (by decide)
  rw [show wd (val [1]) = [1] from by decide +kernel] at ct1
  have ct2 := c_rTrim [2147483648] (by decide)
  rw [show wd (val [2147483648]) = [2147483648] from by decide +kernel] at ct2
  refine FnH.intro lay mixed Tryz.func189 (by kernel_rfl) rfl (by kernel_rfl) rfl fun hok => ?_
  (conv => whnf)
  refine .pure _ _ ?_ ⟨rfl, rfl⟩ (ct1) fun _ => ?_
  · (repeat' (first | exact trivial | (refine And.intro ?_ ?_) | (decide +kernel) | exact rfl))
  (conv => whnf)
  (repeat' (first | (refine LoopE.step 300 ?_; (conv => whnf)) | (refine And.intro (fun _ => ?_) (fun h => absurd (by decide +kernel) h); (conv => whnf)) | (refine And.intro (fun h => absurd h (by decide +kernel)) (fun _ => ?_); (conv => whnf)) | (refine And.intro (inr64 (by decide +kernel) (by decide +kernel)) ?_; (conv => whnf)) | (refine And.intro (by decide +kernel) ?_; (conv => whnf)) | (refine AIdx.mk ⟨_, ⟨by decide +kernel, rfl⟩, ?_⟩; (conv => whnf)) | (refine ACut.mk ⟨by decide +kernel, ?_⟩; (conv => whnf)) | (refine AApp0.tok (by decide +kernel) (by decide +kernel) ?_; (conv => whnf)) | (refine AApp.mk (by decide +kernel) (by decide +kernel) ?_; (conv => whnf)) | (refine AMake.wr ?_; (conv => whnf)) | (refine ADraw.auto (by kernel_rfl) ?_; (conv => whnf))))
  refine .pure _ _ ?_ ⟨rfl, rfl⟩ (r_up1) fun _ => ?_
  · (repeat' (first | exact trivial | (refine And.intro ?_ ?_) | (decide +kernel) | exact rfl))
  (conv => whnf)
  refine .pure _ _ ?_ ⟨rfl, rfl⟩ (r_up1) fun _ => ?_
  · (repeat' (first | exact trivial | (refine And.intro ?_ ?_) | (decide +kernel) | exact rfl))
  (conv => whnf)
  refine ADraw.mk ⟨[true, true, false, true, true, true, true, true, true, true, true, true, true, true, true], by kernel_rfl, ?_⟩
  (conv => whnf)
  refine And.intro (by decide +kernel) (.wr ?_)
  (conv => whnf)
  refine And.intro (inr64 (by decide +kernel) (by decide +kernel)) ?_
  (conv => whnf)
  refine And.intro (inr64 (by decide +kernel) (by decide +kernel)) ?_
  (conv => whnf)
  refine ACut.mk ⟨by decide +kernel, ?_⟩
  (conv => whnf)
  refine AApp0.pure (by decide +kernel) (by decide +kernel) ⟨rfl, ?_⟩
  (conv => whnf)
  (repeat' (first | (refine LoopE.step 300 ?_; (conv => whnf)) | (refine And.intro (fun _ => ?_) (fun h => absurd (by decide +kernel) h); (conv => whnf)) | (refine And.intro (fun h => absurd h (by decide +kernel)) (fun _ => ?_); (conv => whnf)) | (refine And.intro (inr64 (by decide +kernel) (by decide +kernel)) ?_; (conv => whnf)) | (refine And.intro (by decide +kernel) ?_; (conv => whnf)) | (refine AIdx.mk ⟨_, ⟨by decide +kernel, rfl⟩, ?_⟩; (conv => whnf)) | (refine ACut.mk ⟨by decide +kernel, ?_⟩; (conv => whnf)) | (refine AApp0.tok (by decide +kernel) (by decide +kernel) ?_; (conv => whnf)) | (refine AApp.mk (by decide +kernel) (by decide +kernel) ?_; (conv => whnf)) | (refine AMake.wr ?_; (conv => whnf)) | (refine ADraw.auto (by kernel_rfl) ?_; (conv => whnf))))
  refine .pure _ _ ?_ ⟨rfl, rfl⟩ (ct2) fun _ => ?_
  · (repeat' (first | exact trivial | (refine And.intro ?_ ?_) | (decide +kernel) | exact rfl))
  (conv => whnf)
  (repeat' (first | (refine LoopE.step 300 ?_; (conv => whnf)) | (refine And.intro (fun _ => ?_) (fun h => absurd (by decide +kernel) h); (conv => whnf)) | (refine And.intro (fun h => absurd h (by decide +kernel)) (fun _ => ?_); (conv => whnf)) | (refine And.intro (inr64 (by decide +kernel) (by decide +kernel)) ?_; (conv => whnf)) | (refine And.intro (by decide +kernel) ?_; (conv => whnf)) | (refine AIdx.mk ⟨_, ⟨by decide +kernel, rfl⟩, ?_⟩; (conv => whnf)) | (refine ACut.mk ⟨by decide +kernel, ?_⟩; (conv => whnf)) | (refine AApp0.tok (by decide +kernel) (by decide +kernel) ?_; (conv => whnf)) | (refine AApp.mk (by decide +kernel) (by decide +kernel) ?_; (conv => whnf)) | (refine AMake.wr ?_; (conv => whnf)) | (refine ADraw.auto (by kernel_rfl) ?_; (conv => whnf))))
  refine .pure _ _ ?_ ⟨rfl, rfl⟩ (cw1) fun _ => ?_
  · (repeat' (first | exact trivial | (refine And.intro ?_ ?_) | (decide +kernel) | exact rfl))
  (conv => whnf)
  (repeat' (first | (refine LoopE.step 300 ?_; (conv => whnf)) | (refine And.intro (fun _ => ?_) (fun h => absurd (by decide +kernel) h); (conv => whnf)) | (refine And.intro (fun h => absurd h (by decide +kernel)) (fun _ => ?_); (conv => whnf)) | (refine And.intro (inr64 (by decide +kernel) (by decide +kernel)) ?_; (conv => whnf)) | (refine And.intro (by decide +kernel) ?_; (conv => whnf)) | (refine AIdx.mk ⟨_, ⟨by decide +kernel, rfl⟩, ?_⟩; (conv => whnf)) | (refine ACut.mk ⟨by decide +kernel, ?_⟩; (conv => whnf)) | (refine AApp0.tok (by decide +kernel) (by decide +kernel) ?_; (conv => whnf)) | (refine AApp.mk (by decide +kernel) (by decide +kernel) ?_; (conv => whnf)) | (refine AMake.wr ?_; (conv => whnf)) | (refine ADraw.auto (by kernel_rfl) ?_; (conv => whnf))))
  refine .pure _ _ ?_ ⟨rfl, rfl⟩ (cw0) fun _ => ?_
  · (repeat' (first | exact trivial | (refine And.intro ?_ ?_) | (decide +kernel) | exact rfl))
  (conv => whnf)
  (repeat' (first | (refine LoopE.step 300 ?_; (conv => whnf)) | (refine And.intro (fun _ => ?_) (fun h => absurd (by decide +kernel) h); (conv => whnf)) | (refine And.intro (fun h => absurd h (by decide +kernel)) (fun _ => ?_); (conv => whnf)) | (refine And.intro (inr64 (by decide +kernel) (by decide +kernel)) ?_; (conv => whnf)) | (refine And.intro (by decide +kernel) ?_; (conv => whnf)) | (refine AIdx.mk ⟨_, ⟨by decide +kernel, rfl⟩, ?_⟩; (conv => whnf)) | (refine ACut.mk ⟨by decide +kernel, ?_⟩; (conv => whnf)) | (refine AApp0.tok (by decide +kernel) (by decide +kernel) ?_; (conv => whnf)) | (refine AApp.mk (by decide +kernel) (by decide +kernel) ?_; (conv => whnf)) | (refine AMake.wr ?_; (conv => whnf)) | (refine ADraw.auto (by kernel_rfl) ?_; (conv => whnf))))
  refine .pure _ _ ?_ ⟨rfl, rfl⟩ (cw0) fun _ => ?_
  · (repeat' (first | exact trivial | (refine And.intro ?_ ?_) | (decide +kernel) | exact rfl))
  (conv => whnf)
  (repeat' (first | (refine LoopE.step 300 ?_; (conv => whnf)) | (refine And.intro (fun _ => ?_) (fun h => absurd (by decide +kernel) h); (conv => whnf)) | (refine And.intro (fun h => absurd h (by decide +kernel)) (fun _ => ?_); (conv => whnf)) | (refine And.intro (inr64 (by decide +kernel) (by decide +kernel)) ?_; (conv => whnf)) | (refine And.intro (by decide +kernel) ?_; (conv => whnf)) | (refine AIdx.mk ⟨_, ⟨by decide +kernel, rfl⟩, ?_⟩; (conv => whnf)) | (refine ACut.mk ⟨by decide +kernel, ?_⟩; (conv => whnf)) | (refine AApp0.tok (by decide +kernel) (by decide +kernel) ?_; (conv => whnf)) | (refine AApp.mk (by decide +kernel) (by decide +kernel) ?_; (conv => whnf)) | (refine AMake.wr ?_; (conv => whnf)) | (refine ADraw.auto (by kernel_rfl) ?_; (conv => whnf))))
  refine .pure _ _ ?_ ⟨rfl, rfl⟩ (r_mul) fun _ => ?_
  · (repeat' (first | exact trivial | (refine And.intro ?_ ?_) | (decide +kernel) | exact rfl))
  (conv => whnf)
  (repeat' (first | (refine LoopE.step 300 ?_; (conv => whnf)) | (refine And.intro (fun _ => ?_) (fun h => absurd (by decide +kernel) h); (conv => whnf)) | (refine And.intro (fun h => absurd h (by decide +kernel)) (fun _ => ?_); (conv => whnf)) | (refine And.intro (inr64 (by decide +kernel) (by decide +kernel)) ?_; (conv => whnf)) | (refine And.intro (by decide +kernel) ?_; (conv => whnf)) | (refine AIdx.mk ⟨_, ⟨by decide +kernel, rfl⟩, ?_⟩; (conv => whnf)) | (refine ACut.mk ⟨by decide +kernel, ?_⟩; (conv => whnf)) | (refine AApp0.tok (by decide +kernel) (by decide +kernel) ?_; (conv => whnf)) | (refine AApp.mk (by decide +kernel) (by decide +kernel) ?_; (conv => whnf)) | (refine AMake.wr ?_; (conv => whnf)) | (refine ADraw.auto (by kernel_rfl) ?_; (conv => whnf))))
  refine .pure _ _ ?_ ⟨rfl, rfl⟩ (r_cmp) fun _ => ?_
  · (repeat' (first | exact trivial | (refine And.intro ?_ ?_) | (decide +kernel) | exact rfl))
  (conv => whnf)
  (repeat' (first | (refine LoopE.step 300 ?_; (conv => whnf)) | (refine And.intro (fun _ => ?_) (fun h => absurd (by decide +kernel) h); (conv => whnf)) | (refine And.intro (fun h => absurd h (by decide +kernel)) (fun _ => ?_); (conv => whnf)) | (refine And.intro (inr64 (by decide +kernel) (by decide +kernel)) ?_; (conv => whnf)) | (refine And.intro (by decide +kernel) ?_; (conv => whnf)) | (refine AIdx.mk ⟨_, ⟨by decide +kernel, rfl⟩, ?_⟩; (conv => whnf)) | (refine ACut.mk ⟨by decide +kernel, ?_⟩; (conv => whnf)) | (refine AApp0.tok (by decide +kernel) (by decide +kernel) ?_; (conv => whnf)) | (refine AApp.mk (by decide +kernel) (by decide +kernel) ?_; (conv => whnf)) | (refine AMake.wr ?_; (conv => whnf)) | (refine ADraw.auto (by kernel_rfl) ?_; (conv => whnf))))
  refine .pure _ _ ?_ ⟨rfl, rfl⟩ (r_sub) fun _ => ?_
  · (repeat' (first | exact trivial | (refine And.intro ?_ ?_) | (decide +kernel) | exact rfl))
  (conv => whnf)
  (repeat' (first | (refine LoopE.step 300 ?_; (conv => whnf)) | (refine And.intro (fun _ => ?_) (fun h => absurd (by decide +kernel) h); (conv => whnf)) | (refine And.intro (fun h => absurd h (by decide +kernel)) (fun _ => ?_); (conv => whnf)) | (refine And.intro (inr64 (by decide +kernel) (by decide +kernel)) ?_; (conv => whnf)) | (refine And.intro (by decide +kernel) ?_; (conv => whnf)) | (refine AIdx.mk ⟨_, ⟨by decide +kernel, rfl⟩, ?_⟩; (conv => whnf)) | (refine ACut.mk ⟨by decide +kernel, ?_⟩; (conv => whnf)) | (refine AApp0.tok (by decide +kernel) (by decide +kernel) ?_; (conv => whnf)) | (refine AApp.mk (by decide +kernel) (by decide +kernel) ?_; (conv => whnf)) | (refine AMake.wr ?_; (conv => whnf)) | (refine ADraw.auto (by kernel_rfl) ?_; (conv => whnf))))
  refine .gen _ _ (FnH.frz 0 rfl rfl (by decide +kernel) (FnH.ofPure (ct1) ?_ ⟨rfl, rfl⟩)) fun _ => ?_
  · (repeat' (first | exact trivial | (refine And.intro ?_ ?_) | (decide +kernel) | exact rfl))
  (conv => whnf)
  (repeat' (first | (refine LoopE.step 300 ?_; (conv => whnf)) | (refine And.intro (fun _ => ?_) (fun h => absurd (by decide +kernel) h); (conv => whnf)) | (refine And.intro (fun h => absurd h (by decide +kernel)) (fun _ => ?_); (conv => whnf)) | (refine And.intro (inr64 (by decide +kernel) (by decide +kernel)) ?_; (conv => whnf)) | (refine And.intro (by decide +kernel) ?_; (conv => whnf)) | (refine AIdx.mk ⟨_, ⟨by decide +kernel, rfl⟩, ?_⟩; (conv => whnf)) | (refine ACut.mk ⟨by decide +kernel, ?_⟩; (conv => whnf)) | (refine AApp0.tok (by decide +kernel) (by decide +kernel) ?_; (conv => whnf)) | (refine AApp.mk (by decide +kernel) (by decide +kernel) ?_; (conv => whnf)) | (refine AMake.wr ?_; (conv => whnf)) | (refine ADraw.auto (by kernel_rfl) ?_; (conv => whnf))))
  refine .pure _ _ ?_ ⟨rfl, rfl⟩ (r_down) fun _ => ?_
  · (repeat' (first | exact trivial | (refine And.intro ?_ ?_) | (decide +kernel) | exact rfl))
  (conv => whnf)
  (repeat' (first | (refine LoopE.step 300 ?_; (conv => whnf)) | (refine And.intro (fun _ => ?_) (fun h => absurd (by decide +kernel) h); (conv => whnf)) | (refine And.intro (fun h => absurd h (by decide +kernel)) (fun _ => ?_); (conv => whnf)) | (refine And.intro (inr64 (by decide +kernel) (by decide +kernel)) ?_; (conv => whnf)) | (refine And.intro (by decide +kernel) ?_; (conv => whnf)) | (refine AIdx.mk ⟨_, ⟨by decide +kernel, rfl⟩, ?_⟩; (conv => whnf)) | (refine ACut.mk ⟨by decide +kernel, ?_⟩; (conv => whnf)) | (refine AApp0.tok (by decide +kernel) (by decide +kernel) ?_; (conv => whnf)) | (refine AApp.mk (by decide +kernel) (by decide +kernel) ?_; (conv => whnf)) | (refine AMake.wr ?_; (conv => whnf)) | (refine ADraw.auto (by kernel_rfl) ?_; (conv => whnf))))
  (refine FinSpec.mono ?_; (conv => whnf); refine ⟨?_, rfl⟩; (conv => whnf))
  (repeat' (first | exact trivial | (refine And.intro ?_ ?_) | (decide +kernel) | exact rfl))

theorem r_div101 : FnH Tryz.prog 189 [wL [1, 0], wL [1]] [] (.tup [wL [1], wL [], .int .i64 0]) [] := by
  have cw0 := c_rWord [2147483648] 0
  have cw1 := c_rWord [2147483648] 1
  have ct1 := c_rTrim [1] (by decide)
  rw [show wd (val [1]) = [1] from by decide +kernel] at ct1
  have ct2 := c_rTrim [2147483648] (by decide)
  rw [show wd (val [2147483648]) = [2147483648] from by decide +kernel] at ct2
  refine FnH.intro lay mixed Tryz.func189 (by kernel_rfl) rfl (by kernel_rfl) rfl fun hok => ?_
  (conv => whnf)
  refine .pure _ _ ?_ ⟨rfl, rfl⟩ (ct1) fun _ => ?_
  · (repeat' (first | exact trivial | (refine And.intro ?_ ?_) | (decide +kernel) | exact rfl))
  (conv => whnf)
  (repeat' (first | (refine LoopE.step 300 ?_; (conv => whnf)) | (refine And.intro (fun _ => ?_) (fun h => absurd (by decide +kernel) h); (conv => whnf)) | (refine And.intro (fun h => absurd h (by decide +kernel)) (fun _ => ?_); (conv => whnf)) | (refine And.intro (inr64 (by decide +kernel) (by decide +kernel)) ?_; (conv => whnf)) | (refine And.intro (by decide +kernel) ?_; (conv => whnf)) | (refine AIdx.mk ⟨_, ⟨by decide +kernel, rfl⟩, ?_⟩; (conv => whnf)) | (refine ACut.mk ⟨by decide +kernel, ?_⟩; (conv => whnf)) | (refine AApp0.tok (by decide +kernel) (by decide +kernel) ?_; (conv => whnf)) | (refine AApp.mk (by decide +kernel) (by decide +kernel) ?_; (conv => whnf)) | (refine AMake.wr ?_; (conv => whnf)) | (refine ADraw.auto (by kernel_rfl) ?_; (conv => whnf))))
  refine .pure _ _ ?_ ⟨rfl, rfl⟩ (r_up2) fun _ => ?_
  · (repeat' (first | exact trivial | (refine And.intro ?_ ?_) | (decide +kernel) | exact rfl))
  (conv => whnf)
  refine .pure _ _ ?_ ⟨rfl, rfl⟩ (r_up1) fun _ => ?_
  · (repeat' (first | exact trivial | (refine And.intro ?_ ?_) | (decide +kernel) | exact rfl))
  (conv => whnf)
  refine ADraw.mk ⟨[true, true, false, true, true, true, true, true, true, true, true, true, true, true, true], by kernel_rfl, ?_⟩
  (conv => whnf)
  refine And.intro (by decide +kernel) (.wr ?_)
  (conv => whnf)
  refine And.intro (inr64 (by decide +kernel) (by decide +kernel)) ?_
  (conv => whnf)
  refine And.intro (inr64 (by decide +kernel) (by decide +kernel)) ?_
  (conv => whnf)
  refine ACut.mk ⟨by decide +kernel, ?_⟩
  (conv => whnf)
  refine AApp0.pure (by decide +kernel) (by decide +kernel) ⟨rfl, ?_⟩
  (conv => whnf)
  (repeat' (first | (refine LoopE.step 300 ?_; (conv => whnf)) | (refine And.intro (fun _ => ?_) (fun h => absurd (by decide +kernel) h); (conv => whnf)) | (refine And.intro (fun h => absurd h (by decide +kernel)) (fun _ => ?_); (conv => whnf)) | (refine And.intro (inr64 (by decide +kernel) (by decide +kernel)) ?_; (conv => whnf)) | (refine And.intro (by decide +kernel) ?_; (conv => whnf)) | (refine AIdx.mk ⟨_, ⟨by decide +kernel, rfl⟩, ?_⟩; (conv => whnf)) | (refine ACut.mk ⟨by decide +kernel, ?_⟩; (conv => whnf)) | (refine AApp0.tok (by decide +kernel) (by decide +kernel) ?_; (conv => whnf)) | (refine AApp.mk (by decide +kernel) (by decide +kernel) ?_; (conv => whnf)) | (refine AMake.wr ?_; (conv => whnf)) | (refine ADraw.auto (by kernel_rfl) ?_; (conv => whnf))))
  refine .pure _ _ ?_ ⟨rfl, rfl⟩ (ct2) fun _ => ?_
  · (repeat' (first | exact trivial | (refine And.intro ?_ ?_) | (decide +kernel) | exact rfl))
  (conv => whnf)
  (repeat' (first | (refine LoopE.step 300 ?_; (conv => whnf)) | (refine And.intro (fun _ => ?_) (fun h => absurd (by decide +kernel) h); (conv => whnf)) | (refine And.intro (fun h => absurd h (by decide +kernel)) (fun _ => ?_); (conv => whnf)) | (refine And.intro (inr64 (by decide +kernel) (by decide +kernel)) ?_; (conv => whnf)) | (refine And.intro (by decide +kernel) ?_; (conv => whnf)) | (refine AIdx.mk ⟨_, ⟨by decide +kernel, rfl⟩, ?_⟩; (conv => whnf)) | (refine ACut.mk ⟨by decide +kernel, ?_⟩; (conv => whnf)) | (refine AApp0.tok (by decide +kernel) (by decide +kernel) ?_; (conv => whnf)) | (refine AApp.mk (by decide +kernel) (by decide +kernel) ?_; (conv => whnf)) | (refine AMake.wr ?_; (conv => whnf)) | (refine ADraw.auto (by kernel_rfl) ?_; (conv => whnf))))
  refine .pure _ _ ?_ ⟨rfl, rfl⟩ (cw1) fun _ => ?_
  · (repeat' (first | exact trivial | (refine And.intro ?_ ?_) | (decide +kernel) | exact rfl))
  (conv => whnf)
  (repeat' (first | (refine LoopE.step 300 ?_; (conv => whnf)) | (refine And.intro (fun _ => ?_) (fun h => absurd (by decide +kernel) h); (conv => whnf)) | (refine And.intro (fun h => absurd h (by decide +kernel)) (fun _ => ?_); (conv => whnf)) | (refine And.intro (inr64 (by decide +kernel) (by decide +kernel)) ?_; (conv => whnf)) | (refine And.intro (by decide +kernel) ?_; (conv => whnf)) | (refine AIdx.mk ⟨_, ⟨by decide +kernel, rfl⟩, ?_⟩; (conv => whnf)) | (refine ACut.mk ⟨by decide +kernel, ?_⟩; (conv => whnf)) | (refine AApp0.tok (by decide +kernel) (by decide +kernel) ?_; (conv => whnf)) | (refine AApp.mk (by decide +kernel) (by decide +kernel) ?_; (conv => whnf)) | (refine AMake.wr ?_; (conv => whnf)) | (refine ADraw.auto (by kernel_rfl) ?_; (conv => whnf))))
  refine .pure _ _ ?_ ⟨rfl, rfl⟩ (cw0) fun _ => ?_
  · (repeat' (first | exact trivial | (refine And.intro ?_ ?_) | (decide +kernel) | exact rfl))
  (conv => whnf)
  (repeat' (first | (refine LoopE.step 300 ?_; (conv => whnf)) | (refine And.intro (fun _ => ?_) (fun h => absurd (by decide +kernel) h); (conv => whnf)) | (refine And.intro (fun h => absurd h (by decide +kernel)) (fun _ => ?_); (conv => whnf)) | (refine And.intro (inr64 (by decide +kernel) (by decide +kernel)) ?_; (conv => whnf)) | (refine And.intro (by decide +kernel) ?_; (conv => whnf)) | (refine AIdx.mk ⟨_, ⟨by decide +kernel, rfl⟩, ?_⟩; (conv => whnf)) | (refine ACut.mk ⟨by decide +kernel, ?_⟩; (conv => whnf)) | (refine AApp0.tok (by decide +kernel) (by decide +kernel) ?_; (conv => whnf)) | (refine AApp.mk (by decide +kernel) (by decide +kernel) ?_; (conv => whnf)) | (refine AMake.wr ?_; (conv => whnf)) | (refine ADraw.auto (by kernel_rfl) ?_; (conv => whnf))))
  refine .pure _ _ ?_ ⟨rfl, rfl⟩ (cw0) fun _ => ?_
  · (repeat' (first | exact trivial | (refine And.intro ?_ ?_) | (decide +kernel) | exact rfl))
  (conv => whnf)
  (repeat' (first | (refine LoopE.step 300 ?_; (conv => whnf)) | (refine And.intro (fun _ => ?_) (fun h => absurd (by decide +kernel) h); (conv => whnf)) | (refine And.intro (fun h => absurd h (by decide +kernel)) (fun _ => ?_); (conv => whnf)) | (refine And.intro (inr64 (by decide +kernel) (by decide +kernel)) ?_; (conv => whnf)) | (refine And.intro (by decide +kernel) ?_; (conv => whnf)) | (refine AIdx.mk ⟨_, ⟨by decide +kernel, rfl⟩, ?_⟩; (conv => whnf)) | (refine ACut.mk ⟨by decide +kernel, ?_⟩; (conv => whnf)) | (refine AApp0.tok (by decide +kernel) (by decide +kernel) ?_; (conv => whnf)) | (refine AApp.mk (by decide +kernel) (by decide +kernel) ?_; (conv => whnf)) | (refine AMake.wr ?_; (conv => whnf)) | (refine ADraw.auto (by kernel_rfl) ?_; (conv => whnf))))
  refine .pure _ _ ?_ ⟨rfl, rfl⟩ (r_mul) fun _ => ?_
  · (repeat' (first | exact trivial | (refine And.intro ?_ ?_) | (decide +kernel) | exact rfl))
  (conv => whnf)
  (repeat' (first | (refine LoopE.step 300 ?_; (conv => whnf)) | (refine And.intro (fun _ => ?_) (fun h => absurd (by decide +kernel) h); (conv => whnf)) | (refine And.intro (fun h => absurd h (by decide +kernel)) (fun _ => ?_); (conv => whnf)) | (refine And.intro (inr64 (by decide +kernel) (by decide +kernel)) ?_; (conv => whnf)) | (refine And.intro (by decide +kernel) ?_; (conv => whnf)) | (refine AIdx.mk ⟨_, ⟨by decide +kernel, rfl⟩, ?_⟩; (conv => whnf)) | (refine ACut.mk ⟨by decide +kernel, ?_⟩; (conv => whnf)) | (refine AApp0.tok (by decide +kernel) (by decide +kernel) ?_; (conv => whnf)) | (refine AApp.mk (by decide +kernel) (by decide +kernel) ?_; (conv => whnf)) | (refine AMake.wr ?_; (conv => whnf)) | (refine ADraw.auto (by kernel_rfl) ?_; (conv => whnf))))
  refine .pure _ _ ?_ ⟨rfl, rfl⟩ (r_cmp) fun _ => ?_
  · (repeat' (first | exact trivial | (refine And.intro ?_ ?_) | (decide +kernel) | exact rfl))
  (conv => whnf)
  (repeat' (first | (refine LoopE.step 300 ?_; (conv => whnf)) | (refine And.intro (fun _ => ?_) (fun h => absurd (by decide +kernel) h); (conv => whnf)) | (refine And.intro (fun h => absurd h (by decide +kernel)) (fun _ => ?_); (conv => whnf)) | (refine And.intro (inr64 (by decide +kernel) (by decide +kernel)) ?_; (conv => whnf)) | (refine And.intro (by decide +kernel) ?_; (conv => whnf)) | (refine AIdx.mk ⟨_, ⟨by decide +kernel, rfl⟩, ?_⟩; (conv => whnf)) | (refine ACut.mk ⟨by decide +kernel, ?_⟩; (conv => whnf)) | (refine AApp0.tok (by decide +kernel) (by decide +kernel) ?_; (conv => whnf)) | (refine AApp.mk (by decide +kernel) (by decide +kernel) ?_; (conv => whnf)) | (refine AMake.wr ?_; (conv => whnf)) | (refine ADraw.auto (by kernel_rfl) ?_; (conv => whnf))))
  refine .pure _ _ ?_ ⟨rfl, rfl⟩ (r_sub) fun _ => ?_
  · (repeat' (first | exact trivial | (refine And.intro ?_ ?_) | (decide +kernel) | exact rfl))
  (conv => whnf)
  (repeat' (first | (refine LoopE.step 300 ?_; (conv => whnf)) | (refine And.intro (fun _ => ?_) (fun h => absurd (by decide +kernel) h); (conv => whnf)) | (refine And.intro (fun h => absurd h (by decide +kernel)) (fun _ => ?_); (conv => whnf)) | (refine And.intro (inr64 (by decide +kernel) (by decide +kernel)) ?_; (conv => whnf)) | (refine And.intro (by decide +kernel) ?_; (conv => whnf)) | (refine AIdx.mk ⟨_, ⟨by decide +kernel, rfl⟩, ?_⟩; (conv => whnf)) | (refine ACut.mk ⟨by decide +kernel, ?_⟩; (conv => whnf)) | (refine AApp0.tok (by decide +kernel) (by decide +kernel) ?_; (conv => whnf)) | (refine AApp.mk (by decide +kernel) (by decide +kernel) ?_; (conv => whnf)) | (refine AMake.wr ?_; (conv => whnf)) | (refine ADraw.auto (by kernel_rfl) ?_; (conv => whnf))))
  refine .gen _ _ (FnH.frz 0 rfl rfl (by decide +kernel) (FnH.ofPure (ct1) ?_ ⟨rfl, rfl⟩)) fun _ => ?_
  · (repeat' (first | exact trivial | (refine And.intro ?_ ?_) | (decide +kernel) | exact rfl))
  (conv => whnf)
  (repeat' (first | (refine LoopE.step 300 ?_; (conv => whnf)) | (refine And.intro (fun _ => ?_) (fun h => absurd (by decide +kernel) h); (conv => whnf)) | (refine And.intro (fun h => absurd h (by decide +kernel)) (fun _ => ?_); (conv => whnf)) | (refine And.intro (inr64 (by decide +kernel) (by decide +kernel)) ?_; (conv => whnf)) | (refine And.intro (by decide +kernel) ?_; (conv => whnf)) | (refine AIdx.mk ⟨_, ⟨by decide +kernel, rfl⟩, ?_⟩; (conv => whnf)) | (refine ACut.mk ⟨by decide +kernel, ?_⟩; (conv => whnf)) | (refine AApp0.tok (by decide +kernel) (by decide +kernel) ?_; (conv => whnf)) | (refine AApp.mk (by decide +kernel) (by decide +kernel) ?_; (conv => whnf)) | (refine AMake.wr ?_; (conv => whnf)) | (refine ADraw.auto (by kernel_rfl) ?_; (conv => whnf))))
  refine .pure _ _ ?_ ⟨rfl, rfl⟩ (r_down) fun _ => ?_
  · (repeat' (first | exact trivial | (refine And.intro ?_ ?_) | (decide +kernel) | exact rfl))
  (conv => whnf)
  (repeat' (first | (refine LoopE.step 300 ?_; (conv => whnf)) | (refine And.intro (fun _ => ?_) (fun h => absurd (by decide +kernel) h); (conv => whnf)) | (refine And.intro (fun h => absurd h (by decide +kernel)) (fun _ => ?_); (conv => whnf)) | (refine And.intro (inr64 (by decide +kernel) (by decide +kernel)) ?_; (conv => whnf)) | (refine And.intro (by decide +kernel) ?_; (conv => whnf)) | (refine AIdx.mk ⟨_, ⟨by decide +kernel, rfl⟩, ?_⟩; (conv => whnf)) | (refine ACut.mk ⟨by decide +kernel, ?_⟩; (conv => whnf)) | (refine AApp0.tok (by decide +kernel) (by decide +kernel) ?_; (conv => whnf)) | (refine AApp.mk (by decide +kernel) (by decide +kernel) ?_; (conv => whnf)) | (refine AMake.wr ?_; (conv => whnf)) | (refine ADraw.auto (by kernel_rfl) ?_; (conv => whnf))))
  (refine FinSpec.mono ?_; (conv => whnf); refine ⟨?_, rfl⟩; (conv => whnf))
  (repeat' (first | exact trivial | (refine And.intro ?_ ?_) | (decide +kernel) | exact rfl))

theorem r_gcd : FnH Tryz.prog 187 [wL [1, 0], wL [1, 0]] [] (wL [1]) [] := by
  have ct := c_rTrim [1, 0] (by decide)
  rw [show wd (val [1, 0]) = [1] from by decide +kernel] at ct
  refine FnH.intro lay mixed Tryz.func187 (by kernel_rfl) rfl (by kernel_rfl) rfl fun hok => ?_
  (conv => whnf)
  refine .pure _ _ ?_ ⟨rfl, rfl⟩ (ct) fun _ => ?_
  · (repeat' (first | exact trivial | (refine And.intro ?_ ?_) | (decide +kernel) | exact rfl))
  (conv => whnf)
  (repeat' (first | (refine LoopE.step 300 ?_; (conv => whnf)) | (refine And.intro (fun _ => ?_) (fun h => absurd (by decide +kernel) h); (conv => whnf)) | (refine And.intro (fun h => absurd h (by decide +kernel)) (fun _ => ?_); (conv => whnf)) | (refine And.intro (inr64 (by decide +kernel) (by decide +kernel)) ?_; (conv => whnf)) | (refine And.intro (by decide +kernel) ?_; (conv => whnf)) | (refine AIdx.mk ⟨_, ⟨by decide +kernel, rfl⟩, ?_⟩; (conv => whnf)) | (refine ACut.mk ⟨by decide +kernel, ?_⟩; (conv => whnf)) | (refine AApp0.tok (by decide +kernel) (by decide +kernel) ?_; (conv => whnf)) | (refine AApp.mk (by decide +kernel) (by decide +kernel) ?_; (conv => whnf)) | (refine AMake.wr ?_; (conv => whnf)) | (refine ADraw.auto (by kernel_rfl) ?_; (conv => whnf))))
  refine .pure _ _ ?_ ⟨rfl, rfl⟩ (ct) fun _ => ?_
  · (repeat' (first | exact trivial | (refine And.intro ?_ ?_) | (decide +kernel) | exact rfl))
  (conv => whnf)
  (repeat' (first | (refine LoopE.step 300 ?_; (conv => whnf)) | (refine And.intro (fun _ => ?_) (fun h => absurd (by decide +kernel) h); (conv => whnf)) | (refine And.intro (fun h => absurd h (by decide +kernel)) (fun _ => ?_); (conv => whnf)) | (refine And.intro (inr64 (by decide +kernel) (by decide +kernel)) ?_; (conv => whnf)) | (refine And.intro (by decide +kernel) ?_; (conv => whnf)) | (refine AIdx.mk ⟨_, ⟨by decide +kernel, rfl⟩, ?_⟩; (conv => whnf)) | (refine ACut.mk ⟨by decide +kernel, ?_⟩; (conv => whnf)) | (refine AApp0.tok (by decide +kernel) (by decide +kernel) ?_; (conv => whnf)) | (refine AApp.mk (by decide +kernel) (by decide +kernel) ?_; (conv => whnf)) | (refine AMake.wr ?_; (conv => whnf)) | (refine ADraw.auto (by kernel_rfl) ?_; (conv => whnf))))
  refine .pure _ _ ?_ ⟨rfl, rfl⟩ (r_div11) fun _ => ?_
  · (repeat' (first | exact trivial | (refine And.intro ?_ ?_) | (decide +kernel) | exact rfl))
  (conv => whnf)
  (repeat' (first | (refine LoopE.step 300 ?_; (conv => whnf)) | (refine And.intro (fun _ => ?_) (fun h => absurd (by decide +kernel) h); (conv => whnf)) | (refine And.intro (fun h => absurd h (by decide +kernel)) (fun _ => ?_); (conv => whnf)) | (refine And.intro (inr64 (by decide +kernel) (by decide +kernel)) ?_; (conv => whnf)) | (refine And.intro (by decide +kernel) ?_; (conv => whnf)) | (refine AIdx.mk ⟨_, ⟨by decide +kernel, rfl⟩, ?_⟩; (conv => whnf)) | (refine ACut.mk ⟨by decide +kernel, ?_⟩; (conv => whnf)) | (refine AApp0.tok (by decide +kernel) (by decide +kernel) ?_; (conv => whnf)) | (refine AApp.mk (by decide +kernel) (by decide +kernel) ?_; (conv => whnf)) | (refine AMake.wr ?_; (conv => whnf)) | (refine ADraw.auto (by kernel_rfl) ?_; (conv => whnf))))
  (refine FinSpec.mono ?_; (conv => whnf); refine ⟨?_, rfl⟩; (conv => whnf))
  (repeat' (first | exact trivial | (refine And.intro ?_ ?_) | (decide +kernel) | exact rfl))

theorem r_from : FnH Tryz.prog 139 [.bool false, wL [1, 0], wL [1, 0]] [] (.tup [Rat.av ⟨false, [1], [1]⟩, .int .i64 0]) [] := by
  refine FnH.intro lay mixed Tryz.func139 (by kernel_rfl) rfl (by kernel_rfl) rfl fun hok => ?_
  (conv => whnf)
  refine .pure _ _ ?_ ⟨rfl, rfl⟩ (r_bits) fun _ => ?_
  · (repeat' (first | exact trivial | (refine And.intro ?_ ?_) | (decide +kernel) | exact rfl))
  (conv => whnf)
  (repeat' (first | (refine LoopE.step 300 ?_; (conv => whnf)) | (refine And.intro (fun _ => ?_) (fun h => absurd (by decide +kernel) h); (conv => whnf)) | (refine And.intro (fun h => absurd h (by decide +kernel)) (fun _ => ?_); (conv => whnf)) | (refine And.intro (inr64 (by decide +kernel) (by decide +kernel)) ?_; (conv => whnf)) | (refine And.intro (by decide +kernel) ?_; (conv => whnf)) | (refine AIdx.mk ⟨_, ⟨by decide +kernel, rfl⟩, ?_⟩; (conv => whnf)) | (refine ACut.mk ⟨by decide +kernel, ?_⟩; (conv => whnf)) | (refine AApp0.tok (by decide +kernel) (by decide +kernel) ?_; (conv => whnf)) | (refine AApp.mk (by decide +kernel) (by decide +kernel) ?_; (conv => whnf)) | (refine AMake.wr ?_; (conv => whnf)) | (refine ADraw.auto (by kernel_rfl) ?_; (conv => whnf))))
  refine .pure _ _ ?_ ⟨rfl, rfl⟩ (r_bits) fun _ => ?_
  · (repeat' (first | exact trivial | (refine And.intro ?_ ?_) | (decide +kernel) | exact rfl))
  (conv => whnf)
  (repeat' (first | (refine LoopE.step 300 ?_; (conv => whnf)) | (refine And.intro (fun _ => ?_) (fun h => absurd (by decide +kernel) h); (conv => whnf)) | (refine And.intro (fun h => absurd h (by decide +kernel)) (fun _ => ?_); (conv => whnf)) | (refine And.intro (inr64 (by decide +kernel) (by decide +kernel)) ?_; (conv => whnf)) | (refine And.intro (by decide +kernel) ?_; (conv => whnf)) | (refine AIdx.mk ⟨_, ⟨by decide +kernel, rfl⟩, ?_⟩; (conv => whnf)) | (refine ACut.mk ⟨by decide +kernel, ?_⟩; (conv => whnf)) | (refine AApp0.tok (by decide +kernel) (by decide +kernel) ?_; (conv => whnf)) | (refine AApp.mk (by decide +kernel) (by decide +kernel) ?_; (conv => whnf)) | (refine AMake.wr ?_; (conv => whnf)) | (refine ADraw.auto (by kernel_rfl) ?_; (conv => whnf))))
  refine .pure _ _ ?_ ⟨rfl, rfl⟩ (r_gcd) fun _ => ?_
  · (repeat' (first | exact trivial | (refine And.intro ?_ ?_) | (decide +kernel) | exact rfl))
  (conv => whnf)
  (repeat' (first | (refine LoopE.step 300 ?_; (conv => whnf)) | (refine And.intro (fun _ => ?_) (fun h => absurd (by decide +kernel) h); (conv => whnf)) | (refine And.intro (fun h => absurd h (by decide +kernel)) (fun _ => ?_); (conv => whnf)) | (refine And.intro (inr64 (by decide +kernel) (by decide +kernel)) ?_; (conv => whnf)) | (refine And.intro (by decide +kernel) ?_; (conv => whnf)) | (refine AIdx.mk ⟨_, ⟨by decide +kernel, rfl⟩, ?_⟩; (conv => whnf)) | (refine ACut.mk ⟨by decide +kernel, ?_⟩; (conv => whnf)) | (refine AApp0.tok (by decide +kernel) (by decide +kernel) ?_; (conv => whnf)) | (refine AApp.mk (by decide +kernel) (by decide +kernel) ?_; (conv => whnf)) | (refine AMake.wr ?_; (conv => whnf)) | (refine ADraw.auto (by kernel_rfl) ?_; (conv => whnf))))
  refine .pure _ _ ?_ ⟨rfl, rfl⟩ (r_div101) fun _ => ?_
  · (repeat' (first | exact trivial | (refine And.intro ?_ ?_) | (decide +kernel) | exact rfl))
  (conv => whnf)
  (repeat' (first | (refine LoopE.step 300 ?_; (conv => whnf)) | (refine And.intro (fun _ => ?_) (fun h => absurd (by decide +kernel) h); (conv => whnf)) | (refine And.intro (fun h => absurd h (by decide +kernel)) (fun _ => ?_); (conv => whnf)) | (refine And.intro (inr64 (by decide +kernel) (by decide +kernel)) ?_; (conv => whnf)) | (refine And.intro (by decide +kernel) ?_; (conv => whnf)) | (refine AIdx.mk ⟨_, ⟨by decide +kernel, rfl⟩, ?_⟩; (conv => whnf)) | (refine ACut.mk ⟨by decide +kernel, ?_⟩; (conv => whnf)) | (refine AApp0.tok (by decide +kernel) (by decide +kernel) ?_; (conv => whnf)) | (refine AApp.mk (by decide +kernel) (by decide +kernel) ?_; (conv => whnf)) | (refine AMake.wr ?_; (conv => whnf)) | (refine ADraw.auto (by kernel_rfl) ?_; (conv => whnf))))
  refine .pure _ _ ?_ ⟨rfl, rfl⟩ (r_div101) fun _ => ?_
  · (repeat' (first | exact trivial | (refine And.intro ?_ ?_) | (decide +kernel) | exact rfl))
  (conv => whnf)
  (repeat' (first | (refine LoopE.step 300 ?_; (conv => whnf)) | (refine And.intro (fun _ => ?_) (fun h => absurd (by decide +kernel) h); (conv => whnf)) | (refine And.intro (fun h => absurd h (by decide +kernel)) (fun _ => ?_); (conv => whnf)) | (refine And.intro (inr64 (by decide +kernel) (by decide +kernel)) ?_; (conv => whnf)) | (refine And.intro (by decide +kernel) ?_; (conv => whnf)) | (refine AIdx.mk ⟨_, ⟨by decide +kernel, rfl⟩, ?_⟩; (conv => whnf)) | (refine ACut.mk ⟨by decide +kernel, ?_⟩; (conv => whnf)) | (refine AApp0.tok (by decide +kernel) (by decide +kernel) ?_; (conv => whnf)) | (refine AApp.mk (by decide +kernel) (by decide +kernel) ?_; (conv => whnf)) | (refine AMake.wr ?_; (conv => whnf)) | (refine ADraw.auto (by kernel_rfl) ?_; (conv => whnf))))
  (refine FinSpec.mono ?_; (conv => whnf); refine ⟨?_, rfl⟩; (conv => whnf))
  (repeat' (first | exact trivial | (refine And.intro ?_ ?_) | (decide +kernel) | exact rfl))

theorem r_make : FnH Tryz.prog 179 [.int .i64 1, .int .i64 1] [] (.tup [Rat.av ⟨false, [1], [1]⟩, .int .i64 0]) [] := by
  refine FnH.intro lay mixed Tryz.func179 (by kernel_rfl) rfl (by kernel_rfl) rfl fun hok => ?_
  (conv => whnf)
  refine .pure _ _ ?_ ⟨rfl, rfl⟩ (r_size) fun _ => ?_
  · (repeat' (first | exact trivial | (refine And.intro ?_ ?_) | (decide +kernel) | exact rfl))
  (conv => whnf)
  (repeat' (first | (refine LoopE.step 300 ?_; (conv => whnf)) | (refine And.intro (fun _ => ?_) (fun h => absurd (by decide +kernel) h); (conv => whnf)) | (refine And.intro (fun h => absurd h (by decide +kernel)) (fun _ => ?_); (conv => whnf)) | (refine And.intro (inr64 (by decide +kernel) (by decide +kernel)) ?_; (conv => whnf)) | (refine And.intro (by decide +kernel) ?_; (conv => whnf)) | (refine AIdx.mk ⟨_, ⟨by decide +kernel, rfl⟩, ?_⟩; (conv => whnf)) | (refine ACut.mk ⟨by decide +kernel, ?_⟩; (conv => whnf)) | (refine AApp0.tok (by decide +kernel) (by decide +kernel) ?_; (conv => whnf)) | (refine AApp.mk (by decide +kernel) (by decide +kernel) ?_; (conv => whnf)) | (refine AMake.wr ?_; (conv => whnf)) | (refine ADraw.auto (by kernel_rfl) ?_; (conv => whnf))))
  refine .pure _ _ ?_ ⟨rfl, rfl⟩ (r_size) fun _ => ?_
  · (repeat' (first | exact trivial | (refine And.intro ?_ ?_) | (decide +kernel) | exact rfl))
  (conv => whnf)
  (repeat' (first | (refine LoopE.step 300 ?_; (conv => whnf)) | (refine And.intro (fun _ => ?_) (fun h => absurd (by decide +kernel) h); (conv => whnf)) | (refine And.intro (fun h => absurd h (by decide +kernel)) (fun _ => ?_); (conv => whnf)) | (refine And.intro (inr64 (by decide +kernel) (by decide +kernel)) ?_; (conv => whnf)) | (refine And.intro (by decide +kernel) ?_; (conv => whnf)) | (refine AIdx.mk ⟨_, ⟨by decide +kernel, rfl⟩, ?_⟩; (conv => whnf)) | (refine ACut.mk ⟨by decide +kernel, ?_⟩; (conv => whnf)) | (refine AApp0.tok (by decide +kernel) (by decide +kernel) ?_; (conv => whnf)) | (refine AApp.mk (by decide +kernel) (by decide +kernel) ?_; (conv => whnf)) | (refine AMake.wr ?_; (conv => whnf)) | (refine ADraw.auto (by kernel_rfl) ?_; (conv => whnf))))
  refine .pure _ _ ?_ ⟨rfl, rfl⟩ r_from fun _ => ?_
  · refine ⟨?_, le0_refl _, le0_refl _, trivial⟩
    show _ ↔ _
    simp
  (conv => whnf)
  (refine FinSpec.mono ?_; (conv => whnf); refine ⟨?_, rfl⟩; (conv => whnf))
  (repeat' (first | exact trivial | (refine And.intro ?_ ?_) | (decide +kernel) | exact rfl))

theorem r_of : FnH Tryz.prog 113 [.int .i64 1] [] (Rat.av ⟨false, [1], [1]⟩) [] := by
  refine FnH.intro lay mixed Tryz.func113 (by kernel_rfl) rfl (by kernel_rfl) rfl fun hok => ?_
  (conv => whnf)
  refine .pure _ _ ?_ ⟨rfl, rfl⟩ (r_make) fun _ => ?_
  · (repeat' (first | exact trivial | (refine And.intro ?_ ?_) | (decide +kernel) | exact rfl))
  (conv => whnf)
  (repeat' (first | (refine LoopE.step 300 ?_; (conv => whnf)) | (refine And.intro (fun _ => ?_) (fun h => absurd (by decide +kernel) h); (conv => whnf)) | (refine And.intro (fun h => absurd h (by decide +kernel)) (fun _ => ?_); (conv => whnf)) | (refine And.intro (inr64 (by decide +kernel) (by decide +kernel)) ?_; (conv => whnf)) | (refine And.intro (by decide +kernel) ?_; (conv => whnf)) | (refine AIdx.mk ⟨_, ⟨by decide +kernel, rfl⟩, ?_⟩; (conv => whnf)) | (refine ACut.mk ⟨by decide +kernel, ?_⟩; (conv => whnf)) | (refine AApp0.tok (by decide +kernel) (by decide +kernel) ?_; (conv => whnf)) | (refine AApp.mk (by decide +kernel) (by decide +kernel) ?_; (conv => whnf)) | (refine AMake.wr ?_; (conv => whnf)) | (refine ADraw.auto (by kernel_rfl) ?_; (conv => whnf))))
  (refine FinSpec.mono ?_; (conv => whnf); refine ⟨?_, rfl⟩; (conv => whnf))
  (repeat' (first | exact trivial | (refine And.intro ?_ ?_) | (decide +kernel) | exact rfl))
end S
