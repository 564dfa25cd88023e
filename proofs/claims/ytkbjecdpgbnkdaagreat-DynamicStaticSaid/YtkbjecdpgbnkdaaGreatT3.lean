/-
  Contracts of functions of the program, over the logic of the texts before. Nothing is assumed.
-/
import Derived.Test.YtkbjecdpgbnkdaaGreatT2
import Derived.Test.YtkbjecdpgbnkdaaGreatRows

open Go Go.AL Go.Proofs
namespace S
def L : Lay:=.node (.node (.node (.node (.node (.node (.node (.node (.node .nil 1 ⟨.prim,8,.nilf,none,false⟩ .nil) 2 ⟨.int .i64,8,.int .i64 0,none,false⟩ .nil) 3 ⟨.int .i64,8,.int .i64 0,none,false⟩ (.node (.node .nil 4 ⟨.bool,1,.ff,none,false⟩ .nil) 5 ⟨.int .u8,1,.int .u8 0,none,false⟩ .nil)) 6 ⟨.int .u8,1,.int .u8 0,none,false⟩ (.node (.node (.node .nil 7 ⟨.struct [(0,1,2),(1,1,3),(2,1,4),(3,1,6)],24,.ag [.int .i64 0,.int .i64 0,.ff,.int .u8 0],none,false⟩ .nil) 8 ⟨.struct [(0,1,2),(1,1,3),(2,1,4),(3,1,6)],24,.ag [.int .i64 0,.int .i64 0,.ff,.int .u8 0],none,false⟩ .nil) 9 ⟨.str,16,.str [],none,false⟩ (.node .nil 10 ⟨.str,16,.str [],none,false⟩ .nil))) 11 ⟨.str,16,.str [],none,false⟩ (.node (.node (.node (.node .nil 12 ⟨.int .u64,8,.int .u64 0,none,false⟩ .nil) 13 ⟨.struct [(0,1,9),(1,1,12)],24,.ag [.str [],.int .u64 0],none,false⟩ .nil) 14 ⟨.struct [(0,1,9),(1,1,12)],24,.ag [.str [],.int .u64 0],none,false⟩ (.node .nil 15 ⟨.ptr 344,8,.nilp,none,false⟩ .nil)) 16 ⟨.ptr 347,8,.nilp,none,false⟩ (.node (.node (.node .nil 17 ⟨.ptr 356,8,.nilp,none,false⟩ .nil) 18 ⟨.struct [(0,1,17)],8,.ag [.nilp],none,false⟩ .nil) 19 ⟨.struct [(0,1,17)],8,.ag [.nilp],none,false⟩ (.node .nil 20 ⟨.iface,16,.nilI,none,false⟩ .nil)))) 21 ⟨.int .i32,4,.int .i32 0,none,false⟩ (.node (.node (.node (.node (.node .nil 22 ⟨.slice 212,24,.nils,none,false⟩ .nil) 23 ⟨.struct [(0,1,3),(1,1,22),(2,1,3)],40,.ag [.int .i64 0,.nils,.int .i64 0],none,false⟩ .nil) 24 ⟨.struct [(0,1,3),(1,1,22),(2,1,3)],40,.ag [.int .i64 0,.nils,.int .i64 0],none,false⟩ (.node .nil 25 ⟨.prim,8,.nilf,none,false⟩ .nil)) 26 ⟨.prim,8,.nilf,none,false⟩ (.node (.node (.node .nil 27 ⟨.struct [(0,1,4),(1,1,3),(2,1,3),(3,1,3),(4,1,3)],40,.ag [.ff,.int .i64 0,.int .i64 0,.int .i64 0,.int .i64 0],none,true⟩ .nil) 28 ⟨.struct [(0,1,4),(1,1,3),(2,1,3),(3,1,3),(4,1,3)],40,.ag [.ff,.int .i64 0,.int .i64 0,.int .i64 0,.int .i64 0],none,true⟩ .nil) 29 ⟨.iface,16,.nilI,none,false⟩ (.node .nil 30 ⟨.iface,16,.nilI,none,false⟩ .nil))) 32 ⟨.prim,8,.nilf,none,false⟩ (.node (.node (.node (.node .nil 33 ⟨.prim,8,.nilf,none,false⟩ .nil) 34 ⟨.prim,8,.nilf,none,false⟩ .nil) 35 ⟨.prim,8,.nilf,none,false⟩ (.node .nil 36 ⟨.slice 39,24,.nils,none,false⟩ .nil)) 37 ⟨.slice 238,24,.nils,none,false⟩ (.node (.node (.node .nil 38 ⟨.struct [(0,1,4),(1,1,37),(2,1,37)],56,.ag [.ff,.nils,.nils],none,false⟩ .nil) 39 ⟨.struct [(0,1,4),(1,1,37),(2,1,37)],56,.ag [.ff,.nils,.nils],none,false⟩ .nil) 41 ⟨.prim,8,.nilf,none,false⟩ (.node .nil 42 ⟨.prim,8,.nilf,none,false⟩ .nil))))) 43 ⟨.prim,8,.nilf,none,false⟩ (.node (.node (.node (.node (.node (.node .nil 44 ⟨.prim,8,.nilf,none,false⟩ .nil) 45 ⟨.prim,8,.nilf,none,false⟩ .nil) 47 ⟨.prim,8,.nilf,none,false⟩ (.node .nil 48 ⟨.prim,8,.nilf,none,false⟩ .nil)) 49 ⟨.prim,8,.nilf,none,false⟩ (.node (.node (.node .nil 50 ⟨.prim,8,.nilf,none,false⟩ .nil) 51 ⟨.slice 142,24,.nils,none,false⟩ .nil) 52 ⟨.slice 247,24,.nils,none,false⟩ (.node .nil 53 ⟨.slice 163,24,.nils,none,false⟩ .nil))) 54 ⟨.slice 144,24,.nils,none,false⟩ (.node (.node (.node (.node .nil 55 ⟨.slice 147,24,.nils,none,false⟩ .nil) 56 ⟨.slice 150,24,.nils,none,false⟩ .nil) 57 ⟨.struct [(0,1,9),(1,1,9),(2,1,51),(3,1,52),(4,1,53),(5,1,54),(6,1,55),(7,1,56)],176,.ag [.str [],.str [],.nils,.nils,.nils,.nils,.nils,.nils],none,false⟩ (.node .nil 58 ⟨.struct [(0,1,9),(1,1,9),(2,1,51),(3,1,52),(4,1,53),(5,1,54),(6,1,55),(7,1,56)],176,.ag [.str [],.str [],.nils,.nils,.nils,.nils,.nils,.nils],none,false⟩ .nil)) 59 ⟨.prim,8,.nilf,none,false⟩ (.node (.node (.node .nil 60 ⟨.slice 168,24,.nils,none,false⟩ .nil) 61 ⟨.struct [(0,1,3),(1,1,60),(2,1,3),(3,1,36),(4,1,36)],88,.ag [.int .i64 0,.nils,.int .i64 0,.nils,.nils],none,false⟩ .nil) 62 ⟨.struct [(0,1,3),(1,1,60),(2,1,3),(3,1,36),(4,1,36)],88,.ag [.int .i64 0,.nils,.int .i64 0,.nils,.nils],none,false⟩ (.node .nil 64 ⟨.prim,8,.nilf,none,false⟩ .nil)))) 65 ⟨.prim,8,.nilf,none,false⟩ (.node (.node (.node (.node (.node .nil 66 ⟨.prim,8,.nilf,none,false⟩ .nil) 68 ⟨.prim,8,.nilf,none,false⟩ .nil) 69 ⟨.prim,8,.nilf,none,false⟩ (.node .nil 71 ⟨.prim,8,.nilf,none,false⟩ .nil)) 72 ⟨.slice 74,24,.nils,none,false⟩ (.node (.node (.node .nil 73 ⟨.struct [(0,1,3),(1,1,72),(2,1,3)],40,.ag [.int .i64 0,.nils,.int .i64 0],none,false⟩ .nil) 74 ⟨.struct [(0,1,3),(1,1,72),(2,1,3)],40,.ag [.int .i64 0,.nils,.int .i64 0],none,false⟩ .nil) 76 ⟨.prim,8,.nilf,none,false⟩ (.node .nil 77 ⟨.prim,8,.nilf,none,false⟩ .nil))) 78 ⟨.prim,8,.nilf,none,false⟩ (.node (.node (.node (.node .nil 79 ⟨.prim,8,.nilf,none,false⟩ .nil) 80 ⟨.prim,8,.nilf,none,false⟩ .nil) 81 ⟨.prim,8,.nilf,none,false⟩ (.node .nil 82 ⟨.slice 5,24,.nils,none,false⟩ .nil)) 83 ⟨.prim,8,.nilf,none,false⟩ (.node (.node (.node .nil 85 ⟨.prim,8,.nilf,none,false⟩ .nil) 86 ⟨.slice 3,24,.nils,none,false⟩ .nil) 87 ⟨.struct [(0,1,3),(1,1,86)],32,.ag [.int .i64 0,.nils],none,false⟩ (.node .nil 88 ⟨.struct [(0,1,3),(1,1,86)],32,.ag [.int .i64 0,.nils],none,false⟩ .nil)))))) 90 ⟨.prim,8,.nilf,none,false⟩ (.node (.node (.node (.node (.node (.node (.node .nil 91 ⟨.prim,8,.nilf,none,false⟩ .nil) 92 ⟨.prim,8,.nilf,none,false⟩ .nil) 94 ⟨.prim,8,.nilf,none,false⟩ (.node (.node .nil 95 ⟨.prim,8,.nilf,none,false⟩ .nil) 96 ⟨.prim,8,.nilf,none,false⟩ .nil)) 98 ⟨.prim,8,.nilf,none,false⟩ (.node (.node (.node .nil 99 ⟨.ptr 218,8,.nilp,none,false⟩ .nil) 100 ⟨.prim,8,.nilf,none,false⟩ .nil) 101 ⟨.arr 2 3,16,.ag [.int .i64 0,.int .i64 0],none,true⟩ (.node .nil 102 ⟨.slice 24,24,.nils,none,false⟩ .nil))) 103 ⟨.slice 226,24,.nils,none,false⟩ (.node (.node (.node (.node .nil 104 ⟨.struct [(0,1,86),(1,1,103),(2,1,3)],56,.ag [.nils,.nils,.int .i64 0],none,false⟩ .nil) 105 ⟨.struct [(0,1,86),(1,1,103),(2,1,3)],56,.ag [.nils,.nils,.int .i64 0],none,false⟩ .nil) 107 ⟨.prim,8,.nilf,none,false⟩ (.node .nil 108 ⟨.prim,8,.nilf,none,false⟩ .nil)) 109 ⟨.prim,8,.nilf,none,false⟩ (.node (.node (.node .nil 110 ⟨.prim,8,.nilf,none,false⟩ .nil) 111 ⟨.int .i64,8,.int .i64 0,none,false⟩ .nil) 112 ⟨.prim,8,.nilf,none,false⟩ (.node .nil 113 ⟨.prim,8,.nilf,none,false⟩ .nil)))) 114 ⟨.prim,8,.nilf,none,false⟩ (.node (.node (.node (.node (.node .nil 116 ⟨.slice 4,24,.nils,none,false⟩ .nil) 117 ⟨.prim,8,.nilf,none,false⟩ .nil) 118 ⟨.prim,8,.nilf,none,false⟩ (.node .nil 119 ⟨.prim,8,.nilf,none,false⟩ .nil)) 120 ⟨.prim,8,.nilf,none,false⟩ (.node (.node (.node .nil 121 ⟨.prim,8,.nilf,none,false⟩ .nil) 122 ⟨.prim,8,.nilf,none,false⟩ .nil) 123 ⟨.prim,8,.nilf,none,false⟩ (.node .nil 124 ⟨.prim,8,.nilf,none,false⟩ .nil))) 126 ⟨.prim,8,.nilf,none,false⟩ (.node (.node (.node (.node .nil 127 ⟨.prim,8,.nilf,none,false⟩ .nil) 128 ⟨.prim,8,.nilf,none,false⟩ .nil) 129 ⟨.prim,8,.nilf,none,false⟩ (.node .nil 131 ⟨.prim,8,.nilf,none,false⟩ .nil)) 132 ⟨.prim,8,.nilf,none,false⟩ (.node (.node (.node .nil 133 ⟨.struct [(0,1,3),(1,1,3)],16,.ag [.int .i64 0,.int .i64 0],none,true⟩ .nil) 134 ⟨.struct [(0,1,3),(1,1,3)],16,.ag [.int .i64 0,.int .i64 0],none,true⟩ .nil) 135 ⟨.prim,8,.nilf,none,false⟩ (.node .nil 136 ⟨.prim,8,.nilf,none,false⟩ .nil))))) 137 ⟨.prim,8,.nilf,none,false⟩ (.node (.node (.node (.node (.node (.node .nil 138 ⟨.prim,8,.nilf,none,false⟩ .nil) 139 ⟨.prim,8,.nilf,none,false⟩ .nil) 140 ⟨.prim,8,.nilf,none,false⟩ (.node .nil 141 ⟨.struct [(0,1,9),(1,3,39),(4,3,39),(7,3,39),(10,1,3)],192,.ag [.str [],.ag [.ff,.nils,.nils],.ag [.ff,.nils,.nils],.ag [.ff,.nils,.nils],.int .i64 0],none,false⟩ .nil)) 142 ⟨.struct [(0,1,9),(1,3,39),(4,3,39),(7,3,39),(10,1,3)],192,.ag [.str [],.ag [.ff,.nils,.nils],.ag [.ff,.nils,.nils],.ag [.ff,.nils,.nils],.int .i64 0],none,false⟩ (.node (.node (.node .nil 143 ⟨.struct [(0,1,9),(1,1,9),(2,1,53)],56,.ag [.str [],.str [],.nils],none,false⟩ .nil) 144 ⟨.struct [(0,1,9),(1,1,9),(2,1,53)],56,.ag [.str [],.str [],.nils],none,false⟩ .nil) 145 ⟨.slice 9,24,.nils,none,false⟩ (.node .nil 146 ⟨.struct [(0,1,9),(1,1,3),(2,1,145),(3,1,36)],72,.ag [.str [],.int .i64 0,.nils,.nils],none,false⟩ .nil))) 147 ⟨.struct [(0,1,9),(1,1,3),(2,1,145),(3,1,36)],72,.ag [.str [],.int .i64 0,.nils,.nils],none,false⟩ (.node (.node (.node (.node .nil 148 ⟨.slice 152,24,.nils,none,false⟩ .nil) 149 ⟨.struct [(0,1,9),(1,1,9),(2,1,148)],56,.ag [.str [],.str [],.nils],none,false⟩ .nil) 150 ⟨.struct [(0,1,9),(1,1,9),(2,1,148)],56,.ag [.str [],.str [],.nils],none,false⟩ (.node .nil 151 ⟨.struct [(0,1,9),(1,3,39)],72,.ag [.str [],.ag [.ff,.nils,.nils]],none,false⟩ .nil)) 152 ⟨.struct [(0,1,9),(1,3,39)],72,.ag [.str [],.ag [.ff,.nils,.nils]],none,false⟩ (.node (.node (.node .nil 153 ⟨.ptr 156,8,.nilp,none,false⟩ .nil) 154 ⟨.map 159 3,8,.nilm,(some (.ag [.int .i64 0,.int .i64 0,.int .i64 0])),false⟩ .nil) 155 ⟨.struct [(0,8,58),(8,5,62),(13,1,154)],272,.ag [.ag [.str [],.str [],.nils,.nils,.nils,.nils,.nils,.nils],.ag [.int .i64 0,.nils,.int .i64 0,.nils,.nils],.nilm],none,false⟩ (.node .nil 156 ⟨.struct [(0,8,58),(8,5,62),(13,1,154)],272,.ag [.ag [.str [],.str [],.nils,.nils,.nils,.nils,.nils,.nils],.ag [.int .i64 0,.nils,.int .i64 0,.nils,.nils],.nilm],none,false⟩ .nil)))) 157 ⟨.prim,8,.nilf,none,false⟩ (.node (.node (.node (.node (.node .nil 158 ⟨.struct [(0,1,3),(1,1,3),(2,1,3)],24,.ag [.int .i64 0,.int .i64 0,.int .i64 0],none,true⟩ .nil) 159 ⟨.struct [(0,1,3),(1,1,3),(2,1,3)],24,.ag [.int .i64 0,.int .i64 0,.int .i64 0],none,true⟩ .nil) 160 ⟨.prim,8,.nilf,none,false⟩ (.node .nil 161 ⟨.prim,8,.nilf,none,false⟩ .nil)) 162 ⟨.struct [(0,1,9),(1,1,3),(2,1,3),(3,1,145),(4,3,39)],112,.ag [.str [],.int .i64 0,.int .i64 0,.nils,.ag [.ff,.nils,.nils]],none,false⟩ (.node (.node (.node .nil 163 ⟨.struct [(0,1,9),(1,1,3),(2,1,3),(3,1,145),(4,3,39)],112,.ag [.str [],.int .i64 0,.int .i64 0,.nils,.ag [.ff,.nils,.nils]],none,false⟩ .nil) 164 ⟨.prim,8,.nilf,none,false⟩ .nil) 165 ⟨.prim,8,.nilf,none,false⟩ (.node .nil 166 ⟨.prim,8,.nilf,none,false⟩ .nil))) 167 ⟨.struct [(0,1,3),(1,1,3),(2,1,86),(3,3,39)],96,.ag [.int .i64 0,.int .i64 0,.nils,.ag [.ff,.nils,.nils]],none,false⟩ (.node (.node (.node (.node .nil 168 ⟨.struct [(0,1,3),(1,1,3),(2,1,86),(3,3,39)],96,.ag [.int .i64 0,.int .i64 0,.nils,.ag [.ff,.nils,.nils]],none,false⟩ .nil) 169 ⟨.slice 264,24,.nils,none,false⟩ .nil) 170 ⟨.struct [(0,5,62),(5,1,169),(6,1,86)],136,.ag [.ag [.int .i64 0,.nils,.int .i64 0,.nils,.nils],.nils,.nils],none,false⟩ (.node .nil 171 ⟨.struct [(0,5,62),(5,1,169),(6,1,86)],136,.ag [.ag [.int .i64 0,.nils,.int .i64 0,.nils,.nils],.nils,.nils],none,false⟩ .nil)) 173 ⟨.prim,8,.nilf,none,false⟩ (.node (.node (.node .nil 174 ⟨.slice 36,24,.nils,none,false⟩ .nil) 175 ⟨.prim,8,.nilf,none,false⟩ .nil) 176 ⟨.prim,8,.nilf,none,false⟩ (.node .nil 178 ⟨.prim,8,.nilf,none,false⟩ .nil))))))) 179 ⟨.ptr 181,8,.nilp,none,false⟩ (.node (.node (.node (.node (.node (.node (.node (.node .nil 180 ⟨.struct [(0,3,24),(3,3,24),(6,1,86),(7,1,3)],112,.ag [.ag [.int .i64 0,.nils,.int .i64 0],.ag [.int .i64 0,.nils,.int .i64 0],.nils,.int .i64 0],none,false⟩ .nil) 181 ⟨.struct [(0,3,24),(3,3,24),(6,1,86),(7,1,3)],112,.ag [.ag [.int .i64 0,.nils,.int .i64 0],.ag [.int .i64 0,.nils,.int .i64 0],.nils,.int .i64 0],none,false⟩ .nil) 183 ⟨.prim,8,.nilf,none,false⟩ (.node (.node .nil 184 ⟨.prim,8,.nilf,none,false⟩ .nil) 185 ⟨.prim,8,.nilf,none,false⟩ .nil)) 186 ⟨.slice 190,24,.nils,none,false⟩ (.node (.node (.node .nil 188 ⟨.prim,8,.nilf,none,false⟩ .nil) 189 ⟨.struct [(0,2,134),(2,1,3)],24,.ag [.ag [.int .i64 0,.int .i64 0],.int .i64 0],none,false⟩ .nil) 190 ⟨.struct [(0,2,134),(2,1,3)],24,.ag [.ag [.int .i64 0,.int .i64 0],.int .i64 0],none,false⟩ (.node .nil 192 ⟨.prim,8,.nilf,none,false⟩ .nil))) 194 ⟨.prim,8,.nilf,none,false⟩ (.node (.node (.node (.node .nil 196 ⟨.prim,8,.nilf,none,false⟩ .nil) 197 ⟨.prim,8,.nilf,none,false⟩ .nil) 198 ⟨.prim,8,.nilf,none,false⟩ (.node .nil 199 ⟨.prim,8,.nilf,none,false⟩ .nil)) 201 ⟨.prim,8,.nilf,none,false⟩ (.node (.node (.node .nil 202 ⟨.prim,8,.nilf,none,false⟩ .nil) 203 ⟨.prim,8,.nilf,none,false⟩ .nil) 205 ⟨.prim,8,.nilf,none,false⟩ (.node .nil 206 ⟨.prim,8,.nilf,none,false⟩ .nil)))) 207 ⟨.prim,8,.nilf,none,false⟩ (.node (.node (.node (.node (.node .nil 208 ⟨.prim,8,.nilf,none,false⟩ .nil) 209 ⟨.prim,8,.nilf,none,false⟩ .nil) 210 ⟨.prim,8,.nilf,none,false⟩ (.node .nil 211 ⟨.struct [(0,1,3),(1,1,3),(2,1,86)],40,.ag [.int .i64 0,.int .i64 0,.nils],none,false⟩ .nil)) 212 ⟨.struct [(0,1,3),(1,1,3),(2,1,86)],40,.ag [.int .i64 0,.int .i64 0,.nils],none,false⟩ (.node (.node (.node .nil 214 ⟨.prim,8,.nilf,none,false⟩ .nil) 215 ⟨.map 226 3,8,.nilm,(some (.ag [.int .i64 0,.int .i64 0,.int .i64 0])),false⟩ .nil) 216 ⟨.map 264 3,8,.nilm,none,false⟩ (.node .nil 217 ⟨.struct [(0,1,86),(1,1,86),(2,1,103),(3,1,215),(4,1,216)],88,.ag [.nils,.nils,.nils,.nilm,.nilm],none,false⟩ .nil))) 218 ⟨.struct [(0,1,86),(1,1,86),(2,1,103),(3,1,215),(4,1,216)],88,.ag [.nils,.nils,.nils,.nilm,.nilm],none,false⟩ (.node (.node (.node (.node .nil 220 ⟨.prim,8,.nilf,none,false⟩ .nil) 221 ⟨.prim,8,.nilf,none,false⟩ .nil) 222 ⟨.prim,8,.nilf,none,false⟩ (.node .nil 223 ⟨.prim,8,.nilf,none,false⟩ .nil)) 224 ⟨.prim,8,.nilf,none,false⟩ (.node (.node (.node .nil 225 ⟨.struct [(0,1,3),(1,1,3),(2,1,3)],24,.ag [.int .i64 0,.int .i64 0,.int .i64 0],none,true⟩ .nil) 226 ⟨.struct [(0,1,3),(1,1,3),(2,1,3)],24,.ag [.int .i64 0,.int .i64 0,.int .i64 0],none,true⟩ .nil) 227 ⟨.prim,8,.nilf,none,false⟩ (.node .nil 228 ⟨.map 3 4,8,.nilm,(some (.int .i64 0)),false⟩ .nil))))) 229 ⟨.prim,8,.nilf,none,false⟩ (.node (.node (.node (.node (.node (.node .nil 230 ⟨.prim,8,.nilf,none,false⟩ .nil) 231 ⟨.map 3 3,8,.nilm,(some (.int .i64 0)),false⟩ .nil) 233 ⟨.prim,8,.nilf,none,false⟩ (.node .nil 234 ⟨.prim,8,.nilf,none,false⟩ .nil)) 235 ⟨.prim,8,.nilf,none,false⟩ (.node (.node (.node .nil 236 ⟨.prim,8,.nilf,none,false⟩ .nil) 237 ⟨.prim,8,.nilf,none,false⟩ .nil) 238 ⟨.int .u32,4,.int .u32 0,none,false⟩ (.node .nil 239 ⟨.int .u64,8,.int .u64 0,none,false⟩ .nil))) 240 ⟨.prim,8,.nilf,none,false⟩ (.node (.node (.node (.node .nil 241 ⟨.int .u64,8,.int .u64 0,none,false⟩ .nil) 242 ⟨.prim,8,.nilf,none,false⟩ .nil) 243 ⟨.prim,8,.nilf,none,false⟩ (.node .nil 245 ⟨.prim,8,.nilf,none,false⟩ .nil)) 246 ⟨.struct [(0,1,9),(1,1,4)],24,.ag [.str [],.ff],none,true⟩ (.node (.node (.node .nil 247 ⟨.struct [(0,1,9),(1,1,4)],24,.ag [.str [],.ff],none,true⟩ .nil) 248 ⟨.prim,8,.nilf,none,false⟩ .nil) 249 ⟨.prim,8,.nilf,none,false⟩ (.node .nil 250 ⟨.prim,8,.nilf,none,false⟩ .nil)))) 251 ⟨.prim,8,.nilf,none,false⟩ (.node (.node (.node (.node (.node .nil 252 ⟨.prim,8,.nilf,none,false⟩ .nil) 253 ⟨.prim,8,.nilf,none,false⟩ .nil) 254 ⟨.prim,8,.nilf,none,false⟩ (.node .nil 255 ⟨.prim,8,.nilf,none,false⟩ .nil)) 256 ⟨.prim,8,.nilf,none,false⟩ (.node (.node (.node .nil 257 ⟨.prim,8,.nilf,none,false⟩ .nil) 258 ⟨.prim,8,.nilf,none,false⟩ .nil) 259 ⟨.prim,8,.nilf,none,false⟩ (.node .nil 260 ⟨.slice 86,24,.nils,none,false⟩ .nil))) 261 ⟨.prim,8,.nilf,none,false⟩ (.node (.node (.node (.node .nil 263 ⟨.prim,8,.nilf,none,false⟩ .nil) 264 ⟨.arr 3 3,24,.ag [.int .i64 0,.int .i64 0,.int .i64 0],none,true⟩ .nil) 265 ⟨.prim,8,.nilf,none,false⟩ (.node .nil 266 ⟨.prim,8,.nilf,none,false⟩ .nil)) 267 ⟨.prim,8,.nilf,none,false⟩ (.node (.node (.node .nil 268 ⟨.prim,8,.nilf,none,false⟩ .nil) 269 ⟨.prim,8,.nilf,none,false⟩ .nil) 270 ⟨.prim,8,.nilf,none,false⟩ (.node .nil 271 ⟨.prim,8,.nilf,none,false⟩ .nil)))))) 272 ⟨.prim,8,.nilf,none,false⟩ (.node (.node (.node (.node (.node (.node (.node .nil 273 ⟨.prim,8,.nilf,none,false⟩ .nil) 274 ⟨.prim,8,.nilf,none,false⟩ .nil) 275 ⟨.prim,8,.nilf,none,false⟩ (.node (.node .nil 276 ⟨.prim,8,.nilf,none,false⟩ .nil) 277 ⟨.prim,8,.nilf,none,false⟩ .nil)) 278 ⟨.prim,8,.nilf,none,false⟩ (.node (.node (.node .nil 279 ⟨.prim,8,.nilf,none,false⟩ .nil) 280 ⟨.prim,8,.nilf,none,false⟩ .nil) 281 ⟨.prim,8,.nilf,none,false⟩ (.node .nil 282 ⟨.prim,8,.nilf,none,false⟩ .nil))) 283 ⟨.prim,8,.nilf,none,false⟩ (.node (.node (.node (.node .nil 284 ⟨.prim,8,.nilf,none,false⟩ .nil) 285 ⟨.prim,8,.nilf,none,false⟩ .nil) 286 ⟨.prim,8,.nilf,none,false⟩ (.node .nil 287 ⟨.prim,8,.nilf,none,false⟩ .nil)) 288 ⟨.map 291 3,8,.nilm,(some (.ag [.int .i64 0,.int .i64 0,.int .i64 0])),false⟩ (.node (.node (.node .nil 289 ⟨.prim,8,.nilf,none,false⟩ .nil) 290 ⟨.struct [(0,1,3),(1,1,3),(2,1,3)],24,.ag [.int .i64 0,.int .i64 0,.int .i64 0],none,true⟩ .nil) 291 ⟨.struct [(0,1,3),(1,1,3),(2,1,3)],24,.ag [.int .i64 0,.int .i64 0,.int .i64 0],none,true⟩ (.node .nil 292 ⟨.prim,8,.nilf,none,false⟩ .nil)))) 294 ⟨.prim,8,.nilf,none,false⟩ (.node (.node (.node (.node (.node .nil 295 ⟨.ptr 298,8,.nilp,none,false⟩ .nil) 296 ⟨.map 326 3,8,.nilm,(some (.ag [.int .i64 0,.int .i64 0,.int .i64 0])),false⟩ .nil) 297 ⟨.struct [(0,8,58),(8,3,24),(11,1,296)],224,.ag [.ag [.str [],.str [],.nils,.nils,.nils,.nils,.nils,.nils],.ag [.int .i64 0,.nils,.int .i64 0],.nilm],none,false⟩ (.node .nil 298 ⟨.struct [(0,8,58),(8,3,24),(11,1,296)],224,.ag [.ag [.str [],.str [],.nils,.nils,.nils,.nils,.nils,.nils],.ag [.int .i64 0,.nils,.int .i64 0],.nilm],none,false⟩ .nil)) 299 ⟨.prim,8,.nilf,none,false⟩ (.node (.node (.node .nil 300 ⟨.prim,8,.nilf,none,false⟩ .nil) 301 ⟨.prim,8,.nilf,none,false⟩ .nil) 302 ⟨.prim,8,.nilf,none,false⟩ (.node .nil 303 ⟨.prim,8,.nilf,none,false⟩ .nil))) 304 ⟨.ptr 306,8,.nilp,none,false⟩ (.node (.node (.node (.node .nil 305 ⟨.struct [(0,3,24),(3,1,86),(4,1,116)],88,.ag [.ag [.int .i64 0,.nils,.int .i64 0],.nils,.nils],none,false⟩ .nil) 306 ⟨.struct [(0,3,24),(3,1,86),(4,1,116)],88,.ag [.ag [.int .i64 0,.nils,.int .i64 0],.nils,.nils],none,false⟩ .nil) 307 ⟨.prim,8,.nilf,none,false⟩ (.node .nil 308 ⟨.prim,8,.nilf,none,false⟩ .nil)) 309 ⟨.prim,8,.nilf,none,false⟩ (.node (.node (.node .nil 310 ⟨.prim,8,.nilf,none,false⟩ .nil) 311 ⟨.prim,8,.nilf,none,false⟩ .nil) 312 ⟨.prim,8,.nilf,none,false⟩ (.node .nil 313 ⟨.prim,8,.nilf,none,false⟩ .nil))))) 315 ⟨.prim,8,.nilf,none,false⟩ (.node (.node (.node (.node (.node (.node .nil 316 ⟨.prim,8,.nilf,none,false⟩ .nil) 318 ⟨.prim,8,.nilf,none,false⟩ .nil) 319 ⟨.struct [(0,1,3),(1,1,3)],16,.ag [.int .i64 0,.int .i64 0],none,true⟩ (.node .nil 320 ⟨.struct [(0,1,3),(1,1,3)],16,.ag [.int .i64 0,.int .i64 0],none,true⟩ .nil)) 321 ⟨.prim,8,.nilf,none,false⟩ (.node (.node (.node .nil 322 ⟨.prim,8,.nilf,none,false⟩ .nil) 323 ⟨.prim,8,.nilf,none,false⟩ .nil) 324 ⟨.prim,8,.nilf,none,false⟩ (.node .nil 325 ⟨.struct [(0,1,3),(1,1,3),(2,1,3)],24,.ag [.int .i64 0,.int .i64 0,.int .i64 0],none,true⟩ .nil))) 326 ⟨.struct [(0,1,3),(1,1,3),(2,1,3)],24,.ag [.int .i64 0,.int .i64 0,.int .i64 0],none,true⟩ (.node (.node (.node (.node .nil 327 ⟨.prim,8,.nilf,none,false⟩ .nil) 328 ⟨.prim,8,.nilf,none,false⟩ .nil) 329 ⟨.prim,8,.nilf,none,false⟩ (.node .nil 330 ⟨.prim,8,.nilf,none,false⟩ .nil)) 331 ⟨.prim,8,.nilf,none,false⟩ (.node (.node (.node .nil 333 ⟨.prim,8,.nilf,none,false⟩ .nil) 334 ⟨.prim,8,.nilf,none,false⟩ .nil) 335 ⟨.prim,8,.nilf,none,false⟩ (.node .nil 336 ⟨.prim,8,.nilf,none,false⟩ .nil)))) 337 ⟨.ptr 320,8,.nilp,none,false⟩ (.node (.node (.node (.node (.node .nil 338 ⟨.prim,8,.nilf,none,false⟩ .nil) 339 ⟨.prim,8,.nilf,none,false⟩ .nil) 340 ⟨.prim,8,.nilf,none,false⟩ (.node .nil 341 ⟨.prim,8,.nilf,none,false⟩ .nil)) 342 ⟨.prim,8,.nilf,none,false⟩ (.node (.node (.node .nil 343 ⟨.struct [(0,1,17),(1,1,17),(2,1,17),(3,1,9)],40,.ag [.nilp,.nilp,.nilp,.str []],none,false⟩ .nil) 344 ⟨.struct [(0,1,17),(1,1,17),(2,1,17),(3,1,9)],40,.ag [.nilp,.nilp,.nilp,.str []],none,false⟩ .nil) 345 ⟨.arr 0 16,0,.ag [],none,false⟩ (.node .nil 346 ⟨.struct [(0,0,345)],0,.ag [.ag []],none,false⟩ .nil))) 347 ⟨.struct [(0,0,345)],0,.ag [.ag []],none,false⟩ (.node (.node (.node (.node .nil 348 ⟨.prim,8,.nilf,none,false⟩ .nil) 349 ⟨.int .u8,1,.int .u8 0,none,false⟩ .nil) 350 ⟨.int .u8,1,.int .u8 0,none,false⟩ (.node .nil 351 ⟨.prim,8,.nilf,none,false⟩ .nil)) 352 ⟨.ptr 5,8,.nilp,none,false⟩ (.node (.node (.node .nil 353 ⟨.int .i32,4,.int .i32 0,none,false⟩ .nil) 354 ⟨.int .i32,4,.int .i32 0,none,false⟩ .nil) 355 ⟨.struct [(0,1,12),(1,1,12),(2,1,238),(3,1,349),(4,1,5),(5,1,5),(6,1,350),(7,1,351),(8,1,352),(9,1,353),(10,1,354)],48,.ag [.int .u64 0,.int .u64 0,.int .u32 0,.int .u8 0,.int .u8 0,.int .u8 0,.int .u8 0,.nilf,.nilp,.int .i32 0,.int .i32 0],none,false⟩ (.node .nil 356 ⟨.struct [(0,1,12),(1,1,12),(2,1,238),(3,1,349),(4,1,5),(5,1,5),(6,1,350),(7,1,351),(8,1,352),(9,1,353),(10,1,354)],48,.ag [.int .u64 0,.int .u64 0,.int .u32 0,.int .u8 0,.int .u8 0,.int .u8 0,.int .u8 0,.nilf,.nilp,.int .i32 0,.int .i32 0],none,false⟩ .nil)))))))
theorem lay : LayOk Tryz.prog L:=layB_sound (by kernel_rfl)
theorem mixed : Tryz.prog.follows .mixedOrders = true:=by kernel_rfl

abbrev iL (l : List Int) : AV:=.sl 1 (l.map (.int .i64)) .no
abbrev wL (l : List Int) : AV:=.sl 1 (l.map (.int .u32)) .no
abbrev bL (l : List Bool) : AV:=.sl 1 (l.map .bool) .no

structure Rat where
 neg : Bool
 num : List Int
 den : List Int
 deriving DecidableEq,Inhabited

abbrev Rat.av (r : Rat) : AV:=.ag [.bool r.neg,wL r.num,wL r.den]

structure Gate where
 kind : Int
 k : Int
 args : List Int
 dorm : Rat
 deriving DecidableEq,Inhabited

abbrev Gate.av (g : Gate) : AV:=.ag [.int .i64 g.kind,.int .i64 g.k,iL g.args,g.dorm.av]

structure Dyn where
 vars : Int
 gates : List Gate
 top : Int
 fail : List Rat
 repair : List Rat
 deriving DecidableEq,Inhabited

abbrev Dyn.av (d : Dyn) : AV:=.ag [.int .i64 d.vars,.sl 6 (d.gates.map Gate.av) .no,.int .i64 d.top,.sl 3 (d.fail.map Rat.av) .no,.sl 3 (d.repair.map Rat.av) .no]

structure St where
 failed : Int
 memo : List Int
 deriving DecidableEq,Inhabited

abbrev St.av (s : St) : AV:=.ag [.int .i64 s.failed,iL s.memo]

theorem OkL_map {α : Type} {f : α → AV} : ∀ {l : List α},OkL (l.map f) → ∀ x ∈ l,Ok (f x)
 | [],_,x,hx=>by simp at hx
 | y :: l,h,x,hx=>by
   simp only [List.map_cons,OkL] at h
   rcases List.mem_cons.1 hx with rfl | hx
   ·exact h.1
   ·exact OkL_map h.2 x hx

theorem Gate.okArgs {g : Gate} (h : Ok g.av) : g.args.length ≤ 9223372036854775807:=by
 have:=h.2.2.1.1
 simpa [maxL] using this

theorem Dyn.okGates {d : Dyn} (h : Ok d.av) : ∀ g ∈ d.gates,Ok g.av:=OkL_map h.2.1.2

theorem leRL_of {l m : List AV} (h : l = m) : leRL l m:=h ▸ leRL_refl l

set_option maxRecDepth 100000

def count (v : List Bool) : List Int → Int
 | []=>0
 | a :: l=>(if v.getD a.toNat false then 1 else 0) + count v l

theorem count_append (v : List Bool) : ∀ l m,count v (l ++ m) = count v l + count v m
 | [],m=>by simp [count]
 | a :: l,m=>by simp only [List.cons_append,count,count_append v l m]; omega

theorem count_take {v : List Bool} {l : List Int} {i : Nat} (h : i < l.length) : count v (l.take (i + 1)) = count v (l.take i) + (if v.getD (l[i]).toNat false then 1 else 0):=by
 rw [List.take_add_one,List.getElem?_eq_getElem h,count_append]; simp [count]

theorem count_le (v : List Bool) : ∀ l,0 ≤ count v l ∧ count v l ≤ l.length
 | []=>by simp [count]
 | a :: l=>by have:=count_le v l; simp only [count,List.length_cons]; split <;> omega

def gval (g : Gate) (v : List Bool) (memo : Int) : Bool :=
 let n:=count v g.args
 if g.kind = 1 then decide (n > 0)
 else if g.kind = 2 then decide (n ≥ g.k)
 else if g.kind = 3 then decide (n = 0)
 else if g.kind = 4 then decide (n % 2 = 1)
 else if g.kind = 6 then decide (n = g.args.length ∧ memo = 0)
 else if g.kind = 8 then v.getD (g.args.getD 0 0).toNat false
 else decide (n = g.args.length)

theorem c_value (g : Gate) (v : List Bool) (memo : Int) (ha : ∀ a ∈ g.args,0 ≤ a ∧ a < (v.length : Int)) (h8 : g.kind = 8 → g.args ≠ []) : FnH Tryz.prog 223 [g.av,bL v,.int .i64 memo] [] (.bool (gval g v memo)) []:=by
 refine FnH.intro lay mixed Tryz.func223 (by kernel_rfl) rfl (by kernel_rfl) rfl fun hok=>?_
 have hl : g.args.length ≤ 9223372036854775807:=by simpa [OkL,Ok,maxL] using hok.1.2.2.1.1
 have hc0:=count_le v g.args
 conv=>whnf
 refine LoopE.of <| LoopSpec.inv (.refl _ _) (fun (i : Nat)=>i ≤ g.args.length) (fun (i : Nat)=>[(13,.int .i64 i),(7,.int .i64 (count v (g.args.take i)))]) (fun _=>_) (fun (i : Nat)=>g.args.length - i) 0 ?_ (fun _=>rfl) ?_ ?_
 ·exact Nat.zero_le _
 ·all_goals exact wk
 intro i hi _
 conv=>whnf
 refine And.intro (fun h=>?_) (fun h=>?_)
 ·have hlt : i < g.args.length:=by simpa using h
  have hc:=count_le v (g.args.take i)
  rw [List.length_take] at hc
  have ha':=ha g.args[i] (List.getElem_mem hlt)
  conv=>whnf
  refine aidx hlt ?_
  conv=>whnf
  refine aidxD false ha' ?_
  conv=>whnf
  refine And.intro (fun h=>?_) (fun h=>?_)
  ·conv=>whnf
   refine zA ?_;conv=>whnf
   refine zA ?_;conv=>whnf
   refine ⟨i + 1,?_,?_,?_⟩
   ·exact hlt
   ·repeat' first|exact rfl|exact trivial|exact wR|exact lR _|apply aI
    rw [count_take hlt,if_pos h]
   ·omega
  ·conv=>whnf
   refine zA ?_;conv=>whnf
   refine ⟨i + 1,?_,?_,?_⟩
   ·exact hlt
   ·repeat' first|exact rfl|exact trivial|exact wR|exact lR _|apply aI
    rw [count_take hlt,h]; simp
   ·omega
 ·have hlt : i = g.args.length:=by have : ¬ i < g.args.length:=by simpa using h
                                   omega
  subst hlt
  rw [List.take_length]
  conv=>whnf
  (repeat' (first|(refine aI (fun _=>?_) (fun _=>?_)<;>(conv=>whnf))|(refine ADraw.auto (by kernel_rfl) ?_;(conv=>whnf))|(refine fM ?_;(conv=>whnf);refine ⟨?_,rfl⟩;(conv=>whnf))|(refine aI (inr64 (by omega) (by omega)) ?_;(conv=>whnf))|(refine aI (by decide) ?_;(conv=>whnf))))
  all_goals first | (simp_all [gval]; done) | skip
  ·rw [Int.tmod_eq_emod_of_nonneg hc0.1]; simp_all [gval]
  ·rename_i h8'
   have h0 : 0 < g.args.length:=List.length_pos_iff.2 (h8 h8')
   refine aidx0 0 h0 ?_
   have ha':=ha (g.args.getD 0 0) (by rw [List.getD_eq_getElem?_getD,List.getElem?_eq_getElem h0]; exact List.getElem_mem h0)
   conv=>whnf
   refine aidxD false ha' ?_
   conv=>whnf
   (repeat' (first|(refine aI (fun _=>?_) (fun _=>?_)<;>(conv=>whnf))|(refine ADraw.auto (by kernel_rfl) ?_;(conv=>whnf))|(refine fM ?_;(conv=>whnf);refine ⟨?_,rfl⟩;(conv=>whnf))|(refine aI (inr64 (by omega) (by omega)) ?_;(conv=>whnf))|(refine aI (by decide) ?_;(conv=>whnf))))
   simp_all [gval]

def evs (n : Nat) (f : Nat) : List Bool:=(List.range n).map f.testBit

theorem set_ev {f : Nat → Bool} {n i : Nat} {A : AV} (hi : i < n) (hA : leR A (.bool (f i))) :
  leRL (((List.range i).map (fun j=>AV.bool (f j)) ++ List.replicate (n - i) AV.ff).set i A) ((List.range (i + 1)).map (fun j=>AV.bool (f j)) ++ List.replicate (n - (i + 1)) AV.ff):=by
 have e1 : n - i = (n - (i + 1)) + 1:=by omega
 have key : ∀ (l : List AV) (r : List AV),leRL (l ++ A :: r) (l ++ AV.bool (f i) :: r):=by
  intro l r
  induction l with
  | nil=>exact ⟨hA,leRL_refl r⟩
  | cons x l ih=>exact ⟨leR_refl x,ih⟩
 rw [e1,List.replicate_succ,List.set_append_right _ _ (by simp)]
 simp only [List.length_map,List.length_range,Nat.sub_self,List.set_cons_zero]
 rw [List.range_succ,List.map_append,List.append_assoc]
 exact key _ _

theorem c_events (d : Dyn) (f : Nat) (hf : f < 2 ^ 63) (h0 : 0 ≤ d.vars ∧ d.vars ≤ 24 ∧ d.gates.length ≤ 100) : FnH Tryz.prog 222 [d.av,.int .i64 f] [] (.sl 1 ((evs d.vars.toNat f).map .bool) (.own 2)) [(2,.tok 1 d.vars.toNat)]:=by
 refine FnH.intro lay mixed Tryz.func222 (by kernel_rfl) rfl (by kernel_rfl) rfl fun hok=>?_
 conv=>whnf
 have hlen : (d.gates.map Gate.av).length = d.gates.length:=by simp
 refine ⟨inr64 (by omega) (by omega),?_⟩
 conv=>whnf
 refine ⟨by refine ⟨by omega,by omega,by simp; omega,by simp; omega⟩,?_⟩
 refine .wr ?_
 conv=>whnf
 refine LoopE.of <| LoopSpec.inv (.refl _ _) (fun i : Nat=>i ≤ d.vars.toNat) (fun i=>[(18,.int .i64 i)]) (fun i=>[(1,.arr 1 (d.vars + ((d.gates.map Gate.av).length : Int)).toNat ((List.range i).map (fun j=>AV.bool (f.testBit j)) ++ List.replicate (d.vars.toNat - i) .ff)),(0,.box d.av)]) (fun i=>d.vars.toNat - i) 0 ?_ (fun _=>rfl) ?_ ?_
 ·exact Nat.zero_le _
 ·refine ⟨by (repeat' first|exact rfl|exact trivial|exact wR|exact lR _|apply aI),.mk ?_ ?_⟩
  ·all_goals exact wk
  ·exact ⟨by simp,by simp,trivial⟩
 intro i hi _
 conv=>whnf
 refine And.intro (fun h=>?_) (fun h=>?_)
 ·have hlt : i < d.vars.toNat:=by omega
  conv=>whnf
  refine ⟨by omega,?_⟩
  conv=>whnf
  refine ⟨⟨by omega,by omega⟩,?_⟩
  conv=>whnf
  refine ⟨by simp; omega,rfl,?_⟩
  conv=>whnf
  refine zA ?_;conv=>whnf
  refine ⟨i + 1,?_,?_,?_⟩
  ·exact hlt
  ·refine ⟨by (repeat' first|exact rfl|exact trivial|exact wR|exact lR _|apply aI),.mk ?_ ?_⟩
   ·repeat' first|exact rfl|exact trivial|exact wR|exact lR _|apply aI
    ·simp only [Nat.zero_add,Int.toNat_natCast]
     refine set_ev hlt ?_
     show _ ↔ _
     rw [bit_test hf (by omega)]
     cases f.testBit i <;> simp
   ·exact ⟨by simp,by simp,trivial⟩
  ·omega
 ·have hlt : i = d.vars.toNat:=by omega
  subst hlt
  conv=>whnf
  refine ⟨⟨_,_,.keep 4 1 d.vars.toNat _ 1 _ rfl rfl ?_ (.refl _ _),?_⟩⟩
  ·simp
  conv=>whnf
  refine ⟨⟨rfl,?_,rfl⟩,rfl,by simp [nextId],.mk ?_ ?_⟩
  ·refine leRL_of ?_
   simp [evs]
   rw [List.take_of_length_le (by simp)]; rfl
  ·all_goals exact wk
  ·exact ⟨by simp,trivial⟩

theorem foldl_take {α β : Type} {f : β → α → β} {s : β} {l : List α} {i : Nat} (h : i < l.length) : (l.take (i + 1)).foldl f s = f ((l.take i).foldl f s) l[i]:=by
 rw [List.take_add_one,List.getElem?_eq_getElem h,List.foldl_append]; rfl

def idxP {α : Type} (p : α → Bool) : List α → Int
 | []=>-1
 | x :: l=>if p x then 0 else (match idxP p l with | -1=>-1 | n=>n + 1)

theorem idxP_cases {α : Type} (p : α → Bool) : ∀ l : List α,(idxP p l = -1 ∧ ∀ x ∈ l,p x = false) ∨ ∃ (i : Nat) (h : i < l.length),idxP p l = i ∧ p l[i] = true ∧ ∀ (j : Nat) (hj : j < i),p l[j] = false
 | []=>.inl ⟨rfl,by simp⟩
 | x :: l=>by
   simp only [idxP]
   cases hx : p x with
   | true=>exact .inr ⟨0,by simp,by simp,by simpa using hx,by simp⟩
   | false =>
     rcases idxP_cases p l with ⟨h1,h2⟩ | ⟨i,h,h1,h2,h3⟩
     ·refine .inl ⟨by simp [h1],?_⟩
      intro y hy
      rcases List.mem_cons.1 hy with rfl | hy
      ·exact hx
      ·exact h2 y hy
     ·refine .inr ⟨i + 1,by simpa using h,?_,by simpa using h2,?_⟩
      ·simp only [Bool.false_eq_true,if_false]
       rw [h1]
       split
       ·rename_i h4; omega
       ·simp
      ·intro j hj
       cases j with
       | zero=>simpa using hx
       | succ j=>simpa using h3 j (by omega)

theorem idxP_some {α : Type} {p : α → Bool} {l : List α} {i : Nat} (h : i < l.length) (hp : p l[i] = true) (hn : ∀ (j : Nat) (hj : j < i),p l[j] = false) : idxP p l = i:=by
 rcases idxP_cases p l with ⟨_,h2⟩ | ⟨k,hk,h1,h2,h3⟩
 ·rw [h2 _ (List.getElem_mem h)] at hp; cases hp
 ·rcases Nat.lt_trichotomy i k with hik | rfl | hik
  ·rw [h3 i hik] at hp; cases hp
  ·exact h1
  ·rw [hn k hik] at h2; cases h2

theorem idxP_none {α : Type} {p : α → Bool} {l : List α} (hn : ∀ (j : Nat) (hj : j < l.length),p l[j] = false) : idxP p l = -1:=by
 rcases idxP_cases p l with ⟨h1,_⟩ | ⟨k,hk,_,h2,_⟩
 ·exact h1
 ·rw [hn k hk] at h2; cases h2

theorem c_indexFuncInt (l : List Int) (g : Nat) (cap : List AV) (p : Int → Bool) (H : Heap) (hg : ∀ x ∈ l,FnH Tryz.prog g (.int .i64 x :: cap) H (.bool (p x)) H) :
  FnH Tryz.prog 291 [iL l,.fn g cap] H (.int .i64 (idxP p l)) H:=by
 refine FnH.intro lay mixed Tryz.func291 (by kernel_rfl) rfl (by kernel_rfl) rfl fun hok=>?_
 have hl : l.length ≤ 9223372036854775807:=by simpa [OkL,Ok,maxL] using hok.1.1
 conv=>whnf
 refine LoopE.of <| LoopSpec.inv (.refl _ _) (fun (i : Nat)=>i ≤ l.length ∧ ∀ (j : Nat) (hj : j < l.length),j < i → p l[j] = false) (fun (i : Nat)=>[(8,.int .i64 i)]) (fun _=>_) (fun (i : Nat)=>l.length - i) 0 ?_ (fun _=>rfl) ?_ ?_
 ·exact ⟨Nat.zero_le _,by omega⟩
 ·all_goals exact wk
 rintro i ⟨hi,hn⟩ _
 conv=>whnf
 refine And.intro (fun h=>?_) (fun h=>?_)
 ·have hlt : i < l.length:=by simpa using h
  conv=>whnf
  refine aidx hlt ?_
  conv=>whnf
  refine .gen _ _ (hg _ (List.getElem_mem hlt)) fun _=>?_
  conv=>whnf
  refine And.intro (fun h=>?_) (fun h=>?_)
  ·conv=>whnf
   (refine FinSpec.same ?_;(conv=>whnf);refine ⟨?_,rfl⟩;(conv=>whnf))
   exact ⟨rfl,(idxP_some hlt h fun j hj=>hn j (by omega) hj).symm⟩
  ·conv=>whnf
   refine zA ?_;conv=>whnf
   refine ⟨i + 1,?_,?_,?_⟩
   ·refine ⟨hlt,fun j hj hji=>?_⟩
    by_cases hji' : j = i
    ·subst hji'; exact h
    ·exact hn j hj (by omega)
   ·all_goals exact wk
   ·omega
 ·have hlt : i = l.length:=by have : ¬ i < l.length:=by simpa using h
                              omega
  subst hlt
  conv=>whnf
  (refine FinSpec.same ?_;(conv=>whnf);refine ⟨?_,rfl⟩;(conv=>whnf))
  exact ⟨rfl,(idxP_none fun j hj=>hn j hj hj).symm⟩

theorem leRL_snoc {x y : AV} (hx : leR x y) : ∀ {l m : List AV},leRL l m → leRL (l ++ [x]) (m ++ [y])
 | [],[],_=>⟨hx,trivial⟩
 | [],_ :: _,h=>by simp only [leRL] at h
 | _ :: _,[],h=>by simp only [leRL] at h
 | a :: l,b :: m,h=>by simp only [leRL] at h; exact ⟨h.1,leRL_snoc hx h.2⟩

def bstep (v : List Bool) (s : Bool × Bool × Int) (a : Int) : Bool × Bool × Int :=
 if v.getD a.toNat false then (true,s.2.1,if s.2.1 then 1 else s.2.2) else (s.1,true,s.2.2)

def brokenR (g : Gate) (v : List Bool) (old : Int) : Int :=
 let s:=g.args.foldl (bstep v) (false,false,old)
 if s.1 then s.2.2 else 0

theorem c_broken (g : Gate) (v : List Bool) (old : Int) (ha : ∀ a ∈ g.args,0 ≤ a ∧ a < (v.length : Int)) : FnH Tryz.prog 287 [g.av,bL v,.int .i64 old] [] (.int .i64 (brokenR g v old)) []:=by
 refine FnH.intro lay mixed Tryz.func287 (by kernel_rfl) rfl (by kernel_rfl) rfl fun hok=>?_
 have hl : g.args.length ≤ 9223372036854775807:=by simpa [OkL,Ok,maxL] using hok.1.2.2.1.1
 conv=>whnf
 refine LoopE.of <| LoopSpec.inv (.refl _ _) (fun (i : Nat)=>i ≤ g.args.length) (fun (i : Nat)=>[(16,.int .i64 i),(7,.bool ((g.args.take i).foldl (bstep v) (false,false,old)).1),(8,.bool ((g.args.take i).foldl (bstep v) (false,false,old)).2.1),(9,.int .i64 ((g.args.take i).foldl (bstep v) (false,false,old)).2.2)]) (fun _=>_) (fun (i : Nat)=>g.args.length - i) 0 ?_ (fun _=>rfl) ?_ ?_
 ·exact Nat.zero_le _
 ·all_goals exact wk
 intro i hi _
 conv=>whnf
 refine And.intro (fun h=>?_) (fun h=>?_)
 ·have hlt : i < g.args.length:=by simpa using h
  have ha':=ha g.args[i] (List.getElem_mem hlt)
  have hs:=foldl_take (f:=bstep v) (s:=(false,false,old)) hlt
  generalize hs0 : (g.args.take i).foldl (bstep v) (false,false,old) = s at *
  obtain ⟨s1,s2,s3⟩:=s
  conv=>whnf
  refine aidx hlt ?_
  conv=>whnf
  refine aidxD false ha' ?_
  conv=>whnf
  refine And.intro (fun h=>?_) (fun h=>?_)
  ·rw [bstep,if_pos h] at hs
   conv=>whnf
   refine And.intro (fun h=>?_) (fun h=>?_)
   ·conv=>whnf
    refine zA ?_;conv=>whnf
    refine ⟨i + 1,?_,?_,?_⟩
    ·exact hlt
    ·rw [hs]; (repeat' first|exact rfl|exact trivial|exact wR|exact lR _|apply aI)
     simp_all
    ·omega
   ·conv=>whnf
    refine zA ?_;conv=>whnf
    refine ⟨i + 1,?_,?_,?_⟩
    ·exact hlt
    ·rw [hs]; (repeat' first|exact rfl|exact trivial|exact wR|exact lR _|apply aI)
     simp_all
    ·omega
  ·rw [bstep,h,if_neg (by simp)] at hs
   conv=>whnf
   refine zA ?_;conv=>whnf
   refine ⟨i + 1,?_,?_,?_⟩
   ·exact hlt
   ·rw [hs]; (repeat' first|exact rfl|exact trivial|exact wR|exact lR _|apply aI)
   ·omega
 ·have hlt : i = g.args.length:=by have : ¬ i < g.args.length:=by simpa using h
                                   omega
  subst hlt
  rw [List.take_length]
  conv=>whnf
  (repeat' (first|(refine aI (fun _=>?_) (fun _=>?_)<;>(conv=>whnf))|(refine ADraw.auto (by kernel_rfl) ?_;(conv=>whnf))|(refine fM ?_;(conv=>whnf);refine ⟨?_,rfl⟩;(conv=>whnf))|(refine aI (inr64 (by omega) (by omega)) ?_;(conv=>whnf))|(refine aI (by decide) ?_;(conv=>whnf))))
  all_goals simp_all [brokenR]

theorem c_active1 (v : List Bool) (a : Int) (ha : 0 ≤ a ∧ a < (v.length : Int)) (H : Heap) (k : Nat) (hk : hget H k = some (.box (bL v))) :
  FnH Tryz.prog 292 [.int .i64 a,.ptr k [] 0] H (.bool (!v.getD a.toNat false)) H:=by
 refine FnH.intro lay mixed Tryz.func292 (by kernel_rfl) rfl (by kernel_rfl) rfl fun hok=>?_
 conv=>whnf
 refine hgetC_iff.2 ⟨_,hk,?_⟩
 conv=>whnf
 refine aidxD false ha ?_
 conv=>whnf
 (refine FinSpec.same ?_;(conv=>whnf);refine ⟨?_,rfl⟩;(conv=>whnf))

def activeR (g : Gate) (v : List Bool) (old : Int) : Int :=
 if 0 ≤ old ∧ v.getD (g.args.getD old.toNat 0).toNat false = false then old else idxP (fun a=>!v.getD a.toNat false) g.args

theorem getD_mem {α : Type} {l : List α} {i : Nat} {d : α} (h : i < l.length) : l.getD i d ∈ l:=by
 rw [List.getD_eq_getElem?_getD,List.getElem?_eq_getElem h]; exact List.getElem_mem h

theorem c_active (g : Gate) (v : List Bool) (old : Int) (ha : ∀ a ∈ g.args,0 ≤ a ∧ a < (v.length : Int)) (ho : old < (g.args.length : Int)) : FnH Tryz.prog 288 [g.av,bL v,.int .i64 old] [] (.int .i64 (activeR g v old)) []:=by
 refine FnH.intro lay mixed Tryz.func288 (by kernel_rfl) rfl (by kernel_rfl) rfl fun hok=>?_
 conv=>whnf
 refine ADraw.auto (by kernel_rfl) ?_;conv=>whnf
 refine And.intro (fun h=>?_) (fun h=>?_)
 ·have hx : 0 ≤ old ∧ old < (g.args.length : Int):=⟨h,ho⟩
  have ha':=ha (g.args.getD old.toNat 0) (getD_mem (by omega))
  conv=>whnf
  refine aidxD 0 hx ?_
  conv=>whnf
  refine aidxD false ha' ?_
  conv=>whnf
  refine And.intro (fun h=>?_) (fun h=>?_)
  ·conv=>whnf
   refine fM ?_;(conv=>whnf);refine ⟨?_,rfl⟩;conv=>whnf
   refine ⟨rfl,?_⟩
   rw [activeR,if_pos ⟨hx.1,by simpa using h⟩]
  ·conv=>whnf
   refine .gen _ _ (c_indexFuncInt g.args 292 [.ptr 1 [] 0] (fun a=>!v.getD a.toNat false) _ fun x hx=>c_active1 v x (ha x hx) _ 1 rfl) fun _=>?_
   conv=>whnf
   refine fM ?_;(conv=>whnf);refine ⟨?_,rfl⟩;conv=>whnf
   refine ⟨rfl,?_⟩
   rw [activeR,if_neg (by simp only [Bool.not_eq_false'] at h; rw [h]; simp)]
 ·conv=>whnf
  refine .gen _ _ (c_indexFuncInt g.args 292 [.ptr 1 [] 0] (fun a=>!v.getD a.toNat false) _ fun x hx=>c_active1 v x (ha x hx) _ 1 rfl) fun _=>?_
  conv=>whnf
  refine fM ?_;(conv=>whnf);refine ⟨?_,rfl⟩;conv=>whnf
  refine ⟨rfl,?_⟩
  rw [activeR,if_neg (by omega)]

def memoR (g : Gate) (v : List Bool) (old : Int) : Int :=
 if g.kind = 6 then brokenR g v old else if g.kind = 7 then activeR g v old else 0

def ostep (old : List Int) (s : List Int × List Bool) (g : Gate) : List Int × List Bool :=
 let m:=memoR g s.2 (old.getD s.1.length 0)
 (s.1 ++ [m],s.2 ++ [gval g s.2 m])

def onceR (d : Dyn) (f : Nat) (old : List Int) : List Int × List Bool:=d.gates.foldl (ostep old) ([],evs d.vars.toNat f)

theorem ostep_len (old : List Int) : ∀ (l : List Gate) (s : List Int × List Bool),(l.foldl (ostep old) s).1.length = s.1.length + l.length ∧ (l.foldl (ostep old) s).2.length = s.2.length + l.length
 | [],s=>by simp
 | g :: l,s=>by
   have:=ostep_len old l (ostep old s g)
   simp only [List.foldl_cons,List.length_cons]
   simp only [ostep,List.length_append,List.length_singleton] at this ⊢
   omega

theorem evs_len (n f : Nat) : (evs n f).length = n:=by simp [evs]

structure TreeOk (d : Dyn) : Prop where
 vars : 1 ≤ d.vars ∧ d.vars ≤ 24
 gates : d.gates.length ≤ 64
 args : ∀ (i : Nat) (h : i < d.gates.length),∀ a ∈ (d.gates[i]).args,0 ≤ a ∧ a < d.vars + i
 two : ∀ (i : Nat) (h : i < d.gates.length),(d.gates[i]).kind = 8 → 2 ≤ (d.gates[i]).args.length
 dep : ∀ (i : Nat) (h : i < d.gates.length),(d.gates[i]).kind = 8 → ∀ a ∈ (d.gates[i]).args.drop 1,a < d.vars
 sp : ∀ (i : Nat) (h : i < d.gates.length),(d.gates[i]).kind = 7 → 2 ≤ (d.gates[i]).args.length
 spl : ∀ (i : Nat) (h : i < d.gates.length),(d.gates[i]).kind = 7 → ∀ a ∈ (d.gates[i]).args,a < d.vars
 top : 0 ≤ d.top ∧ d.top < d.vars + d.gates.length

structure MemoOk (d : Dyn) (memo : List Int) : Prop where
 len : memo.length = d.gates.length
 sp : ∀ (i : Nat) (h : i < d.gates.length),(d.gates[i]).kind = 7 → memo.getD i 0 < (d.gates[i]).args.length

theorem c_once (d : Dyn) (f : Nat) (old : List Int) (hf : f < 2 ^ 63) (hd : TreeOk d) (ho : MemoOk d old) :
  FnH Tryz.prog 267 [d.av,.int .i64 f,iL old] [] (.tup [iL (onceR d f old).1,bL (onceR d f old).2]) []:=by
 have hv:=hd.vars
 have hg:=hd.gates
 refine FnH.intro lay mixed Tryz.func267 (by kernel_rfl) rfl (by kernel_rfl) rfl fun hok=>?_
 conv=>whnf
 refine .gen _ _ (FnH.frame [] (c_events d f hf (by omega)) ⟨rfl,rfl,rfl,rfl⟩ trivial (leL_refl _)) fun _=>?_
 conv=>whnf
 have hl : (d.gates.map Gate.av).length = d.gates.length:=by simp
 refine LoopE.of <| LoopSpec.inv (.grow 9 1 [] _ rfl (.inl ⟨rfl,rfl⟩) (.refl _ _)) (fun i : Nat=>i ≤ d.gates.length)
  (fun i=>[(19,.int .i64 i),(8,.sl 1 ((((d.gates.take i).foldl (ostep old) ([],evs d.vars.toNat f)).2).map .bool) (.own 3)),(9,.sl 1 ((((d.gates.take i).foldl (ostep old) ([],evs d.vars.toNat f)).1).map (.int .i64)) (.own 4))])
  (fun i=>[(4,.tok 1 i),(3,.tok 1 (d.vars.toNat + i)),(0,.box d.av)]) (fun i=>d.gates.length - i) 0 ?_ (fun _=>rfl) ?_ ?_
 ·exact Nat.zero_le _
 ·refine ⟨by (repeat' first|exact rfl|exact trivial|exact wR|exact lR _|apply aI),.mk ?_ ?_⟩
  ·all_goals exact wk
  ·exact ⟨by simp,by simp,by simp,trivial⟩
 intro i hi _
 conv=>whnf
 refine And.intro (fun h=>?_) (fun h=>?_)
 ·have hlt : i < d.gates.length:=by omega
  have hs:=foldl_take (f:=ostep old) (s:=([],evs d.vars.toNat f)) hlt
  have hlen:=ostep_len old (d.gates.take i) ([],evs d.vars.toNat f)
  rw [List.length_take,evs_len,Nat.min_eq_left hi] at hlen
  have ha:=hd.args i hlt
  generalize hg0 : d.gates[i] = g at *
  generalize hs0 : (d.gates.take i).foldl (ostep old) ([],evs d.vars.toNat f) = s at *
  obtain ⟨s1,s2⟩:=s
  simp only [List.length_nil,Nat.zero_add] at hlen
  have ha2 : ∀ a ∈ g.args,0 ≤ a ∧ a < (s2.length : Int):=fun a h=>by have:=ha a h; omega
  conv=>whnf
  refine aidx hlt ?_
  rw [hg0]
  have hx : (i : Int) < (old.length : Int):=by rw [ho.len]; omega
  have h8 : g.kind = 8 → g.args ≠ []:=fun hk e=>by have:=hd.two i hlt (by rw [hg0]; exact hk); rw [hg0,e] at this; simp at this
  conv=>whnf
  refine And.intro (fun h=>?_) (fun h=>?_)
  ·have hm : memoR g s2 (old.getD s1.length 0) = brokenR g s2 (old.getD i 0):=by rw [memoR,if_pos h,hlen.1]
   rw [ostep,hm] at hs
   conv=>whnf
   refine ADraw.auto (by kernel_rfl) ?_;conv=>whnf
   refine aidxD 0 ⟨by omega,hx⟩ ?_
   conv=>whnf
   refine ACallP.pure _ _ ?_ ⟨rfl,rfl⟩ (c_broken g s2 (old.getD i 0) ha2) ?_
   ·all_goals exact wk
   conv=>whnf
   refine ⟨by simp; omega,?_⟩
   (refine ⟨by simp [maxL] <;> omega,by simp <;> omega,?_⟩;(conv=>whnf))
   refine .pure _ _ ?_ ⟨rfl,rfl⟩ (c_value g s2 (brokenR g s2 (old.getD i 0)) ha2 h8) fun _=>?_
   ·all_goals exact wk
   conv=>whnf
   refine ⟨by simp; omega,?_⟩
   (refine ⟨by simp [maxL] <;> omega,by simp <;> omega,?_⟩;(conv=>whnf))
   refine zA ?_;conv=>whnf
   refine ⟨i + 1,?_,?_,?_⟩
   ·exact hlt
   ·rw [hs]
    refine ⟨?_,.mk ?_ ?_⟩
    ·repeat' first|exact rfl|exact trivial|exact wR|exact lR _|apply aI
     ·refine leRL_of ?_
      simp [strip]
     ·refine leRL_of ?_
      simp [strip]
    ·repeat' first|exact rfl|exact trivial|exact wR|exact lR _|apply aI
     ·simp; omega
     ·simp; omega
    ·exact ⟨by simp,by simp,by simp,trivial⟩
   ·omega
  ·conv=>whnf
   refine And.intro (fun h=>?_) (fun h=>?_)
   ·have hm : memoR g s2 (old.getD s1.length 0) = activeR g s2 (old.getD i 0):=by rw [memoR,if_neg (by omega),if_pos (by omega),hlen.1]
    rw [ostep,hm] at hs
    have hsp:=ho.sp i hlt (by rw [hg0]; assumption)
    rw [hg0] at hsp
    conv=>whnf
    refine ADraw.auto (by kernel_rfl) ?_;conv=>whnf
    refine aidxD 0 ⟨by omega,hx⟩ ?_
    conv=>whnf
    refine ACallP.pure _ _ ?_ ⟨rfl,rfl⟩ (c_active g s2 (old.getD i 0) ha2 hsp) ?_
    ·all_goals exact wk
    conv=>whnf
    refine ⟨by simp; omega,?_⟩
    (refine ⟨by simp [maxL] <;> omega,by simp <;> omega,?_⟩;(conv=>whnf))
    refine .pure _ _ ?_ ⟨rfl,rfl⟩ (c_value g s2 (activeR g s2 (old.getD i 0)) ha2 h8) fun _=>?_
    ·all_goals exact wk
    conv=>whnf
    refine ⟨by simp; omega,?_⟩
    (refine ⟨by simp [maxL] <;> omega,by simp <;> omega,?_⟩;(conv=>whnf))
    refine zA ?_;conv=>whnf
    refine ⟨i + 1,?_,?_,?_⟩
    ·exact hlt
    ·rw [hs]
     refine ⟨?_,.mk ?_ ?_⟩
     ·repeat' first|exact rfl|exact trivial|exact wR|exact lR _|apply aI
      ·refine leRL_of ?_
       simp [strip]
      ·refine leRL_of ?_
       simp [strip]
     ·repeat' first|exact rfl|exact trivial|exact wR|exact lR _|apply aI
      ·simp; omega
      ·simp; omega
     ·exact ⟨by simp,by simp,by simp,trivial⟩
    ·omega
   ·have hm : memoR g s2 (old.getD s1.length 0) = 0:=by rw [memoR,if_neg (by omega),if_neg (by omega)]
    rw [ostep,hm] at hs
    conv=>whnf
    refine ⟨by simp; omega,?_⟩
    (refine ⟨by simp [maxL] <;> omega,by simp <;> omega,?_⟩;(conv=>whnf))
    refine .pure _ _ ?_ ⟨rfl,rfl⟩ (c_value g s2 0 ha2 h8) fun _=>?_
    ·all_goals exact wk
    conv=>whnf
    refine ⟨by simp; omega,?_⟩
    (refine ⟨by simp [maxL] <;> omega,by simp <;> omega,?_⟩;(conv=>whnf))
    refine zA ?_;conv=>whnf
    refine ⟨i + 1,?_,?_,?_⟩
    ·exact hlt
    ·rw [hs]
     refine ⟨?_,.mk ?_ ?_⟩
     ·repeat' first|exact rfl|exact trivial|exact wR|exact lR _|apply aI
      ·refine leRL_of ?_
       simp [strip]
      ·refine leRL_of ?_
       simp [strip]
     ·repeat' first|exact rfl|exact trivial|exact wR|exact lR _|apply aI
      ·simp; omega
      ·simp; omega
     ·exact ⟨by simp,by simp,by simp,trivial⟩
    ·omega
 ·have hlt : i = d.gates.length:=by omega
  subst hlt
  rw [List.take_length]
  conv=>whnf
  refine fM ?_;(conv=>whnf);refine ⟨?_,rfl⟩;conv=>whnf
  all_goals exact wk

def orAll (l : List Int) (f : Nat) : Nat:=l.foldl (fun x a=>x ||| 2 ^ a.toNat) f

def strike1 (v : List Bool) (x : Nat) (g : Gate) : Nat :=
 if g.kind = 8 ∧ v.getD (g.args.getD 0 0).toNat false = true then orAll (g.args.drop 1) x else x

def strike (d : Dyn) (v : List Bool) (f : Nat) : Nat:=d.gates.foldl (strike1 v) f

def settleN (d : Dyn) (old : List Int) : Nat → Nat → St
 | 0,f=>⟨f,(onceR d f old).1⟩
 | n + 1,f=>if strike d (onceR d f old).2 f = f then ⟨f,(onceR d f old).1⟩ else settleN d old n (strike d (onceR d f old).2 f)

def settleR (d : Dyn) (f : Nat) (old : List Int) : St:=settleN d old (2 ^ d.vars.toNat - f) f

theorem orAll_le : ∀ (l : List Int) (f : Nat),f ≤ orAll l f
 | [],f=>Nat.le_refl _
 | a :: l,f=>Nat.le_trans (Nat.left_le_or) (orAll_le l (f ||| 2 ^ a.toNat))

theorem orAll_lt {n : Nat} : ∀ (l : List Int) (f : Nat),(∀ a ∈ l,0 ≤ a ∧ a < (n : Int)) → f < 2 ^ n → orAll l f < 2 ^ n
 | [],f,_,h=>h
 | a :: l,f,ha,h=>by
   refine orAll_lt l _ (fun b hb=>ha b (by simp [hb])) ?_
   refine Nat.or_lt_two_pow h (Nat.pow_lt_pow_right (by omega) ?_)
   have:=ha a (by simp); omega

theorem strike_le (v : List Bool) : ∀ (l : List Gate) (f : Nat),f ≤ l.foldl (strike1 v) f
 | [],f=>Nat.le_refl _
 | g :: l,f=>by
   refine Nat.le_trans ?_ (strike_le v l (strike1 v f g))
   unfold strike1; split
   ·exact orAll_le _ _
   ·exact Nat.le_refl _

theorem strike1_lt {n : Nat} {v : List Bool} {g : Gate} {f : Nat} (hg : g.kind = 8 → ∀ a ∈ g.args.drop 1,0 ≤ a ∧ a < (n : Int)) (h : f < 2 ^ n) : strike1 v f g < 2 ^ n:=by
 unfold strike1; split
 ·rename_i h8; exact orAll_lt _ _ (hg h8.1) h
 ·exact h

theorem strikeL_lt {n : Nat} {v : List Bool} : ∀ (l : List Gate) (f : Nat),(∀ g ∈ l,g.kind = 8 → ∀ a ∈ g.args.drop 1,0 ≤ a ∧ a < (n : Int)) → f < 2 ^ n → l.foldl (strike1 v) f < 2 ^ n
 | [],f,_,h=>h
 | g :: l,f,hg,h=>strikeL_lt l _ (fun x hx=>hg x (by simp [hx])) (strike1_lt (hg g (by simp)) h)

theorem TreeOk.drop {d : Dyn} (hd : TreeOk d) : ∀ g ∈ d.gates,g.kind = 8 → ∀ a ∈ g.args.drop 1,0 ≤ a ∧ a < (d.vars.toNat : Int):=by
 intro g hg h8 a ha
 obtain ⟨i,hi,rfl⟩:=List.getElem_of_mem hg
 have h1:=hd.args i hi a (List.mem_of_mem_drop ha)
 have h2:=hd.dep i hi h8 a ha
 omega

theorem strike_lt {d : Dyn} (hd : TreeOk d) {v : List Bool} {f : Nat} (h : f < 2 ^ d.vars.toNat) : strike d v f < 2 ^ d.vars.toNat:=strikeL_lt _ _ hd.drop h

theorem settleN_fuel {d : Dyn} (hd : TreeOk d) {old : List Int} : ∀ (n m f : Nat),f < 2 ^ d.vars.toNat → 2 ^ d.vars.toNat - f ≤ n → 2 ^ d.vars.toNat - f ≤ m → settleN d old n f = settleN d old m f:=by
 intro n
 induction n with
 | zero=>intro m f h1 h2 h3; omega
 | succ n ih =>
   intro m f h1 h2 h3
   cases m with
   | zero=>omega
   | succ m =>
     simp only [settleN]
     split
     ·rfl
     ·rename_i hne
      have h4:=strike_le (onceR d f old).2 d.gates f
      have h4 : f ≤ strike d (onceR d f old).2 f:=h4
      exact ih m _ (strike_lt hd h1) (by omega) (by omega)

theorem settleR_step {d : Dyn} (hd : TreeOk d) {f : Nat} {old : List Int} (hf : f < 2 ^ d.vars.toNat) :
  settleR d f old = if strike d (onceR d f old).2 f = f then ⟨f,(onceR d f old).1⟩ else settleR d (strike d (onceR d f old).2 f) old:=by
 unfold settleR
 obtain ⟨n,hn⟩ : ∃ n,2 ^ d.vars.toNat - f = n + 1:=⟨2 ^ d.vars.toNat - f - 1,by omega⟩
 rw [hn]
 simp only [settleN]
 split
 ·rfl
 ·rename_i hne
  have h4 : f ≤ strike d (onceR d f old).2 f:=strike_le _ _ _
  have h5:=strike_lt hd (v:=(onceR d f old).2) hf
  exact settleN_fuel hd _ _ _ h5 (by omega) (Nat.le_refl _)

theorem pow_vars {d : Dyn} (hd : TreeOk d) : 2 ^ d.vars.toNat ≤ 16777216:=by
 have:=hd.vars
 exact Nat.le_trans (Nat.pow_le_pow_right (by omega) (show d.vars.toNat ≤ 24 by omega)) (by decide)

theorem orAll_take {l : List Int} {i x : Nat} (h : i < l.length) : orAll (l.take (i + 1)) x = orAll (l.take i) x ||| 2 ^ (l[i]).toNat:=by
 unfold orAll; rw [foldl_take h]

theorem c_settle (d : Dyn) (f : Nat) (old : List Int) (hf : f < 2 ^ d.vars.toNat) (hd : TreeOk d) (ho : MemoOk d old) :
  FnH Tryz.prog 220 [d.av,.int .i64 f,iL old] [] (settleR d f old).av []:=by
 have hv:=hd.vars
 have hg:=hd.gates
 have hp:=pow_vars hd
 refine FnH.intro lay mixed Tryz.func220 (by kernel_rfl) rfl (by kernel_rfl) rfl fun hok=>?_
 conv=>whnf
 refine LoopE.of <| LoopSpec.inv (.refl _ _) (fun (x : Nat)=>x < 2 ^ d.vars.toNat ∧ settleR d x old = settleR d f old) (fun (x : Nat)=>[(1,.int .i64 x)]) (fun _=>_) (fun (x : Nat)=>2 ^ d.vars.toNat - x) f ?_ (fun _=>rfl) ?_ ?_
 ·exact ⟨hf,rfl⟩
 ·all_goals exact wk
 rintro x ⟨hx,hs⟩ _
 conv=>whnf
 refine .pure _ _ ?_ ⟨rfl,rfl⟩ (c_once d x old (by omega) hd ho) fun _=>?_
 ·all_goals exact wk
 have hlen : (onceR d x old).2.length = d.vars.toNat + d.gates.length:=by
  unfold onceR; rw [(ostep_len old d.gates _).2,evs_len]
 rw [settleR_step hd hx] at hs
 generalize (onceR d x old).1 = o1 at *
 generalize (onceR d x old).2 = o2 at *
 conv=>whnf
 have hl : (d.gates.map Gate.av).length = d.gates.length:=by simp
 refine LoopE.of <| LoopSpec.inv (.refl _ _) (fun (i : Nat)=>i ≤ d.gates.length) (fun (i : Nat)=>[(25,.int .i64 i),(9,.int .i64 ((d.gates.take i).foldl (strike1 o2) x : Nat))]) (fun _=>_) (fun (i : Nat)=>d.gates.length - i) 0 ?_ (fun _=>rfl) ?_ ?_
 ·exact Nat.zero_le _
 ·all_goals exact wk
 intro i hi _
 conv=>whnf
 refine And.intro (fun h=>?_) (fun h=>?_)
 ·have hlt : i < d.gates.length:=by omega
  have hst:=foldl_take (f:=strike1 o2) (s:=x) hlt
  have hlt2:=strikeL_lt (n:=d.vars.toNat) (v:=o2) (d.gates.take i) x (fun g hg=>hd.drop g (List.mem_of_mem_take hg)) hx
  generalize hy : (d.gates.take i).foldl (strike1 o2) x = y at *
  have ha:=hd.args i hlt
  have h2:=hd.two i hlt
  have hdr:=hd.drop _ (List.getElem_mem hlt)
  generalize hg0 : d.gates[i] = g at *
  conv=>whnf
  refine aidx hlt ?_
  rw [hg0]
  conv=>whnf
  refine And.intro (fun h=>?_) (fun h=>?_)
  ·rename_i h8
   have hlen0 : 0 < g.args.length:=by have:=h2 h; omega
   have ha0:=ha (g.args.getD 0 0) (getD_mem hlen0)
   conv=>whnf
   refine aidx0 0 hlen0 ?_
   conv=>whnf
   refine aidxD false ⟨ha0.1,by omega⟩ ?_
   conv=>whnf
   refine And.intro (fun h=>?_) (fun h=>?_)
   ·rename_i hk
    have hst1 : strike1 o2 y g = orAll (g.args.drop 1) y:=by unfold strike1; rw [if_pos ⟨hk,h⟩]
    rw [hst1] at hst
    conv=>whnf
    refine ⟨⟨by omega,by simp; omega,by simp⟩,?_⟩
    have hcut : ((g.args.map (AV.int .i64)).drop (1 : Int).toNat).take (((g.args.map (AV.int .i64)).length : Int).toNat - (1 : Int).toNat) = (g.args.drop 1).map (AV.int .i64):=by
     rw [List.take_of_length_le (by simp),← List.map_drop]; rfl
    rw [hcut]
    conv=>whnf
    refine LoopE.of <| LoopSpec.inv (.refl _ _) (fun (j : Nat)=>j ≤ (g.args.drop 1).length) (fun (j : Nat)=>[(45,.int .i64 j),(9,.int .i64 (orAll ((g.args.drop 1).take j) y : Nat))]) (fun _=>_) (fun (j : Nat)=>(g.args.drop 1).length - j) 0 ?_ (fun _=>rfl) ?_ ?_
    ·exact Nat.zero_le _
    ·all_goals exact wk
    intro j hj _
    conv=>whnf
    refine And.intro (fun h=>?_) (fun h=>?_)
    ·have hjlt : j < (g.args.drop 1).length:=by simp only [List.length_map] at h; omega
     have hor:=orAll_take (x:=y) hjlt
     have hor2:=orAll_lt (n:=d.vars.toNat) ((g.args.drop 1).take j) y (fun a ha=>hdr hk a (List.mem_of_mem_take ha)) hlt2
     have ha1:=hdr hk _ (List.getElem_mem hjlt)
     obtain ⟨a',ha'⟩ : ∃ a' : Nat,(g.args.drop 1)[j] = a':=⟨((g.args.drop 1)[j]).toNat,by omega⟩
     rw [ha'] at hor ha1
     conv=>whnf
     refine aidx hjlt ?_
     rw [ha']
     conv=>whnf
     refine ⟨by omega,?_⟩
     rw [shl_one (by omega)]
     have hpa : 2 ^ a' < 2 ^ 24:=Nat.pow_lt_pow_right (by omega) (by omega)
     conv=>whnf
     rw [or_nat (by omega) (by omega)]
     conv=>whnf
     have : (g.args.drop 1).length ≤ g.args.length:=by simp
     have hal : g.args.length ≤ 9223372036854775807:=by rw [← hg0]; exact Gate.okArgs (Dyn.okGates hok.1 _ (List.getElem_mem hlt))
     refine zA ?_;conv=>whnf
     refine ⟨j + 1,?_,?_,?_⟩
     ·exact hjlt
     ·rw [hor]; (repeat' first|exact rfl|exact trivial|exact wR|exact lR _|apply aI)
     ·omega
    ·have hjlt : j = (g.args.drop 1).length:=by simp only [List.length_map] at h; omega
     subst hjlt
     rw [List.take_length]
     conv=>whnf
     refine zA ?_;conv=>whnf
     refine ⟨i + 1,?_,?_,?_⟩
     ·exact hlt
     ·refine ⟨?_,.mk ?_ ?_⟩
      ·rw [hst]; (repeat' first|exact rfl|exact trivial|exact wR|exact lR _|apply aI)
      ·all_goals exact wk
      ·exact ⟨by simp,by simp,trivial⟩
     ·omega
   ·have hst1 : strike1 o2 y g = y:=by unfold strike1; rw [if_neg (by rw [h]; simp)]
    rw [hst1] at hst
    conv=>whnf
    refine zA ?_;conv=>whnf
    refine ⟨i + 1,?_,?_,?_⟩
    ·exact hlt
    ·refine ⟨?_,.mk ?_ ?_⟩
     ·rw [hst]; (repeat' first|exact rfl|exact trivial|exact wR|exact lR _|apply aI)
     ·all_goals exact wk
     ·exact ⟨by simp,by simp,trivial⟩
    ·omega
  ·have hst1 : strike1 o2 y g = y:=by unfold strike1; rw [if_neg (by simp [h])]
   rw [hst1] at hst
   conv=>whnf
   refine zA ?_;conv=>whnf
   refine ⟨i + 1,?_,?_,?_⟩
   ·exact hlt
   ·refine ⟨?_,.mk ?_ ?_⟩
    ·rw [hst]; (repeat' first|exact rfl|exact trivial|exact wR|exact lR _|apply aI)
    ·all_goals exact wk
    ·exact ⟨by simp,by simp,trivial⟩
   ·omega
 ·have hlt : i = d.gates.length:=by omega
  subst hlt
  rw [List.take_length]
  have hst : d.gates.foldl (strike1 o2) x = strike d o2 x:=rfl
  rw [hst]
  have hlt2:=strike_lt hd (v:=o2) hx
  have hle2 : x ≤ strike d o2 x:=strike_le _ _ _
  conv=>whnf
  refine And.intro (fun h=>?_) (fun h=>?_)
  ·have h : strike d o2 x = x:=by omega
   rw [if_pos h] at hs
   conv=>whnf
   refine fM ?_;(conv=>whnf);refine ⟨?_,rfl⟩;conv=>whnf
   rw [← hs]
   all_goals exact wk
  ·have h : strike d o2 x ≠ x:=by omega
   rw [if_neg h] at hs
   conv=>whnf
   refine ⟨strike d o2 x,?_,?_,?_⟩
   ·exact ⟨hlt2,hs⟩
   ·all_goals exact wk
   ·omega

theorem idxP_nonneg {α : Type} (p : α → Bool) (l : List α) : (0 ≤ idxP p l) ↔ l.any p = true:=by
 rcases idxP_cases p l with ⟨h1,h2⟩ | ⟨i,h,h1,h2,h3⟩
 ·rw [h1]
  constructor
  ·intro h; omega
  ·intro h
   obtain ⟨x,hx,hp⟩:=List.any_eq_true.1 h
   rw [h2 x hx] at hp; cases hp
 ·rw [h1]
  exact ⟨fun _=>List.any_eq_true.2 ⟨_,List.getElem_mem h,h2⟩,fun _=>by omega⟩

theorem c_indexInt (l : List Int) (x : Int) : FnH Tryz.prog 249 [iL l,.int .i64 x] [] (.int .i64 (idxP (fun y=>decide (x = y)) l)) []:=by
 refine FnH.intro lay mixed Tryz.func249 (by kernel_rfl) rfl (by kernel_rfl) rfl fun hok=>?_
 have hl : l.length ≤ 9223372036854775807:=by simpa [OkL,Ok,maxL] using hok.1.1
 conv=>whnf
 refine LoopE.of <| LoopSpec.inv (.refl _ _) (fun (i : Nat)=>i ≤ l.length ∧ ∀ (j : Nat) (hj : j < l.length),j < i → (fun y=>decide (x = y)) l[j] = false) (fun (i : Nat)=>[(8,.int .i64 i)]) (fun _=>_) (fun (i : Nat)=>l.length - i) 0 ?_ (fun _=>rfl) ?_ ?_
 ·exact ⟨Nat.zero_le _,by omega⟩
 ·all_goals exact wk
 rintro i ⟨hi,hn⟩ _
 conv=>whnf
 refine And.intro (fun h=>?_) (fun h=>?_)
 ·have hlt : i < l.length:=by simpa using h
  conv=>whnf
  refine aidx hlt ?_
  conv=>whnf
  refine And.intro (fun h=>?_) (fun h=>?_)
  ·conv=>whnf
   refine fM ?_;(conv=>whnf);refine ⟨?_,rfl⟩;conv=>whnf
   exact ⟨rfl,(idxP_some hlt (by simpa using h) fun j hj=>hn j (by omega) hj).symm⟩
  ·conv=>whnf
   refine zA ?_;conv=>whnf
   refine ⟨i + 1,?_,?_,?_⟩
   ·refine ⟨hlt,fun j hj hji=>?_⟩
    by_cases hji' : j = i
    ·subst hji'; simpa using h
    ·exact hn j hj (by omega)
   ·all_goals exact wk
   ·omega
 ·have hlt : i = l.length:=by have : ¬ i < l.length:=by simpa using h
                              omega
  subst hlt
  conv=>whnf
  refine fM ?_;(conv=>whnf);refine ⟨?_,rfl⟩;conv=>whnf
  exact ⟨rfl,(idxP_none fun j hj=>hn j hj hj).symm⟩

theorem c_containsInt (l : List Int) (x : Int) : FnH Tryz.prog 184 [iL l,.int .i64 x] [] (.bool (l.any fun y=>decide (x = y))) []:=by
 refine FnH.intro lay mixed Tryz.func184 (by kernel_rfl) rfl (by kernel_rfl) rfl fun hok=>?_
 conv=>whnf
 refine .pure _ _ ?_ ⟨rfl,rfl⟩ (c_indexInt l x) fun _=>?_
 ·all_goals exact wk
 conv=>whnf
 refine fM ?_;(conv=>whnf);refine ⟨?_,rfl⟩;conv=>whnf
 exact idxP_nonneg _ l

theorem c_indexFuncGate (l : List Gate) (g : Nat) (cap : List AV) (p : Gate → Bool) (H : Heap) (hg : ∀ x ∈ l,FnH Tryz.prog g (x.av :: cap) H (.bool (p x)) H) :
  FnH Tryz.prog 289 [.sl 6 (l.map Gate.av) .no,.fn g cap] H (.int .i64 (idxP p l)) H:=by
 refine FnH.intro lay mixed Tryz.func289 (by kernel_rfl) rfl (by kernel_rfl) rfl fun hok=>?_
 have hl : l.length ≤ 9223372036854775807:=by have:=hok.1.1; simpa [maxL] using this
 conv=>whnf
 refine LoopE.of <| LoopSpec.inv (.refl _ _) (fun (i : Nat)=>i ≤ l.length ∧ ∀ (j : Nat) (hj : j < l.length),j < i → p l[j] = false) (fun (i : Nat)=>[(8,.int .i64 i)]) (fun _=>_) (fun (i : Nat)=>l.length - i) 0 ?_ (fun _=>rfl) ?_ ?_
 ·exact ⟨Nat.zero_le _,by omega⟩
 ·all_goals exact wk
 rintro i ⟨hi,hn⟩ _
 conv=>whnf
 refine And.intro (fun h=>?_) (fun h=>?_)
 ·have hlt : i < l.length:=by simpa using h
  conv=>whnf
  refine aidx hlt ?_
  conv=>whnf
  refine .gen _ _ (hg _ (List.getElem_mem hlt)) fun _=>?_
  conv=>whnf
  refine And.intro (fun h=>?_) (fun h=>?_)
  ·conv=>whnf
   (refine FinSpec.same ?_;(conv=>whnf);refine ⟨?_,rfl⟩;(conv=>whnf))
   exact ⟨rfl,(idxP_some hlt h fun j hj=>hn j (by omega) hj).symm⟩
  ·conv=>whnf
   refine zA ?_;conv=>whnf
   refine ⟨i + 1,?_,?_,?_⟩
   ·refine ⟨hlt,fun j hj hji=>?_⟩
    by_cases hji' : j = i
    ·subst hji'; exact h
    ·exact hn j hj (by omega)
   ·all_goals exact wk
   ·omega
 ·have hlt : i = l.length:=by have : ¬ i < l.length:=by simpa using h
                              omega
  subst hlt
  conv=>whnf
  (refine FinSpec.same ?_;(conv=>whnf);refine ⟨?_,rfl⟩;(conv=>whnf))
  exact ⟨rfl,(idxP_none fun j hj=>hn j hj hj).symm⟩

theorem c_containsFuncGate (l : List Gate) (g : Nat) (cap : List AV) (p : Gate → Bool) (H : Heap) (hg : ∀ x ∈ l,FnH Tryz.prog g (x.av :: cap) H (.bool (p x)) H) :
  FnH Tryz.prog 268 [.sl 6 (l.map Gate.av) .no,.fn g cap] H (.bool (l.any p)) H:=by
 refine FnH.intro lay mixed Tryz.func268 (by kernel_rfl) rfl (by kernel_rfl) rfl fun hok=>?_
 conv=>whnf
 refine .gen _ _ (c_indexFuncGate l g cap p H hg) fun _=>?_
 conv=>whnf
 (refine FinSpec.same ?_;(conv=>whnf);refine ⟨?_,rfl⟩;(conv=>whnf))
 exact idxP_nonneg _ l

def holds (v : List Bool) (i : Int) (g : Gate) : Bool :=
 decide (g.kind = 8) && v.getD (g.args.getD 0 0).toNat false && (g.args.drop 1).any fun y=>decide (i = y)

theorem c_held1 (v : List Bool) (i : Int) (g : Gate) (s : St) (d : Dyn) (h8 : g.kind = 8 → g.args ≠ []) (ha : ∀ a ∈ g.args,0 ≤ a ∧ a < (v.length : Int)) :
  FnH Tryz.prog 269 [g.av,.ptr 3 [] 0,.ptr 2 [] 0] [(3,.box (bL v)),(2,.box (.int .i64 i)),(1,.box s.av),(0,.box d.av)] (.bool (holds v i g)) [(3,.box (bL v)),(2,.box (.int .i64 i)),(1,.box s.av),(0,.box d.av)]:=by
 refine FnH.intro lay mixed Tryz.func269 (by kernel_rfl) rfl (by kernel_rfl) rfl fun hok=>?_
 conv=>whnf
 refine ADraw.auto (by kernel_rfl) ?_;conv=>whnf
 have back : ∀ C : HO,HWk [(4,C),(3,.box (bL v)),(2,.box (.int .i64 i)),(1,.box s.av),(0,.box d.av)] [(3,.box (bL v)),(2,.box (.int .i64 i)),(1,.box s.av),(0,.box d.av)]:=by
  intro C
  refine .mk ?_ ?_
  ·all_goals exact wk
  ·exact ⟨by simp,by simp,by simp,by simp,trivial⟩
 refine And.intro (fun h=>?_) (fun h=>?_)
 ·have hlen0 : 0 < g.args.length:=List.length_pos_iff.2 (h8 h)
  have ha':=ha _ (getD_mem (d:=0) hlen0)
  conv=>whnf
  refine aidx0 0 hlen0 ?_
  conv=>whnf
  refine aidxD false ha' ?_
  conv=>whnf
  refine And.intro (fun h=>?_) (fun h=>?_)
  ·conv=>whnf
   refine ⟨⟨by omega,by simp; omega,by simp⟩,?_⟩
   have hcut : ((g.args.map (AV.int .i64)).drop (1 : Int).toNat).take (((g.args.map (AV.int .i64)).length : Int).toNat - (1 : Int).toNat) = (g.args.drop 1).map (AV.int .i64):=by
    rw [List.take_of_length_le (by simp),← List.map_drop]; rfl
   rw [hcut]
   conv=>whnf
   refine ACallP.pure _ _ ?_ ⟨rfl,rfl⟩ (c_containsInt (g.args.drop 1) i) ?_
   ·all_goals exact wk
   conv=>whnf
   refine ⟨⟨_,_,.refl _ _,?_⟩⟩
   conv=>whnf
   refine ⟨?_,rfl,by simp [nextId],back _⟩
   simp_all [holds]
   rfl
  ·conv=>whnf
   refine ⟨⟨_,_,.refl _ _,?_⟩⟩
   conv=>whnf
   refine ⟨?_,rfl,by simp [nextId],back _⟩
   simp_all [holds]
   rfl
 ·conv=>whnf
  refine ⟨⟨_,_,.refl _ _,?_⟩⟩
  conv=>whnf
  refine ⟨?_,rfl,by simp [nextId],back _⟩
  simp_all [holds]
  rfl
def vstep (n : Nat) (memo : List Int) (v : List Bool) (g : Gate) : List Bool:=v ++ [gval g v (memo.getD (v.length - n) 0)]

def valuesR (d : Dyn) (f : Nat) (memo : List Int) : List Bool:=d.gates.foldl (vstep d.vars.toNat memo) (evs d.vars.toNat f)

theorem vstep_len (n : Nat) (memo : List Int) : ∀ (l : List Gate) (v : List Bool),(l.foldl (vstep n memo) v).length = v.length + l.length
 | [],v=>by simp
 | g :: l,v=>by
   have:=vstep_len n memo l (vstep n memo v g)
   simp only [List.foldl_cons,List.length_cons]
   simp only [vstep,List.length_append,List.length_singleton] at this ⊢
   omega

theorem valuesR_len {d : Dyn} {f : Nat} {memo : List Int} : (valuesR d f memo).length = d.vars.toNat + d.gates.length:=by
 unfold valuesR; rw [vstep_len,evs_len]

theorem c_values (d : Dyn) (f : Nat) (memo : List Int) (hf : f < 2 ^ 63) (hd : TreeOk d) (ho : memo.length = d.gates.length) :
  FnH Tryz.prog 123 [d.av,St.av ⟨f,memo⟩] [] (bL (valuesR d f memo)) []:=by
 have hv:=hd.vars
 have hg:=hd.gates
 refine FnH.intro lay mixed Tryz.func123 (by kernel_rfl) rfl (by kernel_rfl) rfl fun hok=>?_
 conv=>whnf
 refine .gen _ _ (FnH.frame [] (c_events d f hf (by omega)) ⟨rfl,rfl,rfl,rfl⟩ trivial (leL_refl _)) fun _=>?_
 conv=>whnf
 have hl : (d.gates.map Gate.av).length = d.gates.length:=by simp
 refine LoopE.of <| LoopSpec.inv (.refl _ _) (fun i : Nat=>i ≤ d.gates.length)
  (fun i=>[(15,.int .i64 i),(5,.sl 1 (((d.gates.take i).foldl (vstep d.vars.toNat memo) (evs d.vars.toNat f)).map .bool) (.own 4))])
  (fun i=>[(4,.tok 1 (d.vars.toNat + i)),(1,.box (St.av ⟨f,memo⟩)),(0,.box d.av)]) (fun i=>d.gates.length - i) 0 ?_ (fun _=>rfl) ?_ ?_
 ·exact Nat.zero_le _
 ·refine ⟨by (repeat' first|exact rfl|exact trivial|exact wR|exact lR _|apply aI),.mk ?_ ?_⟩
  ·all_goals exact wk
  ·exact ⟨by simp,by simp,by simp,trivial⟩
 intro i hi _
 conv=>whnf
 refine And.intro (fun h=>?_) (fun h=>?_)
 ·have hlt : i < d.gates.length:=by omega
  have hs:=foldl_take (f:=vstep d.vars.toNat memo) (s:=evs d.vars.toNat f) hlt
  have hlen:=vstep_len d.vars.toNat memo (d.gates.take i) (evs d.vars.toNat f)
  rw [List.length_take,evs_len,Nat.min_eq_left hi] at hlen
  have ha:=hd.args i hlt
  have h2:=hd.two i hlt
  generalize hg0 : d.gates[i] = g at *
  generalize hs0 : (d.gates.take i).foldl (vstep d.vars.toNat memo) (evs d.vars.toNat f) = v at *
  have ha2 : ∀ a ∈ g.args,0 ≤ a ∧ a < (v.length : Int):=fun a h=>by have:=ha a h; omega
  have h8 : g.kind = 8 → g.args ≠ []:=fun hk e=>by have:=h2 hk; rw [e] at this; simp at this
  have hx : (i : Int) < (memo.length : Int):=by rw [ho]; omega
  rw [vstep,hlen,Nat.add_sub_cancel_left] at hs
  conv=>whnf
  refine aidx hlt ?_
  rw [hg0]
  conv=>whnf
  refine ADraw.auto (by kernel_rfl) ?_;conv=>whnf
  refine aidxD 0 ⟨by omega,hx⟩ ?_
  conv=>whnf
  refine ACallP.pure _ _ ?_ ⟨rfl,rfl⟩ (c_value g v (memo.getD i 0) ha2 h8) ?_
  ·all_goals exact wk
  conv=>whnf
  refine ⟨by simp; omega,?_⟩
  (refine ⟨by simp [maxL] <;> omega,by simp <;> omega,?_⟩;(conv=>whnf))
  refine zA ?_;conv=>whnf
  refine ⟨i + 1,?_,?_,?_⟩
  ·exact hlt
  ·rw [hs]
   refine ⟨?_,.mk ?_ ?_⟩
   ·repeat' first|exact rfl|exact trivial|exact wR|exact lR _|apply aI
    refine leRL_of ?_
    simp [strip]
   ·repeat' first|exact rfl|exact trivial|exact wR|exact lR _|apply aI
    simp; omega
   ·exact ⟨by simp,by simp,by simp,trivial⟩
  ·omega
 ·have hlt : i = d.gates.length:=by omega
  subst hlt
  rw [List.take_length]
  conv=>whnf
  refine fM ?_;(conv=>whnf);refine ⟨?_,rfl⟩;conv=>whnf
  all_goals exact wk

def heldR (d : Dyn) (v : List Bool) (i : Int) : Bool:=d.gates.any (holds v i)

theorem c_held (d : Dyn) (f : Nat) (memo : List Int) (i : Int) (hf : f < 2 ^ 63) (hd : TreeOk d) (ho : memo.length = d.gates.length) :
  FnH Tryz.prog 221 [d.av,St.av ⟨f,memo⟩,.int .i64 i] [] (.bool (heldR d (valuesR d f memo) i)) []:=by
 have hg:=hd.gates
 refine FnH.intro lay mixed Tryz.func221 (by kernel_rfl) rfl (by kernel_rfl) rfl fun hok=>?_
 conv=>whnf
 refine .pure _ _ ?_ ⟨rfl,rfl⟩ (c_values d f memo hf hd ho) fun _=>?_
 ·all_goals exact wk
 conv=>whnf
 refine .gen _ _ (c_containsFuncGate d.gates 269 [.ptr 3 [] 0,.ptr 2 [] 0] (holds (valuesR d f memo) i) _ fun g hg=>c_held1 (valuesR d f memo) i g ⟨f,memo⟩ d ?_ ?_) fun _=>?_
 ·intro hk e
  obtain ⟨j,hj,rfl⟩:=List.getElem_of_mem hg
  have:=hd.two j hj hk
  rw [e] at this; simp at this
 ·intro a ha
  obtain ⟨j,hj,rfl⟩:=List.getElem_of_mem hg
  have:=hd.args j hj a ha
  rw [valuesR_len]
  have:=hd.vars
  omega
 conv=>whnf
 refine fM ?_;(conv=>whnf);refine ⟨?_,rfl⟩;conv=>whnf
 rfl

def val : List Int → Nat
 | []=>0
 | x :: l=>x.toNat + 4294967296 * val l

def Ws (l : List Int) : Prop:=∀ x ∈ l,0 ≤ x ∧ x < 4294967296

def wd (n : Nat) : List Int:=if h : n = 0 then [] else ((n % 4294967296 : Nat) : Int) :: wd (n / 4294967296)
termination_by n
decreasing_by exact Nat.div_lt_self (by omega) (by omega)

theorem wd_zero : wd 0 = []:=by rw [wd]; simp
theorem wd_pos {n : Nat} (h : n ≠ 0) : wd n = ((n % 4294967296 : Nat) : Int) :: wd (n / 4294967296):=by rw [wd]; simp [h]

theorem Ws.nil : Ws []:=by intro x hx; simp at hx
theorem Ws.cons {x : Int} {l : List Int} (hx : 0 ≤ x ∧ x < 4294967296) (hl : Ws l) : Ws (x :: l):=by
 intro y hy
 rcases List.mem_cons.1 hy with rfl | hy
 ·exact hx
 ·exact hl y hy
theorem Ws.tail {x : Int} {l : List Int} (h : Ws (x :: l)) : Ws l:=fun y hy=>h y (by simp [hy])
theorem Ws.head {x : Int} {l : List Int} (h : Ws (x :: l)) : 0 ≤ x ∧ x < 4294967296:=h x (by simp)
theorem Ws.append {l m : List Int} (h : Ws l) (g : Ws m) : Ws (l ++ m):=by
 intro x hx
 rcases List.mem_append.1 hx with hx | hx
 ·exact h x hx
 ·exact g x hx
theorem Ws.take {l : List Int} (h : Ws l) (n : Nat) : Ws (l.take n):=fun x hx=>h x (List.mem_of_mem_take hx)
theorem Ws.drop {l : List Int} (h : Ws l) (n : Nat) : Ws (l.drop n):=fun x hx=>h x (List.mem_of_mem_drop hx)
theorem Ws.get {l : List Int} (h : Ws l) {i : Nat} (hi : i < l.length) : 0 ≤ l[i] ∧ l[i] < 4294967296:=h _ (List.getElem_mem hi)
theorem Ws.getD {l : List Int} (h : Ws l) {i : Nat} : 0 ≤ l.getD i 0 ∧ l.getD i 0 < 4294967296:=by
 rw [List.getD_eq_getElem?_getD]
 cases hi : l[i]? with
 | none=>exact ⟨Int.le_refl _,by show (0 : Int) < _; omega⟩
 | some x=>exact h x (List.mem_of_getElem? hi)
theorem Ws.ok {l : List Int} (h : OkL (l.map (AV.int .u32))) : Ws l:=by
 intro x hx
 have:=OkL_map h x hx
 simp [Ok,InR,IntKind.min,IntKind.max,IntKind.signed,IntKind.bits] at this
 omega

theorem wd_Ws (n : Nat) : Ws (wd n):=by
 induction n using Nat.strongRecOn with
 | _ n ih =>
   by_cases h : n = 0
   ·subst h; rw [wd_zero]; exact Ws.nil
   ·rw [wd_pos h]
    exact Ws.cons (by omega) (ih _ (Nat.div_lt_self (by omega) (by omega)))

theorem val_wd (n : Nat) : val (wd n) = n:=by
 induction n using Nat.strongRecOn with
 | _ n ih =>
   by_cases h : n = 0
   ·subst h; rw [wd_zero]; rfl
   ·rw [wd_pos h,val,ih _ (Nat.div_lt_self (by omega) (by omega))]
    omega

theorem val_append : ∀ (l m : List Int),val (l ++ m) = val l + 4294967296 ^ l.length * val m
 | [],m=>by simp [val]
 | x :: l,m=>by
   simp only [List.cons_append,val,val_append l m,List.length_cons,Nat.pow_succ]
   rw [Nat.mul_add,← Nat.mul_assoc,Nat.mul_comm 4294967296 (4294967296 ^ l.length)]; omega

theorem val_lt : ∀ {l : List Int},Ws l → val l < 4294967296 ^ l.length
 | [],_=>by simp [val]
 | x :: l,h=>by
   have:=val_lt h.tail
   have hx:=h.head
   simp only [val,List.length_cons,Nat.pow_succ]
   have : 4294967296 * (val l + 1) ≤ 4294967296 * 4294967296 ^ l.length:=Nat.mul_le_mul_left _ (by omega)
   rw [Nat.mul_comm (4294967296 ^ l.length)]
   omega

def Pl (l : List Int) : Prop:=l = [] ∨ l.getLastD 0 ≠ 0

theorem wd_val : ∀ {l : List Int},Ws l → Pl l → wd (val l) = l
 | [],_,_=>by rw [val,wd_zero]
 | [x],h,hp=>by
   have hx:=h.head
   have h0 : x ≠ 0:=by
    rcases hp with hp | hp
    ·cases hp
    ·simpa using hp
   simp only [val]
   rw [wd_pos (by omega)]
   have e1 : (x.toNat + 4294967296 * 0) % 4294967296 = x.toNat:=by omega
   have e2 : (x.toNat + 4294967296 * 0) / 4294967296 = 0:=by omega
   rw [e1,e2,wd_zero]
   simp; omega
 | x :: y :: l,h,hp=>by
   have hx:=h.head
   have hp' : Pl (y :: l):=by
    rcases hp with hp | hp
    ·cases hp
    ·exact .inr (by simpa using hp)
   have ih:=wd_val h.tail hp'
   have hv : val (y :: l) ≠ 0:=by
    intro e
    rw [e,wd_zero] at ih; cases ih
   rw [val]
   generalize val (y :: l) = n at *
   rw [wd_pos (by omega)]
   have e1 : (x.toNat + 4294967296 * n) % 4294967296 = x.toNat:=by omega
   have e2 : (x.toNat + 4294967296 * n) / 4294967296 = n:=by omega
   rw [e1,e2,ih]
   congr 1
   omega

theorem wd_Pl (n : Nat) : Pl (wd n):=by
 induction n using Nat.strongRecOn with
 | _ n ih =>
   by_cases h : n = 0
   ·subst h; rw [wd_zero]; exact .inl rfl
   ·rw [wd_pos h]
    refine .inr ?_
    by_cases h2 : n / 4294967296 = 0
    ·rw [h2,wd_zero]
     show ((n % 4294967296 : Nat) : Int) ≠ 0
     omega
    ·have:=ih (n / 4294967296) (Nat.div_lt_self (by omega) (by omega))
     rcases this with hn | hn
     ·rw [wd_pos h2] at hn; cases hn
     ·rw [wd_pos h2] at hn ⊢
      simpa using hn

theorem val_zeros : ∀ {l : List Int},(∀ x ∈ l,x = 0) → val l = 0
 | [],_=>rfl
 | x :: l,h=>by
   have h1:=h x (by simp)
   have h2:=val_zeros (l:=l) fun y hy=>h y (by simp [hy])
   simp [val,h1,h2]

theorem trim_eq {l : List Int} (hl : Ws l) {n : Nat} (hn : n ≤ l.length) (hz : ∀ k,n ≤ k → l.getD k 0 = 0) (hp : n = 0 ∨ l.getD (n - 1) 0 ≠ 0) : l.take n = wd (val l):=by
 have h1 : val l = val (l.take n):=by
  conv=>lhs; rw [← List.take_append_drop n l]
  rw [val_append,val_zeros (l:=l.drop n),Nat.mul_zero,Nat.add_zero]
  intro x hx
  obtain ⟨k,hk,rfl⟩:=List.getElem_of_mem hx
  have:=hz (n + k) (by omega)
  simp only [List.length_drop] at hk
  rw [List.getD_eq_getElem?_getD,List.getElem?_eq_getElem (by omega)] at this
  simpa [List.getElem_drop] using this
 rw [h1]
 refine (wd_val (hl.take n) ?_).symm
 rcases hp with rfl | hp
 ·exact .inl (by simp)
 ·by_cases h0 : n = 0
  ·subst h0; exact .inl (by simp)
  ·refine .inr ?_
   rw [List.getLastD_eq_getLast?,List.getLast?_eq_getElem?]
   have e : (l.take n).length = n:=by simp; omega
   rw [e,List.getElem?_take,if_pos (by omega)]
   rw [List.getD_eq_getElem?_getD] at hp
   exact hp

theorem wd_len_le {l : List Int} (hl : Ws l) : (wd (val l)).length ≤ l.length:=by
 -- by the greatest place that is not 0
 have : ∀ n,n ≤ l.length → (∀ k,n ≤ k → l.getD k 0 = 0) → ∃ m,m ≤ n ∧ (∀ k,m ≤ k → l.getD k 0 = 0) ∧ (m = 0 ∨ l.getD (m - 1) 0 ≠ 0):=by
  intro n
  induction n with
  | zero=>intro _ h; exact ⟨0,Nat.le_refl _,h,.inl rfl⟩
  | succ n ih =>
    intro hn h
    by_cases h0 : l.getD n 0 = 0
    ·obtain ⟨m,h1,h2,h3⟩:=ih (by omega) fun k hk=>by
      by_cases hkn : k = n
      ·subst hkn; exact h0
      ·exact h k (by omega)
     exact ⟨m,by omega,h2,h3⟩
    ·exact ⟨n + 1,Nat.le_refl _,h,.inr (by simpa using h0)⟩
 obtain ⟨m,h1,h2,h3⟩:=this l.length (Nat.le_refl _) fun k hk=>by
  rw [List.getD_eq_getElem?_getD,List.getElem?_eq_none hk]; rfl
 rw [← trim_eq hl h1 h2 h3,List.length_take]
 omega

theorem val_take_drop {l : List Int} (n : Nat) (h : n ≤ l.length) : val l = val (l.take n) + 4294967296 ^ n * val (l.drop n):=by
 conv=>lhs; rw [← List.take_append_drop n l]
 rw [val_append]
 congr 3
 simp; omega

theorem val_pos_of_len {l : List Int} (hp : Pl l) (h : l ≠ []) (hl : Ws l) : 4294967296 ^ (l.length - 1) ≤ val l:=by
 have hlen : 0 < l.length:=List.length_pos_iff.2 h
 rw [val_take_drop (l.length - 1) (by omega)]
 rcases hp with hp | hp
 ·exact absurd hp h
 ·have hd : l.drop (l.length - 1) = [l[l.length - 1]'(by omega)]:=by
   rw [List.drop_eq_getElem_cons (by omega)]
   congr 1
   exact List.drop_eq_nil_of_le (by omega)
  rw [hd]
  have h1 : l[l.length - 1]'(by omega) ≠ 0:=by
   rw [List.getLastD_eq_getLast?,List.getLast?_eq_getElem?,List.getElem?_eq_getElem (by omega)] at hp
   exact hp
  have h2:=hl.get (i:=l.length - 1) (by omega)
  simp only [val]
  have : 4294967296 ^ (l.length - 1) * 1 ≤ 4294967296 ^ (l.length - 1) * ((l[l.length - 1]'(by omega)).toNat + 4294967296 * 0):=Nat.mul_le_mul_left _ (by omega)
  omega


def argsR (kind n : Int) : Bool :=
 if kind = 3 then decide (n = 1) else if kind = 5 then decide (n = 2)
 else if kind = 6 ∨ kind = 7 ∨ kind = 8 then decide (2 ≤ n ∧ n ≤ 16) else decide (1 ≤ n ∧ n ≤ 16)

theorem c_arguments (kind n : Int) : FnH Tryz.prog 183 [.int .i64 kind,.int .i64 n] [] (.bool (argsR kind n)) []:=by
 refine FnH.intro lay mixed Tryz.func183 (by kernel_rfl) rfl (by kernel_rfl) rfl fun hok=>?_
 conv=>whnf
 (repeat' (first|(refine aI (fun _=>?_) (fun _=>?_)<;>(conv=>whnf))|(refine ADraw.auto (by kernel_rfl) ?_;(conv=>whnf))|(refine fM ?_;(conv=>whnf);refine ⟨?_,rfl⟩;(conv=>whnf))|(refine aI (inr64 (by omega) (by omega)) ?_;(conv=>whnf))|(refine aI (by decide) ?_;(conv=>whnf))))
 all_goals first | (simp_all [argsR]; done) | (simp_all [argsR]; omega)

def zeroR (r : Rat) : Bool:=!r.neg && decide (r.num.length = 0) && decide (r.den.length = 0)

theorem c_zero (r : Rat) : FnH Tryz.prog 185 [r.av] [] (.bool (zeroR r)) []:=by
 refine FnH.intro lay mixed Tryz.func185 (by kernel_rfl) rfl (by kernel_rfl) rfl fun hok=>?_
 conv=>whnf
 refine And.intro (fun h=>?_) (fun h=>?_)
 all_goals
  conv=>whnf
  (repeat' (first|(refine aI (fun _=>?_) (fun _=>?_)<;>(conv=>whnf))|(refine ADraw.auto (by kernel_rfl) ?_;(conv=>whnf))|(refine fM ?_;(conv=>whnf);refine ⟨?_,rfl⟩;(conv=>whnf))|(refine aI (inr64 (by omega) (by omega)) ?_;(conv=>whnf))|(refine aI (by decide) ?_;(conv=>whnf))))
 all_goals (simp_all [zeroR]; done)
def plainR (l : List Int) : Bool:=decide (l ≠ []) && decide (l.getLastD 0 ≠ 0)

def valid (r : Rat) : Bool :=
 if r.num = [] ∧ r.den = [] then !r.neg else plainR r.num && plainR r.den && decide (Nat.gcd (val r.num) (val r.den) = 1)

def sign (r : Rat) : Int:=if valid r = true ∧ r.num ≠ [] then (if r.neg then -1 else 1) else 0

def prob (r : Rat) : Bool:=valid r && !r.neg && decide (val r.num ≤ val r.den)

structure RatC (r : Rat) : Prop where
 v : FnH Tryz.prog 95 [r.av] [] (.bool (valid r)) []
 s : FnH Tryz.prog 96 [r.av] [] (.int .i64 (sign r)) []
 p : FnH Tryz.prog 143 [r.av] [] (.bool (prob r)) []

def twice : List Int → List Int → Bool
 | _,[]=>false
 | sp,a :: l=>(sp.any fun y=>decide (a = y)) || twice (sp ++ [a]) l

def gateErr (d : Dyn) (i : Nat) (g : Gate) (sp : List Int) : Int :=
 if g.kind < 0 then 7 else if 8 < g.kind then 7
 else if argsR g.kind g.args.length = false then 11
 else if (g.args.any fun a=>decide (a < 0) || decide (d.vars + i ≤ a)) = true then 10
 else if (g.kind = 7 ∧ (g.args.any fun a=>decide (d.vars ≤ a)) = true) ∨ (g.kind = 8 ∧ ((g.args.drop 1).any fun a=>decide (d.vars ≤ a)) = true) then 7
 else if g.kind = 7 ∧ twice sp g.args = true then 6
 else if g.kind = 2 ∧ (g.k < 1 ∨ (g.args.length : Int) < g.k) then 3
 else if g.kind ≠ 2 ∧ g.k ≠ 0 then 2
 else if g.kind = 7 ∧ prob g.dorm = false then 3
 else if g.kind ≠ 7 ∧ zeroR g.dorm = false then 2
 else 0

def spAfter (g : Gate) (sp : List Int) : List Int:=if g.kind = 7 then sp ++ g.args else sp

theorem any_take {α : Type} {p : α → Bool} {l : List α} {i : Nat} (h : i < l.length) : (l.take (i + 1)).any p = ((l.take i).any p || p l[i]):=by
 rw [List.take_add_one,List.getElem?_eq_getElem h,List.any_append]; simp

theorem c_checkGate (d : Dyn) (i : Nat) (sp : List Int) (hi : i < d.gates.length) (hv : 0 ≤ d.vars ∧ d.vars ≤ 24) (hg : d.gates.length ≤ 64) (hsp : sp.length ≤ 100000) (hr : RatC (d.gates[i]).dorm) (R : AV) (G : Heap)
  (hR : R = if gateErr d i d.gates[i] sp = 0 then .tup [.sl 1 ((spAfter d.gates[i] sp).map (.int .i64)) (.own 0),.nilI] else .tup [.nils,.ifc 111 (.int .i64 (gateErr d i d.gates[i] sp))])
  (hG : G = if gateErr d i d.gates[i] sp = 0 then [(0,.tok 1 (spAfter d.gates[i] sp).length)] else [(0,.gone)]) :
  FnH Tryz.prog 97 [d.av,.int .i64 i,.sl 1 (sp.map (.int .i64)) (.own 0)] [(0,.tok 1 sp.length)] R G:=by
 refine FnH.intro lay mixed Tryz.func97 (by kernel_rfl) rfl (by kernel_rfl) rfl fun hok=>?_
 have hal : (d.gates[i]).args.length ≤ 9223372036854775807:=Gate.okArgs (Dyn.okGates hok.1 _ (List.getElem_mem hi))
 conv=>whnf
 refine aidx hi ?_
 generalize d.gates[i] = g at *
 have err : ∀ e : Int,gateErr d i g sp = e → e ≠ 0 → R = .tup [.nils,.ifc 111 (.int .i64 e)] ∧ G = [(0,.gone)]:=by
  intro e he h0
  rw [hR,hG,he,if_neg h0,if_neg h0]; exact ⟨rfl,rfl⟩
 conv=>whnf
 refine And.intro (fun n1=>?_) (fun n1=>?_)
 ·obtain ⟨rfl,rfl⟩:=err 7 (by unfold gateErr; rw [if_pos n1]) (by decide)
  conv=>whnf
  refine ⟨⟨_,_,.refl _ _,?_⟩⟩
  conv=>whnf
  refine ⟨le_refl _,rfl,by simp [nextId],.mk ?_ ⟨by simp,trivial⟩⟩
  all_goals exact wk
 conv=>whnf
 refine And.intro (fun n2=>?_) (fun n2=>?_)
 ·obtain ⟨rfl,rfl⟩:=err 7 (by unfold gateErr; rw [if_neg n1,if_pos n2]) (by decide)
  conv=>whnf
  refine ⟨⟨_,_,.refl _ _,?_⟩⟩
  conv=>whnf
  refine ⟨le_refl _,rfl,by simp [nextId],.mk ?_ ⟨by simp,trivial⟩⟩
  all_goals exact wk
 conv=>whnf
 refine .pure _ _ ?_ ⟨rfl,rfl⟩ (c_arguments g.kind g.args.length) fun _=>?_
 ·repeat' first|exact rfl|exact trivial|exact wR|exact lR _|apply aI
  simp
 conv=>whnf
 refine And.intro (fun n3=>?_) (fun n3=>?_)
 ·have n3 : argsR g.kind g.args.length = false:=by simpa using n3
  obtain ⟨rfl,rfl⟩:=err 11 (by unfold gateErr; rw [if_neg n1,if_neg n2,if_pos n3]) (by decide)
  conv=>whnf
  refine ⟨⟨_,_,.refl _ _,?_⟩⟩
  conv=>whnf
  refine ⟨le_refl _,rfl,by simp [nextId],.mk ?_ ⟨by simp,trivial⟩⟩
  all_goals exact wk
 have n3 : argsR g.kind g.args.length = true:=by simpa using n3
 have h16 : g.args.length ≤ 16:=by
  unfold argsR at n3
  split at n3 <;> first | (simp at n3; omega) | skip
  split at n3 <;> first | (simp at n3; omega) | skip
  split at n3 <;> (simp at n3; omega)
 have n3 : ¬ argsR g.kind g.args.length = false:=by simp [n3]
 conv=>whnf
 refine LoopE.of <| LoopSpec.inv (.refl _ _) (fun (j : Nat)=>j ≤ g.args.length ∧ ((g.args.take j).any fun a=>decide (a < 0) || decide (d.vars + i ≤ a)) = false) (fun (j : Nat)=>[(40,.int .i64 j)]) (fun _=>_) (fun (j : Nat)=>g.args.length - j) 0 ?_ (fun _=>rfl) ?_ ?_
 ·exact ⟨Nat.zero_le _,by simp⟩
 ·all_goals exact wk
 rintro j ⟨hj,hn⟩ _
 conv=>whnf
 refine And.intro (fun h=>?_) (fun h=>?_)
 ·have hlt : j < g.args.length:=by simpa using h
  have hany:=any_take (p:=fun a=>decide (a < 0) || decide (d.vars + i ≤ a)) hlt
  rw [hn,Bool.false_or] at hany
  have hmem:=List.getElem_mem hlt
  conv=>whnf
  refine aidx hlt ?_
  generalize g.args[j] = a at *
  conv=>whnf
  refine And.intro (fun m1=>?_) (fun m1=>?_)
  ·obtain ⟨rfl,rfl⟩:=err 10 (by unfold gateErr; rw [if_neg n1,if_neg n2,if_neg n3,if_pos (List.any_eq_true.2 ⟨a,hmem,by simp [m1]⟩)]) (by decide)
   conv=>whnf
   refine ⟨⟨_,_,.refl _ _,?_⟩⟩
   conv=>whnf
   refine ⟨le_refl _,rfl,by simp [nextId],.mk ?_ ⟨by simp,trivial⟩⟩
   all_goals exact wk
  conv=>whnf
  refine zA ?_;conv=>whnf
  refine And.intro (fun m2=>?_) (fun m2=>?_)
  ·obtain ⟨rfl,rfl⟩:=err 10 (by unfold gateErr; rw [if_neg n1,if_neg n2,if_neg n3,if_pos (List.any_eq_true.2 ⟨a,hmem,by simp [m2]⟩)]) (by decide)
   conv=>whnf
   refine ⟨⟨_,_,.refl _ _,?_⟩⟩
   conv=>whnf
   refine ⟨le_refl _,rfl,by simp [nextId],.mk ?_ ⟨by simp,trivial⟩⟩
   all_goals exact wk
  conv=>whnf
  refine zA ?_;conv=>whnf
  refine ⟨j + 1,?_,?_,?_⟩
  ·exact ⟨hlt,by rw [hany]; simp; omega⟩
  ·all_goals exact wk
  ·omega
 have hjl : j = g.args.length:=by have : ¬ j < g.args.length:=by simpa using h
                                  omega
 rw [hjl,List.take_length] at hn
 clear h
 subst hjl
 have n4 : ¬ (g.args.any fun a=>decide (a < 0) || decide (d.vars + i ≤ a)) = true:=by rw [hn]; simp
 conv=>whnf
 refine LoopE.of <| LoopSpec.inv (.refl _ _) (fun (j : Nat)=>j ≤ g.args.length ∧ ∀ (k : Nat) (hk : k < g.args.length),k < j → ¬ (d.vars ≤ g.args[k] ∧ (g.kind = 7 ∨ g.kind = 8 ∧ 0 < k))) (fun (j : Nat)=>[(59,.int .i64 j)]) (fun _=>_) (fun (j : Nat)=>g.args.length - j) 0 ?_ (fun _=>rfl) ?_ ?_
 ·exact ⟨Nat.zero_le _,by omega⟩
 ·all_goals exact wk
 rintro j ⟨hj,hn⟩ _
 conv=>whnf
 refine And.intro (fun h=>?_) (fun h=>?_)
 ·have hlt : j < g.args.length:=by simpa using h
  have fin : (d.vars ≤ g.args[j] ∧ (g.kind = 7 ∨ g.kind = 8 ∧ 0 < j)) → (g.kind = 7 ∧ (g.args.any fun a=>decide (d.vars ≤ a)) = true) ∨ (g.kind = 8 ∧ ((g.args.drop 1).any fun a=>decide (d.vars ≤ a)) = true):=by
   rintro ⟨h1,h2 | ⟨h2,h3⟩⟩
   ·exact .inl ⟨h2,List.any_eq_true.2 ⟨_,List.getElem_mem hlt,by simpa using h1⟩⟩
   ·refine .inr ⟨h2,List.any_eq_true.2 ⟨g.args[j],?_,by simpa using h1⟩⟩
    rw [List.mem_iff_getElem]
    exact ⟨j - 1,by simp; omega,by simp only [List.getElem_drop]; congr 1; omega⟩
  have step : ¬ (d.vars ≤ g.args[j] ∧ (g.kind = 7 ∨ g.kind = 8 ∧ 0 < j)) → j + 1 ≤ g.args.length ∧ ∀ (k : Nat) (hk : k < g.args.length),k < j + 1 → ¬ (d.vars ≤ g.args[k] ∧ (g.kind = 7 ∨ g.kind = 8 ∧ 0 < k)):=by
   intro h0
   refine ⟨hlt,fun k hk hkj=>?_⟩
   by_cases hkj' : k = j
   ·subst hkj'; exact h0
   ·exact hn k hk (by omega)
  conv=>whnf
  refine aidx hlt ?_
  generalize g.args[j] = a at *
  conv=>whnf
  refine And.intro (fun m1=>?_) (fun m1=>?_)
  ·conv=>whnf
   refine And.intro (fun m2=>?_) (fun m2=>?_)
   ·obtain ⟨rfl,rfl⟩:=err 7 (by unfold gateErr; rw [if_neg n1,if_neg n2,if_neg n3,if_neg n4,if_pos (fin ⟨m1,.inl m2⟩)]) (by decide)
    conv=>whnf
    refine ⟨⟨_,_,.refl _ _,?_⟩⟩
    conv=>whnf
    refine ⟨le_refl _,rfl,by simp [nextId],.mk ?_ ⟨by simp,trivial⟩⟩
    all_goals exact wk
   conv=>whnf
   refine And.intro (fun m3=>?_) (fun m3=>?_)
   ·conv=>whnf
    refine And.intro (fun m4=>?_) (fun m4=>?_)
    ·obtain ⟨rfl,rfl⟩:=err 7 (by unfold gateErr; rw [if_neg n1,if_neg n2,if_neg n3,if_neg n4,if_pos (fin ⟨m1,.inr ⟨m3,by omega⟩⟩)]) (by decide)
     conv=>whnf
     refine ⟨⟨_,_,.refl _ _,?_⟩⟩
     conv=>whnf
     refine ⟨le_refl _,rfl,by simp [nextId],.mk ?_ ⟨by simp,trivial⟩⟩
     all_goals exact wk
    conv=>whnf
    refine zA ?_;conv=>whnf
    refine ⟨j + 1,?_,?_,?_⟩
    ·exact step (by omega)
    ·all_goals exact wk
    ·omega
   conv=>whnf
   refine zA ?_;conv=>whnf
   refine ⟨j + 1,?_,?_,?_⟩
   ·exact step (by omega)
   ·all_goals exact wk
   ·omega
  conv=>whnf
  refine zA ?_;conv=>whnf
  refine ⟨j + 1,?_,?_,?_⟩
  ·exact step (by omega)
  ·all_goals exact wk
  ·omega
 have hjl : j = g.args.length:=by have : ¬ j < g.args.length:=by simpa using h
                                  omega
 clear h
 subst hjl
 have n5 : ¬ ((g.kind = 7 ∧ (g.args.any fun a=>decide (d.vars ≤ a)) = true) ∨ (g.kind = 8 ∧ ((g.args.drop 1).any fun a=>decide (d.vars ≤ a)) = true)):=by
  rintro (⟨h1,h2⟩ | ⟨h1,h2⟩)
  ·obtain ⟨x,hx,hp⟩:=List.any_eq_true.1 h2
   obtain ⟨k,hk,rfl⟩:=List.getElem_of_mem hx
   exact hn k hk hk ⟨by simpa using hp,.inl h1⟩
  ·obtain ⟨x,hx,hp⟩:=List.any_eq_true.1 h2
   obtain ⟨k,hk,rfl⟩:=List.getElem_of_mem hx
   simp only [List.getElem_drop] at hp
   simp only [List.length_drop] at hk
   exact hn (1 + k) (by omega) (by omega) ⟨by simpa using hp,.inr ⟨h1,by omega⟩⟩
 conv=>whnf
 refine And.intro (fun k7=>?_) (fun k7=>?_)
 ·conv=>whnf
  refine LoopE.of <| LoopSpec.inv (.refl _ _) (fun j : Nat=>j ≤ g.args.length ∧ twice sp g.args = twice (sp ++ g.args.take j) (g.args.drop j))
   (fun j=>[(90,.int .i64 j),(2,.sl 1 ((sp ++ g.args.take j).map (.int .i64)) (.own 0))]) (fun j=>[(2,.box g.av),(1,.box d.av),(0,.tok 1 (sp.length + j))]) (fun j=>g.args.length - j) 0 ?_ (fun _=>rfl) ?_ ?_
  ·exact ⟨Nat.zero_le _,by simp⟩
  ·refine ⟨?_,.mk ?_ ⟨by simp,by simp,by simp,trivial⟩⟩
   ·repeat' first|exact rfl|exact trivial|exact wR|exact lR _|apply aI
    exact leRL_of (by simp)
   ·all_goals exact wk
  rintro j ⟨hj,hn⟩ _
  conv=>whnf
  refine And.intro (fun h=>?_) (fun h=>?_)
  ·have hlt : j < g.args.length:=by simpa using h
   rw [List.drop_eq_getElem_cons hlt] at hn
   simp only [twice] at hn
   have htk : g.args.take (j + 1) = g.args.take j ++ [g.args[j]]:=by rw [List.take_add_one,List.getElem?_eq_getElem hlt]; rfl
   conv=>whnf
   refine aidx hlt ?_
   generalize g.args[j] = a at *
   conv=>whnf
   refine .pure _ _ ?_ ⟨rfl,rfl⟩ (c_containsInt (sp ++ g.args.take j) a) fun _=>?_
   ·all_goals exact wk
   conv=>whnf
   refine And.intro (fun m1=>?_) (fun m1=>?_)
   ·rw [m1,Bool.true_or] at hn
    obtain ⟨rfl,rfl⟩:=err 6 (by unfold gateErr; rw [if_neg n1,if_neg n2,if_neg n3,if_neg n4,if_neg n5,if_pos ⟨k7,hn⟩]) (by decide)
    conv=>whnf
    refine ⟨⟨_,_,.refl _ _,?_⟩⟩
    conv=>whnf
    refine ⟨le_refl _,rfl,by simp [nextId],.mk ?_ ⟨by simp,trivial⟩⟩
    all_goals exact wk
   rw [m1,Bool.false_or] at hn
   conv=>whnf
   refine ⟨by simp; omega,?_⟩
   (refine ⟨by simp [maxL] <;> omega,by simp <;> omega,?_⟩;(conv=>whnf))
   refine zA ?_;conv=>whnf
   refine ⟨j + 1,?_,?_,?_⟩
   ·exact ⟨hlt,by rw [hn,htk,List.append_assoc]⟩
   ·refine ⟨?_,.mk ?_ ⟨by simp,by simp,by simp,trivial⟩⟩
    ·repeat' first|exact rfl|exact trivial|exact wR|exact lR _|apply aI
     refine leRL_of ?_
     rw [htk]; simp [strip]
    ·repeat' first|exact rfl|exact trivial|exact wR|exact lR _|apply aI
     simp; omega
   ·omega
  have hjl : j = g.args.length:=by have : ¬ j < g.args.length:=by simpa using h
                                   omega
  clear h
  subst hjl
  rw [List.drop_length] at hn
  have n6 : ¬ (g.kind = 7 ∧ twice sp g.args = true):=by rw [hn]; simp [twice]
  rw [List.take_length]
  have n7 : ¬ (g.kind = 2 ∧ (g.k < 1 ∨ (g.args.length : Int) < g.k)):=by omega
  conv=>whnf
  refine And.intro (fun k2=>by exfalso; omega) (fun k2=>?_)
  conv=>whnf
  refine And.intro (fun kk=>?_) (fun kk=>?_)
  ·obtain ⟨rfl,rfl⟩:=err 2 (by unfold gateErr; rw [if_neg n1,if_neg n2,if_neg n3,if_neg n4,if_neg n5,if_neg n6,if_neg n7,if_pos ⟨k2,kk⟩]) (by decide)
   conv=>whnf
   refine ⟨⟨_,_,.refl _ _,?_⟩⟩
   conv=>whnf
   refine ⟨le_refl _,rfl,by simp [nextId],.mk ?_ ⟨by simp,trivial⟩⟩
   all_goals exact wk
  have n8 : ¬ (g.kind ≠ 2 ∧ g.k ≠ 0):=fun h=>kk h.2
  conv=>whnf
  refine And.intro (fun _=>?_) (fun h=>absurd k7 h)
  conv=>whnf
  refine .pure _ _ ?_ ⟨rfl,rfl⟩ hr.p fun _=>?_
  ·exact leL_refl _
  conv=>whnf
  refine And.intro (fun kp=>?_) (fun kp=>?_)
  ·have kp : prob g.dorm = false:=by simpa using kp
   obtain ⟨rfl,rfl⟩:=err 3 (by unfold gateErr; rw [if_neg n1,if_neg n2,if_neg n3,if_neg n4,if_neg n5,if_neg n6,if_neg n7,if_neg n8,if_pos ⟨k7,kp⟩]) (by decide)
   conv=>whnf
   refine ⟨⟨_,_,.refl _ _,?_⟩⟩
   conv=>whnf
   refine ⟨le_refl _,rfl,by simp [nextId],.mk ?_ ⟨by simp,trivial⟩⟩
   all_goals exact wk
  have kp : prob g.dorm = true:=by simpa using kp
  have n9 : ¬ (g.kind = 7 ∧ prob g.dorm = false):=fun h=>by rw [kp] at h; cases h.2
  have hE : gateErr d i g sp = 0:=by unfold gateErr; rw [if_neg n1,if_neg n2,if_neg n3,if_neg n4,if_neg n5,if_neg n6,if_neg n7,if_neg n8,if_neg n9,if_neg (fun h=>h.1 k7)]
  rw [hE,if_pos rfl] at hR hG
  subst hR; subst hG
  conv=>whnf
  refine ⟨⟨_,_,.refl _ _,?_⟩⟩
  conv=>whnf
  refine ⟨?_,rfl,by simp [nextId],.mk ?_ ⟨by simp,trivial⟩⟩
  ·rw [spAfter,if_pos k7]
   all_goals exact wk
  ·rw [spAfter,if_pos k7]
   repeat' first|exact rfl|exact trivial|exact wR|exact lR _|apply aI
   simp
 ·have n6 : ¬ (g.kind = 7 ∧ twice sp g.args = true):=fun h=>k7 h.1
  have n9 : ¬ (g.kind = 7 ∧ prob g.dorm = false):=fun h=>k7 h.1
  have hsa : spAfter g sp = sp:=by rw [spAfter,if_neg k7]
  rw [hsa] at hR hG
  conv=>whnf
  refine And.intro (fun k2=>?_) (fun k2=>?_)
  ·have n8 : ¬ (g.kind ≠ 2 ∧ g.k ≠ 0):=fun h=>h.1 k2
   conv=>whnf
   refine And.intro (fun kk=>?_) (fun kk=>?_)
   ·obtain ⟨rfl,rfl⟩:=err 3 (by unfold gateErr; rw [if_neg n1,if_neg n2,if_neg n3,if_neg n4,if_neg n5,if_neg n6,if_pos ⟨k2,.inl kk⟩]) (by decide)
    conv=>whnf
    refine ⟨⟨_,_,.refl _ _,?_⟩⟩
    conv=>whnf
    refine ⟨le_refl _,rfl,by simp [nextId],.mk ?_ ⟨by simp,trivial⟩⟩
    all_goals exact wk
   conv=>whnf
   refine And.intro (fun kl=>?_) (fun kl=>?_)
   ·have kl : (g.args.length : Int) < g.k:=by simpa using kl
    obtain ⟨rfl,rfl⟩:=err 3 (by unfold gateErr; rw [if_neg n1,if_neg n2,if_neg n3,if_neg n4,if_neg n5,if_neg n6,if_pos ⟨k2,.inr kl⟩]) (by decide)
    conv=>whnf
    refine ⟨⟨_,_,.refl _ _,?_⟩⟩
    conv=>whnf
    refine ⟨le_refl _,rfl,by simp [nextId],.mk ?_ ⟨by simp,trivial⟩⟩
    all_goals exact wk
   have kl : ¬ (g.args.length : Int) < g.k:=by simpa using kl
   have n7 : ¬ (g.kind = 2 ∧ (g.k < 1 ∨ (g.args.length : Int) < g.k)):=by omega
   conv=>whnf
   refine And.intro (fun h=>absurd h k7) (fun _=>?_)
   conv=>whnf
   refine .pure _ _ ?_ ⟨rfl,rfl⟩ (c_zero g.dorm) fun _=>?_
   ·exact leL_refl _
   conv=>whnf
   refine And.intro (fun kz=>?_) (fun kz=>?_)
   ·have kz : zeroR g.dorm = false:=by simpa using kz
    obtain ⟨rfl,rfl⟩:=err 2 (by unfold gateErr; rw [if_neg n1,if_neg n2,if_neg n3,if_neg n4,if_neg n5,if_neg n6,if_neg n7,if_neg n8,if_neg n9,if_pos ⟨k7,kz⟩]) (by decide)
    conv=>whnf
    refine ⟨⟨_,_,.refl _ _,?_⟩⟩
    conv=>whnf
    refine ⟨le_refl _,rfl,by simp [nextId],.mk ?_ ⟨by simp,trivial⟩⟩
    all_goals exact wk
   have kz : zeroR g.dorm = true:=by simpa using kz
   have hE : gateErr d i g sp = 0:=by unfold gateErr; rw [if_neg n1,if_neg n2,if_neg n3,if_neg n4,if_neg n5,if_neg n6,if_neg n7,if_neg n8,if_neg n9,if_neg (fun h=>by rw [kz] at h; cases h.2)]
   rw [hE,if_pos rfl] at hR hG
   subst hR; subst hG
   conv=>whnf
   refine ⟨⟨_,_,.refl _ _,?_⟩⟩
   conv=>whnf
   refine ⟨?_,rfl,by simp [nextId],.mk ?_ ⟨by simp,trivial⟩⟩
   ·all_goals exact wk
   ·all_goals exact wk
  ·have n7 : ¬ (g.kind = 2 ∧ (g.k < 1 ∨ (g.args.length : Int) < g.k)):=by omega
   conv=>whnf
   refine And.intro (fun kk=>?_) (fun kk=>?_)
   ·obtain ⟨rfl,rfl⟩:=err 2 (by unfold gateErr; rw [if_neg n1,if_neg n2,if_neg n3,if_neg n4,if_neg n5,if_neg n6,if_neg n7,if_pos ⟨k2,kk⟩]) (by decide)
    conv=>whnf
    refine ⟨⟨_,_,.refl _ _,?_⟩⟩
    conv=>whnf
    refine ⟨le_refl _,rfl,by simp [nextId],.mk ?_ ⟨by simp,trivial⟩⟩
    all_goals exact wk
   have n8 : ¬ (g.kind ≠ 2 ∧ g.k ≠ 0):=fun h=>kk h.2
   conv=>whnf
   refine And.intro (fun h=>absurd h k7) (fun _=>?_)
   conv=>whnf
   refine .pure _ _ ?_ ⟨rfl,rfl⟩ (c_zero g.dorm) fun _=>?_
   ·exact leL_refl _
   conv=>whnf
   refine And.intro (fun kz=>?_) (fun kz=>?_)
   ·have kz : zeroR g.dorm = false:=by simpa using kz
    obtain ⟨rfl,rfl⟩:=err 2 (by unfold gateErr; rw [if_neg n1,if_neg n2,if_neg n3,if_neg n4,if_neg n5,if_neg n6,if_neg n7,if_neg n8,if_neg n9,if_pos ⟨k7,kz⟩]) (by decide)
    conv=>whnf
    refine ⟨⟨_,_,.refl _ _,?_⟩⟩
    conv=>whnf
    refine ⟨le_refl _,rfl,by simp [nextId],.mk ?_ ⟨by simp,trivial⟩⟩
    all_goals exact wk
   have kz : zeroR g.dorm = true:=by simpa using kz
   have hE : gateErr d i g sp = 0:=by unfold gateErr; rw [if_neg n1,if_neg n2,if_neg n3,if_neg n4,if_neg n5,if_neg n6,if_neg n7,if_neg n8,if_neg n9,if_neg (fun h=>by rw [kz] at h; cases h.2)]
   rw [hE,if_pos rfl] at hR hG
   subst hR; subst hG
   conv=>whnf
   refine ⟨⟨_,_,.refl _ _,?_⟩⟩
   conv=>whnf
   refine ⟨?_,rfl,by simp [nextId],.mk ?_ ⟨by simp,trivial⟩⟩
   ·all_goals exact wk
   ·all_goals exact wk

def errAV (e : Int) : AV:=if e = 0 then .nilI else .ifc 111 (.int .i64 e)

def badRat (r : Rat) : Bool:=!valid r || decide (sign r < 0)

def gatesErr (d : Dyn) : List Gate → Nat → List Int → Int
 | [],_,_=>0
 | g :: l,i,sp=>if gateErr d i g sp = 0 then gatesErr d l (i + 1) (spAfter g sp) else gateErr d i g sp

def checkR (d : Dyn) : Int :=
 if d.vars < 1 then 3 else if 24 < d.vars then 3 else if 64 < d.gates.length then 4
 else if (d.fail.length : Int) ≠ d.vars then 11 else if (d.repair.length : Int) ≠ d.vars then 11
 else if (d.fail.any badRat || d.repair.any badRat) = true then 3
 else if gatesErr d d.gates 0 [] ≠ 0 then gatesErr d d.gates 0 []
 else if d.top < 0 then 10 else if d.vars + d.gates.length ≤ d.top then 10 else 0

theorem gateErr_zero {d : Dyn} {i : Nat} {g : Gate} {sp : List Int} (h : gateErr d i g sp = 0) :
  (0 ≤ g.kind ∧ g.kind ≤ 8) ∧ argsR g.kind g.args.length = true ∧ (∀ a ∈ g.args,0 ≤ a ∧ a < d.vars + i) ∧
  (g.kind = 7 → ∀ a ∈ g.args,a < d.vars) ∧ (g.kind = 8 → ∀ a ∈ g.args.drop 1,a < d.vars) ∧ (g.kind = 7 → twice sp g.args = false):=by
 unfold gateErr at h
 split at h
 ·cases h
 rename_i h1
 split at h
 ·cases h
 rename_i h2
 split at h
 ·cases h
 rename_i h3
 split at h
 ·cases h
 rename_i h4
 split at h
 ·cases h
 rename_i h5
 split at h
 ·cases h
 rename_i h6
 refine ⟨by omega,by simpa using h3,fun a ha=>?_,fun hk a ha=>?_,fun hk a ha=>?_,fun hk=>?_⟩
 ·have h4 : (g.args.any fun a=>decide (a < 0) || decide (d.vars + i ≤ a)) = false:=by simpa using h4
  have:=List.any_eq_false.1 h4 a ha
  simp at this; omega
 ·rw [not_or] at h5
  have h5:=h5.1
  apply Classical.byContradiction
  intro hn
  exact h5 ⟨hk,List.any_eq_true.2 ⟨a,ha,by simp; omega⟩⟩
 ·rw [not_or] at h5
  have h5:=h5.2
  apply Classical.byContradiction
  intro hn
  exact h5 ⟨hk,List.any_eq_true.2 ⟨a,ha,by simp; omega⟩⟩
 ·cases ht : twice sp g.args with
  | false=>rfl
  | true=>exact absurd ⟨hk,ht⟩ h6

theorem argsR_le {k : Int} {n : Nat} (h : argsR k n = true) : n ≤ 16:=by
 unfold argsR at h
 split at h <;> first | (simp at h; omega) | skip
 split at h <;> first | (simp at h; omega) | skip
 split at h <;> (simp at h; omega)

theorem argsR_two {k : Int} {n : Nat} (h : argsR k n = true) (hk : k = 6 ∨ k = 7 ∨ k = 8) : 2 ≤ n:=by
 unfold argsR at h
 rw [if_neg (by omega),if_neg (by omega),if_pos hk] at h
 simp at h; omega

theorem gatesErr_zero {d : Dyn} : ∀ {l : List Gate} {i : Nat} {sp : List Int},gatesErr d l i sp = 0 → ∀ (k : Nat) (h : k < l.length),∃ sp',gateErr d (i + k) l[k] sp' = 0
 | [],_,_,_,k,h=>by simp at h
 | g :: l,i,sp,he,k,h=>by
   simp only [gatesErr] at he
   split at he
   ·rename_i h0
    cases k with
    | zero=>exact ⟨sp,h0⟩
    | succ k =>
      obtain ⟨sp',h1⟩:=gatesErr_zero he k (by simpa using h)
      exact ⟨sp',by rw [show i + (k + 1) = i + 1 + k by omega]; simpa using h1⟩
   ·rename_i h0; exact absurd he h0

theorem checkR_ok {d : Dyn} (h : checkR d = 0) : TreeOk d:=by
 unfold checkR at h
 split at h
 ·cases h
 split at h
 ·cases h
 split at h
 ·cases h
 split at h
 ·cases h
 split at h
 ·cases h
 split at h
 ·cases h
 split at h
 ·rename_i h0; exact absurd h h0
 rename_i hg
 split at h
 ·cases h
 split at h
 ·cases h
 have hg : gatesErr d d.gates 0 [] = 0:=by simpa using hg
 refine ⟨by omega,by omega,fun i hi=>?_,fun i hi hk=>?_,fun i hi hk=>?_,fun i hi hk=>?_,fun i hi hk=>?_,by omega⟩
 ·obtain ⟨sp,h1⟩:=gatesErr_zero hg i hi
  have:=(gateErr_zero h1).2.2.1
  simpa using this
 ·obtain ⟨sp,h1⟩:=gatesErr_zero hg i hi
  exact argsR_two (gateErr_zero h1).2.1 (.inr (.inr hk))
 ·obtain ⟨sp,h1⟩:=gatesErr_zero hg i hi
  exact (gateErr_zero h1).2.2.2.2.1 hk
 ·obtain ⟨sp,h1⟩:=gatesErr_zero hg i hi
  exact argsR_two (gateErr_zero h1).2.1 (.inr (.inl hk))
 ·obtain ⟨sp,h1⟩:=gatesErr_zero hg i hi
  exact (gateErr_zero h1).2.2.2.1 hk

structure DynC (d : Dyn) : Prop where
 fail : ∀ x ∈ d.fail,RatC x
 repair : ∀ x ∈ d.repair,RatC x
 dorm : ∀ g ∈ d.gates,RatC g.dorm

theorem c_Check (d : Dyn) (hd : DynC d) (R : AV) (hR : R = errAV (checkR d)) : FnH Tryz.prog 33 [d.av] [] R []:=by
 refine FnH.intro lay mixed Tryz.func33 (by kernel_rfl) rfl (by kernel_rfl) rfl fun hok=>?_
 have lf : d.fail.length ≤ 9223372036854775807:=by have:=hok.1.2.2.2.1.1; simpa [maxL] using this
 have lr : d.repair.length ≤ 9223372036854775807:=by have:=hok.1.2.2.2.2.1.1; simpa [maxL] using this
 conv=>whnf
 refine And.intro (fun n1=>?_) (fun n1=>?_)
 ·obtain rfl : R = .ifc 111 (.int .i64 3):=by rw [hR,show checkR d = 3 from by unfold checkR; rw [if_pos n1]]; rfl
  conv=>whnf
  refine fM ?_;(conv=>whnf);refine ⟨?_,rfl⟩;conv=>whnf
  exact ⟨rfl,rfl,rfl⟩
 conv=>whnf
 refine And.intro (fun n2=>?_) (fun n2=>?_)
 ·obtain rfl : R = .ifc 111 (.int .i64 3):=by rw [hR,show checkR d = 3 from by unfold checkR; rw [if_neg n1,if_pos n2]]; rfl
  conv=>whnf
  refine fM ?_;(conv=>whnf);refine ⟨?_,rfl⟩;conv=>whnf
  exact ⟨rfl,rfl,rfl⟩
 conv=>whnf
 refine And.intro (fun n3=>?_) (fun n3=>?_)
 ·have n3 : 64 < d.gates.length:=by simp only [List.length_map] at n3; omega
  obtain rfl : R = .ifc 111 (.int .i64 4):=by rw [hR,show checkR d = 4 from by unfold checkR; rw [if_neg n1,if_neg n2,if_pos n3]]; rfl
  conv=>whnf
  refine fM ?_;(conv=>whnf);refine ⟨?_,rfl⟩;conv=>whnf
  exact ⟨rfl,rfl,rfl⟩
 have n3 : ¬ 64 < d.gates.length:=by simp only [List.length_map] at n3; omega
 conv=>whnf
 refine And.intro (fun n4=>?_) (fun n4=>?_)
 ·have n4 : (d.fail.length : Int) ≠ d.vars:=by simpa using n4
  obtain rfl : R = .ifc 111 (.int .i64 11):=by rw [hR,show checkR d = 11 from by unfold checkR; rw [if_neg n1,if_neg n2,if_neg n3,if_pos n4]]; rfl
  conv=>whnf
  refine fM ?_;(conv=>whnf);refine ⟨?_,rfl⟩;conv=>whnf
  exact ⟨rfl,rfl,rfl⟩
 have n4 : ¬ (d.fail.length : Int) ≠ d.vars:=by simpa using n4
 conv=>whnf
 refine And.intro (fun n5=>?_) (fun n5=>?_)
 ·have n5 : (d.repair.length : Int) ≠ d.vars:=by simpa using n5
  obtain rfl : R = .ifc 111 (.int .i64 11):=by rw [hR,show checkR d = 11 from by unfold checkR; rw [if_neg n1,if_neg n2,if_neg n3,if_neg n4,if_pos n5]]; rfl
  conv=>whnf
  refine fM ?_;(conv=>whnf);refine ⟨?_,rfl⟩;conv=>whnf
  exact ⟨rfl,rfl,rfl⟩
 have n5 : ¬ (d.repair.length : Int) ≠ d.vars:=by simpa using n5
 conv=>whnf
 have hall : ∀ l ∈ [d.fail,d.repair],(l.length : Int) = d.vars ∧ ∀ x ∈ l,RatC x:=by
  intro l hl
  simp at hl
  rcases hl with rfl | rfl
  ·exact ⟨by omega,hd.fail⟩
  ·exact ⟨by omega,hd.repair⟩
 have hbad : ∀ l ∈ [d.fail,d.repair],l.any badRat = true → (d.fail.any badRat || d.repair.any badRat) = true:=by
  intro l hl h
  simp at hl
  rcases hl with rfl | rfl <;> simp [h]
 refine LoopE.of <| LoopSpec.inv (.refl _ _) (fun (i : Nat)=>i ≤ 2 ∧ ∀ (k : Nat) (hk : k < 2),k < i → ([d.fail,d.repair][k]).any badRat = false) (fun (i : Nat)=>[(46,.int .i64 i)]) (fun _=>_) (fun (i : Nat)=>2 - i) 0 ?_ (fun _=>rfl) ?_ ?_
 ·exact ⟨Nat.zero_le _,by omega⟩
 ·all_goals exact wk
 rintro i ⟨hi,hn⟩ _
 conv=>whnf
 refine And.intro (fun h=>?_) (fun h=>?_)
 ·have h : (i : Int) < 2:=h
  have hlt : i < [d.fail,d.repair].length:=by show i < 2; omega
  conv=>whnf
  refine aidx (l:=[d.fail,d.repair]) (f:=fun l=>.sl 3 (l.map Rat.av) .no) hlt ?_
  have hmem:=List.getElem_mem hlt
  have hn' : ([d.fail,d.repair][i]).any badRat = false → i + 1 ≤ 2 ∧ ∀ (k : Nat) (hk : k < 2),k < i + 1 → ([d.fail,d.repair][k]).any badRat = false:=by
   intro h0
   refine ⟨by omega,fun k hk hki=>?_⟩
   by_cases hki' : k = i
   ·subst hki'; exact h0
   ·exact hn k hk (by omega)
  generalize [d.fail,d.repair][i] = l at *
  obtain ⟨hll,hlr⟩:=hall l hmem
  conv=>whnf
  refine LoopE.of <| LoopSpec.inv (.refl _ _) (fun (j : Nat)=>j ≤ l.length ∧ (l.take j).any badRat = false) (fun (j : Nat)=>[(52,.int .i64 j)]) (fun _=>_) (fun (j : Nat)=>l.length - j) 0 ?_ (fun _=>rfl) ?_ ?_
  ·exact ⟨Nat.zero_le _,by simp⟩
  ·all_goals exact wk
  rintro j ⟨hj,hm⟩ _
  conv=>whnf
  refine And.intro (fun h=>?_) (fun h=>?_)
  ·have hjlt : j < l.length:=by simpa using h
   have hany:=any_take (p:=badRat) hjlt
   rw [hm,Bool.false_or] at hany
   have hxm:=List.getElem_mem hjlt
   conv=>whnf
   refine aidx hjlt ?_
   generalize l[j] = x at *
   have hx:=hlr x hxm
   have fin : badRat x = true → (d.fail.any badRat || d.repair.any badRat) = true:=fun hb=>hbad l hmem (List.any_eq_true.2 ⟨x,hxm,hb⟩)
   conv=>whnf
   refine .pure _ _ ?_ ⟨rfl,rfl⟩ hx.v fun _=>?_
   ·exact leL_refl _
   conv=>whnf
   refine And.intro (fun v1=>?_) (fun v1=>?_)
   ·obtain rfl : R = .ifc 111 (.int .i64 3):=by rw [hR,show checkR d = 3 from by unfold checkR; rw [if_neg n1,if_neg n2,if_neg n3,if_neg n4,if_neg n5,if_pos (fin (by simp [badRat,v1]))]]; rfl
    conv=>whnf
    refine fM ?_;(conv=>whnf);refine ⟨?_,rfl⟩;conv=>whnf
    exact ⟨rfl,rfl,rfl⟩
   conv=>whnf
   refine .pure _ _ ?_ ⟨rfl,rfl⟩ hx.s fun _=>?_
   ·exact leL_refl _
   conv=>whnf
   refine And.intro (fun v2=>?_) (fun v2=>?_)
   ·obtain rfl : R = .ifc 111 (.int .i64 3):=by rw [hR,show checkR d = 3 from by unfold checkR; rw [if_neg n1,if_neg n2,if_neg n3,if_neg n4,if_neg n5,if_pos (fin (by simp [badRat,v2]))]]; rfl
    conv=>whnf
    refine fM ?_;(conv=>whnf);refine ⟨?_,rfl⟩;conv=>whnf
    exact ⟨rfl,rfl,rfl⟩
   conv=>whnf
   refine zA ?_;conv=>whnf
   refine ⟨j + 1,?_,?_,?_⟩
   ·refine ⟨hjlt,?_⟩
    rw [hany]
    simp only [badRat,v1,v2,decide_false,Bool.or_false]
   ·refine ⟨?_,.mk ?_ ⟨by simp,trivial⟩⟩
    ·all_goals exact wk
    ·all_goals exact wk
   ·omega
  ·have hjl : j = l.length:=by have : ¬ j < l.length:=by simpa using h
                               omega
   rw [hjl,List.take_length] at hm
   conv=>whnf
   refine zA ?_;conv=>whnf
   refine ⟨i + 1,?_,?_,?_⟩
   ·exact hn' hm
   ·all_goals exact wk
   ·omega
 have hi2 : i = 2:=by have : ¬ (i : Int) < 2:=h
                      omega
 subst hi2
 have m1:=hn 0 (by omega) (by omega)
 have m2:=hn 1 (by omega) (by omega)
 simp only [List.getElem_cons_zero,List.getElem_cons_succ] at m1 m2
 have n6 : ¬ (d.fail.any badRat || d.repair.any badRat) = true:=by rw [m1,m2]; simp
 conv=>whnf
 refine LoopE.of <| LoopSpec.inv (.grow 7 1 [] _ rfl (.inl ⟨rfl,rfl⟩) (.refl _ _)) (fun x : Nat × List Int=>x.1 ≤ d.gates.length ∧ x.2.length ≤ 16 * x.1 ∧ gatesErr d d.gates 0 [] = gatesErr d (d.gates.drop x.1) x.1 x.2)
  (fun | (i,sp)=>[(70,.int .i64 i),(7,.sl 1 (sp.map (.int .i64)) (.own 1))]) (fun | (_,sp)=>[(1,.tok 1 sp.length),(0,.box d.av)]) (fun x=>d.gates.length - x.1) (0,[]) ?_ (fun _=>rfl) ?_ ?_
 ·exact ⟨Nat.zero_le _,by simp,by simp⟩
 ·refine ⟨?_,.mk ?_ ⟨by simp,by simp,trivial⟩⟩
  ·all_goals exact wk
  ·all_goals exact wk
 rintro ⟨i,sp⟩ ⟨hi,hsp,hg⟩ _
 simp only at hi hsp hg
 conv=>whnf
 refine And.intro (fun h=>?_) (fun h=>?_)
 ·have hlt : i < d.gates.length:=by simpa using h
  rw [List.drop_eq_getElem_cons hlt] at hg
  simp only [gatesErr] at hg
  have hc:=fun R G=>c_checkGate d i sp hlt (by omega) (by omega) (by omega) (hd.dorm _ (List.getElem_mem hlt)) R G
  conv=>whnf
  by_cases hE : gateErr d i d.gates[i] sp = 0
  ·rw [if_pos hE] at hg
   have h16:=argsR_le (gateErr_zero hE).2.1
   refine .gen _ _ (FnH.frame [1] (hc _ _ (by rw [if_pos hE]) (by rw [if_pos hE])) ⟨rfl,rfl,rfl,rfl⟩ ?_ ?_) fun _=>?_
   ·all_goals exact wk
   ·all_goals exact wk
   conv=>whnf
   refine zA ?_;conv=>whnf
   refine ⟨(i + 1,spAfter d.gates[i] sp),?_,?_,?_⟩
   ·refine ⟨hlt,?_,hg⟩
    show (spAfter d.gates[i] sp).length ≤ 16 * (i + 1)
    unfold spAfter; split
    ·simp; omega
    ·omega
   ·refine ⟨?_,.mk ?_ ⟨by simp,by simp,trivial⟩⟩
    ·all_goals exact wk
    ·all_goals exact wk
   ·show d.gates.length - (i + 1) < d.gates.length - i
    omega
  ·rw [if_neg hE] at hg
   refine .gen _ _ (FnH.frame [1] (hc _ _ (by rw [if_neg hE]) (by rw [if_neg hE])) ⟨rfl,rfl,rfl,rfl⟩ ?_ ?_) fun _=>?_
   ·all_goals exact wk
   ·all_goals exact wk
   have n7 : gatesErr d d.gates 0 [] ≠ 0:=by rw [hg]; exact hE
   obtain rfl : R = .ifc 111 (.int .i64 (gateErr d i d.gates[i] sp)):=by
    rw [hR,show checkR d = gateErr d i d.gates[i] sp from by unfold checkR; rw [if_neg n1,if_neg n2,if_neg n3,if_neg n4,if_neg n5,if_neg n6,if_pos n7,hg]]
    unfold errAV; rw [if_neg hE]
   conv=>whnf
   refine fM ?_;(conv=>whnf);refine ⟨?_,rfl⟩;conv=>whnf
   exact ⟨rfl,rfl,rfl⟩
 have hil : i = d.gates.length:=by have : ¬ i < d.gates.length:=by simpa using h
                                   omega
 subst hil
 rw [List.drop_length] at hg
 have n7 : ¬ gatesErr d d.gates 0 [] ≠ 0:=by rw [hg]; simp [gatesErr]
 conv=>whnf
 refine And.intro (fun n8=>?_) (fun n8=>?_)
 ·obtain rfl : R = .ifc 111 (.int .i64 10):=by rw [hR,show checkR d = 10 from by unfold checkR; rw [if_neg n1,if_neg n2,if_neg n3,if_neg n4,if_neg n5,if_neg n6,if_neg n7,if_pos n8]]; rfl
  conv=>whnf
  refine fM ?_;(conv=>whnf);refine ⟨?_,rfl⟩;conv=>whnf
  exact ⟨rfl,rfl,rfl⟩
 conv=>whnf
 refine ⟨inr64 (by simp; omega) (by simp; omega),?_⟩
 conv=>whnf
 refine And.intro (fun n9=>?_) (fun n9=>?_)
 ·have n9 : d.vars + d.gates.length ≤ d.top:=by simpa using n9
  obtain rfl : R = .ifc 111 (.int .i64 10):=by rw [hR,show checkR d = 10 from by unfold checkR; rw [if_neg n1,if_neg n2,if_neg n3,if_neg n4,if_neg n5,if_neg n6,if_neg n7,if_neg n8,if_pos n9]]; rfl
  conv=>whnf
  refine fM ?_;(conv=>whnf);refine ⟨?_,rfl⟩;conv=>whnf
  exact ⟨rfl,rfl,rfl⟩
 have n9 : ¬ d.vars + d.gates.length ≤ d.top:=by simpa using n9
 obtain rfl : R = .nilI:=by rw [hR,show checkR d = 0 from by unfold checkR; rw [if_neg n1,if_neg n2,if_neg n3,if_neg n4,if_neg n5,if_neg n6,if_neg n7,if_neg n8,if_neg n9]]; rfl
 conv=>whnf
 refine fM ?_;(conv=>whnf);refine ⟨?_,rfl⟩;conv=>whnf

def loG (g : Gate) : Int:=if g.kind = 7 then -1 else 0
def hiG (g : Gate) : Int:=if g.kind = 6 then 1 else if g.kind = 7 then (g.args.length : Int) - 1 else 0

def memoErr (d : Dyn) (memo : List Int) : Bool:=(List.range d.gates.length).any fun k=>decide (memo.getD k 0 < loG (d.gates.getD k default)) || decide (hiG (d.gates.getD k default) < memo.getD k 0)

def checkSR (d : Dyn) (s : St) : Int :=
 if checkR d ≠ 0 then checkR d else if s.memo.length ≠ d.gates.length then 11
 else if s.failed < 0 then 3 else if (2 ^ d.vars.toNat : Nat) ≤ s.failed then 3
 else if memoErr d s.memo = true then 3 else 0

structure StOk (d : Dyn) (s : St) : Prop where
 len : s.memo.length = d.gates.length
 pos : 0 ≤ s.failed
 lt : s.failed < (2 ^ d.vars.toNat : Nat)
 memo : ∀ (k : Nat) (h : k < d.gates.length),loG d.gates[k] ≤ s.memo.getD k 0 ∧ s.memo.getD k 0 ≤ hiG d.gates[k]

theorem getD_lt {α : Type} {l : List α} {i : Nat} {x : α} (h : i < l.length) : l.getD i x = l[i]:=by
 rw [List.getD_eq_getElem?_getD,List.getElem?_eq_getElem h]; rfl

theorem checkSR_ok {d : Dyn} {s : St} (h : checkSR d s = 0) : checkR d = 0 ∧ StOk d s:=by
 unfold checkSR at h
 split at h
 ·rename_i h0; exact absurd h h0
 rename_i h0
 split at h
 ·cases h
 rename_i h1
 split at h
 ·cases h
 rename_i h2
 split at h
 ·cases h
 rename_i h3
 split at h
 ·cases h
 rename_i h4
 refine ⟨by simpa using h0,by simpa using h1,by omega,by omega,fun k hk=>?_⟩
 have h4 : memoErr d s.memo = false:=by simpa using h4
 unfold memoErr at h4
 have:=List.any_eq_false.1 h4 k (by simpa using hk)
 rw [getD_lt hk] at this
 simp only [Bool.or_eq_true,decide_eq_true_eq] at this
 omega

theorem StOk.memoOk {d : Dyn} {s : St} (h : StOk d s) : MemoOk d s.memo:=by
 refine ⟨h.len,fun i hi hk=>?_⟩
 have:=(h.memo i hi).2
 unfold hiG at this
 rw [if_neg (by omega),if_pos hk] at this
 omega

theorem pow_int {n : Nat} (h : n ≤ 24) : ((2 ^ n : Nat) : Int) ≤ 16777216:=by
 have : 2 ^ n ≤ 2 ^ 24:=Nat.pow_le_pow_right (by omega) h
 have h2 : (2 : Nat) ^ 24 = 16777216:=by decide
 omega

theorem aidxN {α : Type} (d : α) {f : α → AV} {l : List α} {i : Nat} {k : AV → Prop} (h : i < l.length) (hk : k (f (l.getD i d))) : AIdx (l.map f) (i : Int) k:=by
 refine aidx h ?_
 rw [getD_lt h] at hk; exact hk

theorem c_check (d : Dyn) (s : St) (hd : DynC d) (R : AV) (hR : R = errAV (checkSR d s)) : FnH Tryz.prog 122 [d.av,s.av] [] R []:=by
 refine FnH.intro lay mixed Tryz.func122 (by kernel_rfl) rfl (by kernel_rfl) rfl fun hok=>?_
 conv=>whnf
 refine .pure _ _ ?_ ⟨rfl,?_⟩ (c_Check d hd _ rfl) fun _=>?_
 ·all_goals exact wk
 ·unfold errAV; split <;> rfl
 by_cases n0 : checkR d ≠ 0
 ·rw [show errAV (checkR d) = .ifc 111 (.int .i64 (checkR d)) from if_neg n0]
  obtain rfl : R = .ifc 111 (.int .i64 (checkR d)):=by
   rw [hR,show checkSR d s = checkR d from by unfold checkSR; rw [if_pos n0]]
   exact if_neg n0
  conv=>whnf
  refine fM ?_;(conv=>whnf);refine ⟨?_,rfl⟩;conv=>whnf
  exact ⟨rfl,rfl,rfl⟩
 have h0 : checkR d = 0:=by simpa using n0
 have hT:=checkR_ok h0
 have hv:=hT.vars
 have hg:=hT.gates
 have hp:=pow_int (n:=d.vars.toNat) (by omega)
 rw [show errAV (checkR d) = .nilI from if_pos h0]
 conv=>whnf
 refine And.intro (fun n1=>?_) (fun n1=>?_)
 ·have n1 : s.memo.length ≠ d.gates.length:=by simp only [List.length_map] at n1; omega
  obtain rfl : R = .ifc 111 (.int .i64 11):=by rw [hR,show checkSR d s = 11 from by unfold checkSR; rw [if_neg n0,if_pos n1]]; rfl
  conv=>whnf
  refine fM ?_;(conv=>whnf);refine ⟨?_,rfl⟩;conv=>whnf
  exact ⟨rfl,rfl,rfl⟩
 have n1 : ¬ s.memo.length ≠ d.gates.length:=by simp only [List.length_map] at n1; omega
 conv=>whnf
 refine ADraw.auto (by kernel_rfl) ?_;conv=>whnf
 refine And.intro (fun n2=>?_) (fun n2=>?_)
 ·obtain rfl : R = .ifc 111 (.int .i64 3):=by rw [hR,show checkSR d s = 3 from by unfold checkSR; rw [if_neg n0,if_neg n1,if_pos n2]]; rfl
  conv=>whnf
  refine fM ?_;(conv=>whnf);refine ⟨?_,rfl⟩;conv=>whnf
  exact ⟨rfl,rfl,rfl⟩
 conv=>whnf
 refine ⟨by omega,?_⟩
 have hsh : shlR .i64 1 d.vars = (2 ^ d.vars.toNat : Nat):=by
  have:=shl_one (i:=d.vars.toNat) (by omega)
  rw [show ((d.vars.toNat : Nat) : Int) = d.vars by omega] at this
  exact this
 rw [hsh]
 conv=>whnf
 refine And.intro (fun n3=>?_) (fun n3=>?_)
 ·obtain rfl : R = .ifc 111 (.int .i64 3):=by rw [hR,show checkSR d s = 3 from by unfold checkSR; rw [if_neg n0,if_neg n1,if_neg n2,if_pos n3]]; rfl
  conv=>whnf
  refine fM ?_;(conv=>whnf);refine ⟨?_,rfl⟩;conv=>whnf
  exact ⟨rfl,rfl,rfl⟩
 conv=>whnf
 refine LoopE.of <| LoopSpec.inv (.refl _ _) (fun (i : Nat)=>i ≤ d.gates.length ∧ ∀ (k : Nat) (h : k < d.gates.length),k < i → ¬ (s.memo.getD k 0 < loG d.gates[k] ∨ hiG d.gates[k] < s.memo.getD k 0)) (fun (i : Nat)=>[(38,.int .i64 i)]) (fun _=>_) (fun (i : Nat)=>d.gates.length - i) 0 ?_ (fun _=>rfl) ?_ ?_
 ·exact ⟨Nat.zero_le _,by omega⟩
 ·all_goals exact wk
 rintro i ⟨hi,hn⟩ _
 conv=>whnf
 refine And.intro (fun h=>?_) (fun h=>?_)
 ·have hlt : i < d.gates.length:=by simpa using h
  have hx : (i : Int) < (s.memo.length : Int):=by omega
  have hal : (d.gates[i]).args.length ≤ 9223372036854775807:=Gate.okArgs (Dyn.okGates hok.1 _ (List.getElem_mem hlt))
  have fin : (s.memo.getD i 0 < loG d.gates[i] ∨ hiG d.gates[i] < s.memo.getD i 0) → memoErr d s.memo = true:=by
   intro h
   unfold memoErr
   refine List.any_eq_true.2 ⟨i,by simpa using hlt,?_⟩
   rw [getD_lt hlt]; simpa using h
  have step : ¬ (s.memo.getD i 0 < loG d.gates[i] ∨ hiG d.gates[i] < s.memo.getD i 0) → i + 1 ≤ d.gates.length ∧ ∀ (k : Nat) (h : k < d.gates.length),k < i + 1 → ¬ (s.memo.getD k 0 < loG d.gates[k] ∨ hiG d.gates[k] < s.memo.getD k 0):=by
   intro h0
   refine ⟨hlt,fun k hk hki=>?_⟩
   by_cases hki' : k = i
   ·subst hki'; exact h0
   ·exact hn k hk (by omega)
  conv=>whnf
  refine aidx hlt ?_
  generalize d.gates[i] = g at *
  conv=>whnf
  refine And.intro (fun k6=>?_) (fun k6=>?_)
  ·have hlo : loG g = 0:=by unfold loG; rw [if_neg (by omega)]
   have hhi : hiG g = 1:=by unfold hiG; rw [if_pos k6]
   rw [hlo,hhi] at fin step
   conv=>whnf
   refine aidxN 0 (by omega) ?_
   conv=>whnf
   refine And.intro (fun m1=>?_) (fun m1=>?_)
   ·obtain rfl : R = .ifc 111 (.int .i64 3):=by rw [hR,show checkSR d s = 3 from by unfold checkSR; rw [if_neg n0,if_neg n1,if_neg n2,if_neg n3,if_pos (fin (.inl m1))]]; rfl
    conv=>whnf
    refine fM ?_;(conv=>whnf);refine ⟨?_,rfl⟩;conv=>whnf
    exact ⟨rfl,rfl,rfl⟩
   conv=>whnf
   refine aidxN 0 (by omega) ?_
   conv=>whnf
   refine And.intro (fun m2=>?_) (fun m2=>?_)
   ·obtain rfl : R = .ifc 111 (.int .i64 3):=by rw [hR,show checkSR d s = 3 from by unfold checkSR; rw [if_neg n0,if_neg n1,if_neg n2,if_neg n3,if_pos (fin (.inr m2))]]; rfl
    conv=>whnf
    refine fM ?_;(conv=>whnf);refine ⟨?_,rfl⟩;conv=>whnf
    exact ⟨rfl,rfl,rfl⟩
   conv=>whnf
   refine zA ?_;conv=>whnf
   refine ⟨i + 1,?_,?_,?_⟩
   ·exact step (by omega)
   ·refine ⟨?_,.mk ?_ ⟨by simp,by simp,trivial⟩⟩
    ·all_goals exact wk
    ·all_goals exact wk
   ·omega
  conv=>whnf
  refine And.intro (fun k7=>?_) (fun k7=>?_)
  ·conv=>whnf
   refine ADraw.auto (by kernel_rfl) ?_;conv=>whnf
   refine ⟨inr64 (by simp; omega) (by simp; omega),?_⟩
   rw [show ((g.args.map (AV.int .i64)).length : Int) = (g.args.length : Int) by simp]
   have hlo : loG g = -1:=by unfold loG; rw [if_pos k7]
   have hhi : hiG g = (g.args.length : Int) - 1:=by unfold hiG; rw [if_neg (by omega),if_pos k7]
   rw [hlo,hhi] at fin step
   conv=>whnf
   refine aidxN 0 (by omega) ?_
   conv=>whnf
   refine And.intro (fun m1=>?_) (fun m1=>?_)
   ·obtain rfl : R = .ifc 111 (.int .i64 3):=by rw [hR,show checkSR d s = 3 from by unfold checkSR; rw [if_neg n0,if_neg n1,if_neg n2,if_neg n3,if_pos (fin (.inl m1))]]; rfl
    conv=>whnf
    refine fM ?_;(conv=>whnf);refine ⟨?_,rfl⟩;conv=>whnf
    exact ⟨rfl,rfl,rfl⟩
   conv=>whnf
   refine aidxN 0 (by omega) ?_
   conv=>whnf
   refine And.intro (fun m2=>?_) (fun m2=>?_)
   ·obtain rfl : R = .ifc 111 (.int .i64 3):=by rw [hR,show checkSR d s = 3 from by unfold checkSR; rw [if_neg n0,if_neg n1,if_neg n2,if_neg n3,if_pos (fin (.inr m2))]]; rfl
    conv=>whnf
    refine fM ?_;(conv=>whnf);refine ⟨?_,rfl⟩;conv=>whnf
    exact ⟨rfl,rfl,rfl⟩
   conv=>whnf
   refine zA ?_;conv=>whnf
   refine ⟨i + 1,?_,?_,?_⟩
   ·exact step (by omega)
   ·refine ⟨?_,.mk ?_ ⟨by simp,by simp,trivial⟩⟩
    ·all_goals exact wk
    ·all_goals exact wk
   ·omega
  ·have hlo : loG g = 0:=by unfold loG; rw [if_neg (by omega)]
   have hhi : hiG g = 0:=by unfold hiG; rw [if_neg (by omega),if_neg (by omega)]
   rw [hlo,hhi] at fin step
   conv=>whnf
   refine aidxN 0 (by omega) ?_
   conv=>whnf
   refine And.intro (fun m1=>?_) (fun m1=>?_)
   ·obtain rfl : R = .ifc 111 (.int .i64 3):=by rw [hR,show checkSR d s = 3 from by unfold checkSR; rw [if_neg n0,if_neg n1,if_neg n2,if_neg n3,if_pos (fin (.inl m1))]]; rfl
    conv=>whnf
    refine fM ?_;(conv=>whnf);refine ⟨?_,rfl⟩;conv=>whnf
    exact ⟨rfl,rfl,rfl⟩
   conv=>whnf
   refine aidxN 0 (by omega) ?_
   conv=>whnf
   refine And.intro (fun m2=>?_) (fun m2=>?_)
   ·obtain rfl : R = .ifc 111 (.int .i64 3):=by rw [hR,show checkSR d s = 3 from by unfold checkSR; rw [if_neg n0,if_neg n1,if_neg n2,if_neg n3,if_pos (fin (.inr m2))]]; rfl
    conv=>whnf
    refine fM ?_;(conv=>whnf);refine ⟨?_,rfl⟩;conv=>whnf
    exact ⟨rfl,rfl,rfl⟩
   conv=>whnf
   refine zA ?_;conv=>whnf
   refine ⟨i + 1,?_,?_,?_⟩
   ·exact step (by omega)
   ·refine ⟨?_,.mk ?_ ⟨by simp,by simp,trivial⟩⟩
    ·all_goals exact wk
    ·all_goals exact wk
   ·omega
 have hil : i = d.gates.length:=by have : ¬ i < d.gates.length:=by simpa using h
                                   omega
 subst hil
 have n4 : ¬ memoErr d s.memo = true:=by
  unfold memoErr
  intro h
  obtain ⟨k,hk,hp⟩:=List.any_eq_true.1 h
  have hk : k < d.gates.length:=by simpa using hk
  rw [getD_lt hk] at hp
  exact hn k hk hk (by simpa using hp)
 obtain rfl : R = .nilI:=by rw [hR,show checkSR d s = 0 from by unfold checkSR; rw [if_neg n0,if_neg n1,if_neg n2,if_neg n3,if_neg n4]]; rfl
 conv=>whnf
 refine fM ?_;(conv=>whnf);refine ⟨?_,rfl⟩;conv=>whnf

abbrev z0 : St:=⟨0,[]⟩

def startR (d : Dyn) : St × Int:=if checkR d ≠ 0 then (z0,checkR d) else (settleR d 0 (List.replicate d.gates.length 0),0)

def failR (d : Dyn) (s : St) (i : Int) : St × Int :=
 if checkSR d s ≠ 0 then (z0,checkSR d s) else if i < 0 then (z0,10) else if d.vars ≤ i then (z0,10)
 else if s.failed.toNat.testBit i.toNat = true then (z0,12) else (settleR d (s.failed.toNat ||| 2 ^ i.toNat) s.memo,0)

def repairR (d : Dyn) (s : St) (i : Int) : St × Int :=
 if checkSR d s ≠ 0 then (z0,checkSR d s) else if i < 0 then (z0,10) else if d.vars ≤ i then (z0,10)
 else if s.failed.toNat.testBit i.toNat = false then (z0,12) else if heldR d (valuesR d s.failed.toNat s.memo) i = true then (z0,12)
 else (settleR d (nandN s.failed.toNat (2 ^ i.toNat)) s.memo,0)

def topR (d : Dyn) (s : St) : Bool × Int :=
 if checkSR d s ≠ 0 then (false,checkSR d s) else ((valuesR d s.failed.toNat s.memo).getD d.top.toNat false,0)

theorem zeroMemo {d : Dyn} (hd : TreeOk d) : MemoOk d (List.replicate d.gates.length 0):=by
 refine ⟨by simp,fun i hi hk=>?_⟩
 have:=hd.sp i hi hk
 rw [List.getD_eq_getElem?_getD,List.getElem?_replicate,if_pos hi]
 show (0 : Int) < _
 omega

theorem errAV_zero : errAV 0 = .nilI:=rfl
theorem errAV_ne {e : Int} (h : e ≠ 0) : errAV e = .ifc 111 (.int .i64 e):=if_neg h

theorem c_Start (d : Dyn) (hd : DynC d) (R : AV) (hR : R = .tup [(startR d).1.av,errAV (startR d).2]) : FnH Tryz.prog 118 [d.av] [] R []:=by
 refine FnH.intro lay mixed Tryz.func118 (by kernel_rfl) rfl (by kernel_rfl) rfl fun hok=>?_
 conv=>whnf
 refine .pure _ _ ?_ ⟨rfl,?_⟩ (c_Check d hd _ rfl) fun _=>?_
 ·all_goals exact wk
 ·unfold errAV; split <;> rfl
 by_cases n0 : checkR d ≠ 0
 ·rw [errAV_ne n0]
  obtain rfl : R = .tup [z0.av,.ifc 111 (.int .i64 (checkR d))]:=by
   rw [hR,show startR d = (z0,checkR d) from if_pos n0,errAV_ne n0]
  conv=>whnf
  refine fM ?_;(conv=>whnf);refine ⟨?_,rfl⟩;conv=>whnf
  all_goals exact wk
 have h0 : checkR d = 0:=by simpa using n0
 have hT:=checkR_ok h0
 rw [h0,errAV_zero]
 obtain rfl : R = .tup [(settleR d 0 (List.replicate d.gates.length 0)).av,.nilI]:=by
  rw [hR,show startR d = _ from if_neg n0]; rfl
 conv=>whnf
 refine ADraw.auto (by kernel_rfl) ?_;conv=>whnf
 have hg:=hT.gates
 refine ⟨⟨by omega,by omega,by simp; omega,by simp; omega⟩,rfl,?_⟩
 conv=>whnf
 refine ACallP.pure _ _ ?_ ⟨rfl,rfl⟩ (c_settle d 0 (List.replicate d.gates.length 0) (Nat.two_pow_pos _) hT (zeroMemo hT)) ?_
 ·repeat' first|exact rfl|exact trivial|exact wR|exact lR _|apply aI
  exact leRL_of (by simp)
 conv=>whnf
 refine fM ?_;(conv=>whnf);refine ⟨?_,rfl⟩;conv=>whnf
 all_goals exact wk

theorem c_Top (d : Dyn) (s : St) (hd : DynC d) (R : AV) (hR : R = .tup [.bool (topR d s).1,errAV (topR d s).2]) : FnH Tryz.prog 45 [d.av,s.av] [] R []:=by
 refine FnH.intro lay mixed Tryz.func45 (by kernel_rfl) rfl (by kernel_rfl) rfl fun hok=>?_
 conv=>whnf
 refine .pure _ _ ?_ ⟨rfl,?_⟩ (c_check d s hd _ rfl) fun _=>?_
 ·all_goals exact wk
 ·unfold errAV; split <;> rfl
 by_cases n0 : checkSR d s ≠ 0
 ·rw [errAV_ne n0]
  obtain rfl : R = .tup [.bool false,.ifc 111 (.int .i64 (checkSR d s))]:=by
   rw [hR,show topR d s = _ from if_pos n0,errAV_ne n0]
  conv=>whnf
  refine fM ?_;(conv=>whnf);refine ⟨?_,rfl⟩;conv=>whnf
  all_goals exact wk
 have h0 : checkSR d s = 0:=by simpa using n0
 obtain ⟨hc,hs⟩:=checkSR_ok h0
 have hT:=checkR_ok hc
 rw [h0,errAV_zero]
 obtain rfl : R = .tup [.bool ((valuesR d s.failed.toNat s.memo).getD d.top.toNat false),.nilI]:=by
  rw [hR,show topR d s = _ from if_neg n0]; rfl
 have hv:=hT.vars
 have hp:=pow_int (n:=d.vars.toNat) (by omega)
 have hpos:=hs.pos
 have hlt:=hs.lt
 have htop:=hT.top
 obtain ⟨f,hf⟩ : ∃ f : Nat,s.failed = f:=⟨s.failed.toNat,by omega⟩
 obtain ⟨fl,memo⟩:=s
 simp only at hf
 subst hf
 conv=>whnf
 refine ADraw.auto (by kernel_rfl) ?_;conv=>whnf
 refine ACallP.pure _ _ ?_ ⟨rfl,rfl⟩ (c_values d f memo (by have : (f : Int) < (2 ^ d.vars.toNat : Nat):=hlt; omega) hT hs.len) ?_
 ·all_goals exact wk
 conv=>whnf
 refine aidxD false ⟨htop.1,by rw [valuesR_len]; omega⟩ ?_
 conv=>whnf
 refine fM ?_;(conv=>whnf);refine ⟨?_,rfl⟩;conv=>whnf
 all_goals exact wk

theorem c_Fail (d : Dyn) (s : St) (i : Int) (hd : DynC d) (R : AV) (hR : R = .tup [(failR d s i).1.av,errAV (failR d s i).2]) : FnH Tryz.prog 119 [d.av,s.av,.int .i64 i] [] R []:=by
 refine FnH.intro lay mixed Tryz.func119 (by kernel_rfl) rfl (by kernel_rfl) rfl fun hok=>?_
 conv=>whnf
 refine .pure _ _ ?_ ⟨rfl,?_⟩ (c_check d s hd _ rfl) fun _=>?_
 ·all_goals exact wk
 ·unfold errAV; split <;> rfl
 by_cases n0 : checkSR d s ≠ 0
 ·rw [errAV_ne n0]
  obtain rfl : R = .tup [z0.av,.ifc 111 (.int .i64 (checkSR d s))]:=by
   rw [hR,show failR d s i = (z0,checkSR d s) from if_pos n0,errAV_ne n0]
  conv=>whnf
  refine fM ?_;(conv=>whnf);refine ⟨?_,rfl⟩;conv=>whnf
  all_goals exact wk
 have h0 : checkSR d s = 0:=by simpa using n0
 obtain ⟨hc,hs⟩:=checkSR_ok h0
 have hT:=checkR_ok hc
 rw [h0,errAV_zero]
 have hv:=hT.vars
 have hp:=pow_int (n:=d.vars.toNat) (by omega)
 have hpos:=hs.pos
 have hlt:=hs.lt
 have hmo:=hs.memoOk
 obtain ⟨f,hf⟩ : ∃ f : Nat,s.failed = f:=⟨s.failed.toNat,by omega⟩
 obtain ⟨fl,memo⟩:=s
 simp only at hf
 subst hf
 have hlt : (f : Int) < (2 ^ d.vars.toNat : Nat):=hlt
 have hmo : MemoOk d memo:=hmo
 have err : ∀ e : Int,failR d ⟨f,memo⟩ i = (z0,e) → e ≠ 0 → R = .tup [z0.av,.ifc 111 (.int .i64 e)]:=by
  intro e he h0
  rw [hR,he,errAV_ne h0]
 conv=>whnf
 refine And.intro (fun n1=>?_) (fun n1=>?_)
 ·obtain rfl:=err 10 (by unfold failR; rw [if_neg n0,if_pos n1]) (by decide)
  conv=>whnf
  refine fM ?_;(conv=>whnf);refine ⟨?_,rfl⟩;conv=>whnf
  all_goals exact wk
 conv=>whnf
 refine And.intro (fun n2=>?_) (fun n2=>?_)
 ·obtain rfl:=err 10 (by unfold failR; rw [if_neg n0,if_neg n1,if_pos n2]) (by decide)
  conv=>whnf
  refine fM ?_;(conv=>whnf);refine ⟨?_,rfl⟩;conv=>whnf
  all_goals exact wk
 obtain ⟨j,rfl⟩ : ∃ j : Nat,i = j:=⟨i.toNat,by omega⟩
 have hj2 : 2 ^ j < 2 ^ d.vars.toNat:=Nat.pow_lt_pow_right (by omega) (by omega)
 conv=>whnf
 refine ⟨by omega,?_⟩
 have hb:=bit_test (a:=f) (i:=j) (by omega) (by omega)
 conv=>whnf
 rw [hb]
 refine And.intro (fun n3=>?_) (fun n3=>?_)
 ·have n3 : f.testBit j = true:=by
   cases hbit : f.testBit j with
   | true=>rfl
   | false=>rw [hbit] at n3; simp at n3
  obtain rfl:=err 12 (by unfold failR; rw [if_neg n0,if_neg n1,if_neg n2]; exact if_pos n3) (by decide)
  conv=>whnf
  refine fM ?_;(conv=>whnf);refine ⟨?_,rfl⟩;conv=>whnf
  all_goals exact wk
 have n3 : ¬ f.testBit j = true:=by
  intro hbit; rw [hbit] at n3; simp at n3
 have hbl:=Nat.or_lt_two_pow (x:=f) (y:=2 ^ j) (n:=d.vars.toNat) (by omega) hj2
 obtain rfl : R = .tup [(settleR d (f ||| 2 ^ j) memo).av,.nilI]:=by
  rw [hR,show failR d ⟨f,memo⟩ j = (settleR d (f ||| 2 ^ j) memo,0) from by unfold failR; rw [if_neg n0,if_neg n1,if_neg n2]; exact if_neg n3]; rfl
 conv=>whnf
 refine ADraw.auto (by kernel_rfl) ?_;conv=>whnf
 refine ⟨by omega,?_⟩
 rw [shl_one (by omega)]
 conv=>whnf
 rw [or_nat (by omega) (by omega)]
 conv=>whnf
 refine ACallP.pure _ _ ?_ ⟨rfl,rfl⟩ (c_settle d (f ||| 2 ^ j) memo hbl hT hmo) ?_
 ·all_goals exact wk
 conv=>whnf
 refine fM ?_;(conv=>whnf);refine ⟨?_,rfl⟩;conv=>whnf
 all_goals exact wk

theorem c_Repair (d : Dyn) (s : St) (i : Int) (hd : DynC d) (R : AV) (hR : R = .tup [(repairR d s i).1.av,errAV (repairR d s i).2]) : FnH Tryz.prog 120 [d.av,s.av,.int .i64 i] [] R []:=by
 refine FnH.intro lay mixed Tryz.func120 (by kernel_rfl) rfl (by kernel_rfl) rfl fun hok=>?_
 conv=>whnf
 refine .pure _ _ ?_ ⟨rfl,?_⟩ (c_check d s hd _ rfl) fun _=>?_
 ·all_goals exact wk
 ·unfold errAV; split <;> rfl
 by_cases n0 : checkSR d s ≠ 0
 ·rw [errAV_ne n0]
  obtain rfl : R = .tup [z0.av,.ifc 111 (.int .i64 (checkSR d s))]:=by
   rw [hR,show repairR d s i = (z0,checkSR d s) from if_pos n0,errAV_ne n0]
  conv=>whnf
  refine fM ?_;(conv=>whnf);refine ⟨?_,rfl⟩;conv=>whnf
  all_goals exact wk
 have h0 : checkSR d s = 0:=by simpa using n0
 obtain ⟨hc,hs⟩:=checkSR_ok h0
 have hT:=checkR_ok hc
 rw [h0,errAV_zero]
 have hv:=hT.vars
 have hp:=pow_int (n:=d.vars.toNat) (by omega)
 have hpos:=hs.pos
 have hlt:=hs.lt
 have hmo:=hs.memoOk
 obtain ⟨f,hf⟩ : ∃ f : Nat,s.failed = f:=⟨s.failed.toNat,by omega⟩
 obtain ⟨fl,memo⟩:=s
 simp only at hf
 subst hf
 have hlt : (f : Int) < (2 ^ d.vars.toNat : Nat):=hlt
 have hmo : MemoOk d memo:=hmo
 have err : ∀ e : Int,repairR d ⟨f,memo⟩ i = (z0,e) → e ≠ 0 → R = .tup [z0.av,.ifc 111 (.int .i64 e)]:=by
  intro e he h0
  rw [hR,he,errAV_ne h0]
 conv=>whnf
 refine And.intro (fun n1=>?_) (fun n1=>?_)
 ·obtain rfl:=err 10 (by unfold repairR; rw [if_neg n0,if_pos n1]) (by decide)
  conv=>whnf
  refine fM ?_;(conv=>whnf);refine ⟨?_,rfl⟩;conv=>whnf
  all_goals exact wk
 conv=>whnf
 refine And.intro (fun n2=>?_) (fun n2=>?_)
 ·obtain rfl:=err 10 (by unfold repairR; rw [if_neg n0,if_neg n1,if_pos n2]) (by decide)
  conv=>whnf
  refine fM ?_;(conv=>whnf);refine ⟨?_,rfl⟩;conv=>whnf
  all_goals exact wk
 obtain ⟨j,rfl⟩ : ∃ j : Nat,i = j:=⟨i.toNat,by omega⟩
 have hj2 : 2 ^ j < 2 ^ d.vars.toNat:=Nat.pow_lt_pow_right (by omega) (by omega)
 conv=>whnf
 refine ⟨by omega,?_⟩
 have hb:=bit_test (a:=f) (i:=j) (by omega) (by omega)
 conv=>whnf
 rw [hb]
 refine And.intro (fun n3=>?_) (fun n3=>?_)
 ·have n3 : f.testBit j = false:=by
   cases hbit : f.testBit j with
   | false=>rfl
   | true=>rw [hbit] at n3; simp at n3
  obtain rfl:=err 12 (by unfold repairR; rw [if_neg n0,if_neg n1,if_neg n2]; exact if_pos n3) (by decide)
  conv=>whnf
  refine fM ?_;(conv=>whnf);refine ⟨?_,rfl⟩;conv=>whnf
  all_goals exact wk
 have n3 : ¬ f.testBit j = false:=by
  intro hbit; rw [hbit] at n3; simp at n3
 conv=>whnf
 refine .pure _ _ ?_ ⟨rfl,rfl⟩ (c_held d f memo j (by omega) hT hmo.len) fun _=>?_
 ·all_goals exact wk
 conv=>whnf
 refine And.intro (fun n4=>?_) (fun n4=>?_)
 ·obtain rfl:=err 12 (by unfold repairR; rw [if_neg n0,if_neg n1,if_neg n2]; exact (if_neg n3).trans (if_pos n4)) (by decide)
  conv=>whnf
  refine fM ?_;(conv=>whnf);refine ⟨?_,rfl⟩;conv=>whnf
  all_goals exact wk
 have hnl:=nandN_le (a:=f) (b:=2 ^ j) (by omega)
 obtain rfl : R = .tup [(settleR d (nandN f (2 ^ j)) memo).av,.nilI]:=by
  rw [hR,show repairR d ⟨f,memo⟩ j = (settleR d (nandN f (2 ^ j)) memo,0) from by unfold repairR; rw [if_neg n0,if_neg n1,if_neg n2]; exact (if_neg n3).trans (if_neg (by rw [show valuesR d (St.failed ⟨f,memo⟩).toNat (St.memo ⟨f,memo⟩) = valuesR d f memo from rfl,n4]; simp))]; rfl
 conv=>whnf
 refine ADraw.auto (by kernel_rfl) ?_;conv=>whnf
 refine ⟨by omega,?_⟩
 rw [shl_one (by omega)]
 conv=>whnf
 rw [andNot_nat (by omega)]
 conv=>whnf
 refine ACallP.pure _ _ ?_ ⟨rfl,rfl⟩ (c_settle d (nandN f (2 ^ j)) memo (by omega) hT hmo) ?_
 ·all_goals exact wk
 conv=>whnf
 refine fM ?_;(conv=>whnf);refine ⟨?_,rfl⟩;conv=>whnf
 all_goals exact wk

theorem getD_lt' {α : Type} {l : List α} {i : Nat} {x : α} (h : i < l.length) : l.getD i x = l[i]:=by
 rw [List.getD_eq_getElem?_getD,List.getElem?_eq_getElem h]; rfl

theorem aidxN' {α : Type} (d : α) {f : α → AV} {l : List α} {i : Nat} {n : Int} {k : AV → Prop} (hn : n = i) (h : i < l.length) (hk : k (f (l.getD i d))) : AIdx (l.map f) n k:=by
 subst hn
 refine aidx h ?_
 rw [getD_lt' h] at hk; exact hk

theorem c_trim (a : List Int) (hsz : a.length ≤ 1000000) : FnH Tryz.prog 247 [wL a] [] (wL (wd (val a))) []:=by
 refine FnH.intro lay mixed Tryz.func247 (by kernel_rfl) rfl (by kernel_rfl) rfl fun hok=>?_
 have hl : a.length ≤ 9223372036854775807:=by simpa [OkL,Ok,maxL] using hok.1.1
 have hw : Ws a:=Ws.ok hok.1.2
 conv=>whnf
 refine LoopE.of <| LoopSpec.inv (.refl _ _) (fun (n : Nat)=>n ≤ a.length ∧ ∀ k,n ≤ k → a.getD k 0 = 0) (fun (n : Nat)=>[(3,.int .i64 n)]) (fun _=>_) (fun (n : Nat)=>n) a.length ?_ (fun _=>rfl) ?_ ?_
 ·exact ⟨Nat.le_refl _,fun k hk=>by rw [List.getD_eq_getElem?_getD,List.getElem?_eq_none hk]; rfl⟩
 ·repeat' first|exact rfl|exact trivial|exact wR|exact lR _|apply aI
  simp
 rintro n ⟨hn,hz⟩ _
 have fin : (n = 0 ∨ a.getD (n - 1) 0 ≠ 0) → a.take n = wd (val a):=trim_eq hw hn hz
 conv=>whnf
 refine And.intro (fun h=>?_) (fun h=>?_)
 ·conv=>whnf
  refine zA ?_;conv=>whnf
  refine aidxN' 0 (i:=n - 1) (by omega) (by omega) ?_
  conv=>whnf
  refine And.intro (fun h0=>?_) (fun h0=>?_)
  ·conv=>whnf
   refine zA ?_;conv=>whnf
   refine ⟨n - 1,?_,?_,?_⟩
   ·refine ⟨by omega,fun k hk=>?_⟩
    by_cases hkn : k = n - 1
    ·subst hkn; exact h0
    ·exact hz k (by omega)
   ·repeat' first|exact rfl|exact trivial|exact wR|exact lR _|apply aI
    omega
   ·omega
  ·have e:=fin (.inr h0)
   conv=>whnf
   refine And.intro (fun hh=>?_) (fun hh=>?_)
   ·exfalso; omega
   conv=>whnf
   refine ⟨⟨by omega,by omega,by simp; omega⟩,?_⟩
   have hcut : ((a.map (AV.int .u32)).drop (0 : Int).toNat).take ((n : Int).toNat - (0 : Int).toNat) = (wd (val a)).map (AV.int .u32):=by
    rw [← e]; simp [List.map_take]
   rw [hcut]
   have hll : (wd (val a)).length ≤ a.length:=by rw [← e]; simp; omega
   conv=>whnf
   refine .tok (by simp [maxL]; omega) (by simp; omega) ?_
   conv=>whnf
   refine fM ?_;(conv=>whnf);refine ⟨?_,rfl⟩;conv=>whnf
   exact ⟨rfl,leRL_of (by simp)⟩
 ·have e:=fin (.inl (by omega))
  conv=>whnf
  refine And.intro (fun hh=>?_) (fun hh=>by exfalso; omega)
  conv=>whnf
  refine fM ?_;(conv=>whnf);refine ⟨?_,rfl⟩;conv=>whnf
  rw [← e,show n = 0 by omega]
  rfl
def cmpN (a b : Nat) : Int:=if a < b then -1 else if b < a then 1 else 0

theorem val_lt_of_len {a b : List Int} (ha : Ws a) (hb : Ws b) (hp : Pl b) (h : a.length < b.length) : val a < val b:=by
 have h1:=val_lt ha
 have h2:=val_pos_of_len hp (by intro e; subst e; simp at h) hb
 have h3 : 4294967296 ^ a.length ≤ 4294967296 ^ (b.length - 1):=Nat.pow_le_pow_right (by omega) (by omega)
 omega

theorem val_lt_at {a b : List Int} (ha : Ws a) (hb : Ws b) {i : Nat} (h1 : i < a.length) (h2 : i < b.length) (hd : a.drop (i + 1) = b.drop (i + 1)) (h : a[i] < b[i]) : val a < val b:=by
 rw [val_take_drop i (by omega : i ≤ a.length),val_take_drop i (by omega : i ≤ b.length),List.drop_eq_getElem_cons h1,List.drop_eq_getElem_cons h2]
 simp only [val]
 rw [hd]
 have h3:=val_lt (ha.take i)
 have e : (a.take i).length = i:=by rw [List.length_take]; omega
 rw [e] at h3
 have h4:=ha.get h1
 have h5:=hb.get h2
 generalize 4294967296 * val (List.drop (i + 1) b) = w
 have : 4294967296 ^ i * (a[i].toNat + w + 1) ≤ 4294967296 ^ i * (b[i].toNat + w):=Nat.mul_le_mul_left _ (by omega)
 rw [Nat.mul_add _ _ 1] at this
 omega

theorem c_Cmp (a b : List Int) (ha : a.length ≤ 1000000) (hb : b.length ≤ 1000000) : FnH Tryz.prog 179 [wL a,wL b] [] (.int .i64 (cmpN (val a) (val b))) []:=by
 refine FnH.intro lay mixed Tryz.func179 (by kernel_rfl) rfl (by kernel_rfl) rfl fun hok=>?_
 have wa : Ws a:=Ws.ok hok.1.2
 have wb : Ws b:=Ws.ok hok.2.1.2
 have la:=wd_len_le wa
 have lb:=wd_len_le wb
 conv=>whnf
 refine .pure _ _ ?_ ⟨rfl,rfl⟩ (c_trim a ha) fun _=>?_
 ·exact leL_refl _
 conv=>whnf
 refine .pure _ _ ?_ ⟨rfl,rfl⟩ (c_trim b hb) fun _=>?_
 ·exact leL_refl _
 have e1:=val_wd (val a)
 have e2:=val_wd (val b)
 have pa:=wd_Pl (val a)
 have pb:=wd_Pl (val b)
 have ua:=wd_Ws (val a)
 have ub:=wd_Ws (val b)
 rw [← e1,← e2]
 rw [e1,e2]
 generalize hA : wd (val a) = A at *
 generalize hB : wd (val b) = B at *
 rw [← e1,← e2]
 conv=>whnf
 refine And.intro (fun h=>?_) (fun h=>?_)
 ·have h : A.length ≠ B.length:=by simp only [List.length_map] at h; omega
  conv=>whnf
  refine And.intro (fun h1=>?_) (fun h1=>?_)
  ·have h1 : A.length < B.length:=by simp only [List.length_map] at h1; omega
   conv=>whnf
   refine fM ?_;(conv=>whnf);refine ⟨?_,rfl⟩;conv=>whnf
   refine ⟨rfl,?_⟩
   rw [cmpN,if_pos (val_lt_of_len ua ub pb h1)]
  ·have h1 : B.length < A.length:=by simp only [List.length_map] at h1; omega
   have:=val_lt_of_len ub ua pa h1
   conv=>whnf
   refine fM ?_;(conv=>whnf);refine ⟨?_,rfl⟩;conv=>whnf
   refine ⟨rfl,?_⟩
   rw [cmpN,if_neg (by omega),if_pos this]
 have h : A.length = B.length:=by simp only [List.length_map] at h; omega
 conv=>whnf
 refine ⟨inr64 (by simp; omega) (by simp; omega),?_⟩
 conv=>whnf
 refine LoopE.of <| LoopSpec.inv (.refl _ _) (fun (n : Nat)=>n ≤ A.length ∧ A.drop n = B.drop n) (fun (n : Nat)=>[(5,.int .i64 ((n : Int) - 1))]) (fun _=>_) (fun (n : Nat)=>n) A.length ?_ (fun _=>rfl) ?_ ?_
 ·exact ⟨Nat.le_refl _,by rw [List.drop_length,h,List.drop_length]⟩
 ·repeat' first|exact rfl|exact trivial|exact wR|exact lR _|apply aI
  simp
 rintro n ⟨hn,hd⟩ _
 conv=>whnf
 refine And.intro (fun h0=>?_) (fun h0=>?_)
 ·have h1 : n - 1 < A.length:=by omega
  have h2 : n - 1 < B.length:=by omega
  conv=>whnf
  refine ADraw.auto (by kernel_rfl) ?_;conv=>whnf
  refine aidxN' 0 (i:=n - 1) (by omega) h1 ?_
  conv=>whnf
  refine aidxN' 0 (i:=n - 1) (by omega) h2 ?_
  rw [getD_lt' h1,getD_lt' h2]
  conv=>whnf
  have hd' : A.drop (n - 1 + 1) = B.drop (n - 1 + 1):=by rw [show n - 1 + 1 = n by omega]; exact hd
  refine And.intro (fun h3=>?_) (fun h3=>?_)
  ·conv=>whnf
   refine fM ?_;(conv=>whnf);refine ⟨?_,rfl⟩;conv=>whnf
   refine ⟨rfl,?_⟩
   rw [cmpN,if_pos (val_lt_at ua ub h1 h2 hd' h3)]
  conv=>whnf
  refine ADraw.auto (by kernel_rfl) ?_;conv=>whnf
  refine aidxN' 0 (i:=n - 1) (by omega) h1 ?_
  conv=>whnf
  refine aidxN' 0 (i:=n - 1) (by omega) h2 ?_
  rw [getD_lt' h1,getD_lt' h2]
  conv=>whnf
  refine And.intro (fun h4=>?_) (fun h4=>?_)
  ·have:=val_lt_at ub ua h2 h1 hd'.symm h4
   conv=>whnf
   refine fM ?_;(conv=>whnf);refine ⟨?_,rfl⟩;conv=>whnf
   refine ⟨rfl,?_⟩
   rw [cmpN,if_neg (by omega),if_pos this]
  conv=>whnf
  refine zA ?_;conv=>whnf
  refine ⟨n - 1,?_,?_,?_⟩
  ·refine ⟨by omega,?_⟩
   rw [List.drop_eq_getElem_cons h1,List.drop_eq_getElem_cons h2,hd']
   congr 1
   omega
  ·repeat' first|exact rfl|exact trivial|exact wR|exact lR _|apply aI
   omega
  ·omega
 ·have hn0 : n = 0:=by omega
  subst hn0
  have hAB : A = B:=by simpa using hd
  conv=>whnf
  refine fM ?_;(conv=>whnf);refine ⟨?_,rfl⟩;conv=>whnf
  refine ⟨rfl,?_⟩
  rw [cmpN,hAB,if_neg (by omega),if_neg (by omega)]

theorem c_natOf (n : Nat) (h : n < 2 ^ 63) : FnH Tryz.prog 277 [.int .i64 n] [] (wL (wd n)) []:=by
 refine FnH.intro lay mixed Tryz.func277 (by kernel_rfl) rfl (by kernel_rfl) rfl fun hok=>?_
 conv=>whnf
 refine And.intro (fun h0=>?_) (fun h0=>?_)
 ·have hn : n = 0:=by omega
  subst hn
  conv=>whnf
  refine fM ?_;(conv=>whnf);refine ⟨?_,rfl⟩;conv=>whnf
  rw [wd_zero]; rfl
 conv=>whnf
 refine ⟨by decide,?_⟩
 rw [shr_word rfl]
 conv=>whnf
 rw [wrapu32_mod,wrapu32_mod]
 have hw : Ws [((n % 4294967296 : Nat) : Int),((n / 4294967296 % 4294967296 : Nat) : Int)]:=Ws.cons (by omega) (Ws.cons (by omega) Ws.nil)
 have hv : val [((n % 4294967296 : Nat) : Int),((n / 4294967296 % 4294967296 : Nat) : Int)] = n:=by
  simp only [val]; omega
 have hc:=c_trim [((n % 4294967296 : Nat) : Int),((n / 4294967296 % 4294967296 : Nat) : Int)] (by simp)
 rw [hv] at hc
 refine .pure _ _ ?_ ⟨rfl,rfl⟩ hc fun _=>?_
 ·all_goals exact wk
 conv=>whnf
 refine fM ?_;(conv=>whnf);refine ⟨?_,rfl⟩;conv=>whnf
 all_goals exact wk

theorem digit_lt {r x b : Nat} (hr : r < b) (hx : x < 4294967296) : (r * 4294967296 + x) / b < 4294967296:=by
 rw [Nat.div_lt_iff_lt_mul (by omega)]
 have : (r + 1) * 4294967296 ≤ b * 4294967296:=Nat.mul_le_mul_right _ (by omega)
 rw [Nat.mul_comm 4294967296 b]
 omega

theorem c_small (a : List Int) (b : Nat) (hb : 0 < b ∧ b < 4294967296) (hsz : a.length ≤ 1000000) :
  FnH Tryz.prog 276 [wL a,.int .u32 b] [] (.tup [wL (wd (val a / b)),.int .u32 (val a % b : Nat)]) []:=by
 refine FnH.intro lay mixed Tryz.func276 (by kernel_rfl) rfl (by kernel_rfl) rfl fun hok=>?_
 have hw : Ws a:=Ws.ok hok.1.2
 conv=>whnf
 refine ⟨⟨by omega,by omega,by simp; omega,by simp; omega⟩,.wr ?_⟩
 conv=>whnf
 refine ⟨inr64 (by simp; omega) (by simp; omega),?_⟩
 conv=>whnf
 refine LoopE.of <| LoopSpec.inv (.refl _ _) (fun x : Nat × List Int=>x.1 ≤ a.length ∧ x.2.length = a.length ∧ Ws x.2 ∧ val (x.2.drop x.1) = val (a.drop x.1) / b)
  (fun | (n,_)=>[(8,.int .i64 ((n : Int) - 1)),(7,.int .u64 (val (a.drop n) % b : Nat))]) (fun | (_,out)=>[(0,.arr 1 a.length (out.map (.int .u32)))]) (fun x=>x.1) (a.length,List.replicate a.length 0) ?_ (fun _=>rfl) ?_ ?_
 ·refine ⟨Nat.le_refl _,by simp,?_,?_⟩
  ·intro x hx
   rw [List.mem_replicate] at hx
   rw [hx.2]; omega
  ·simp [val]
 ·refine ⟨?_,.mk ?_ ⟨by simp,trivial⟩⟩
  ·repeat' first|exact rfl|exact trivial|exact wR|exact lR _|apply aI
   ·simp
   ·simp [val]
  ·repeat' first|exact rfl|exact trivial|exact wR|exact lR _|apply aI
   ·simp
   ·exact leRL_of (by simp)
 rintro ⟨n,out⟩ ⟨hn,ho,hwo,hv⟩ _
 simp only at hn ho hwo hv
 have hr : val (a.drop n) % b < b:=Nat.mod_lt _ hb.1
 conv=>whnf
 refine And.intro (fun h=>?_) (fun h=>?_)
 ·have h1 : n - 1 < a.length:=by omega
  have hx:=hw.get h1
  have hda : a.drop (n - 1) = a[n - 1] :: a.drop n:=by
   rw [List.drop_eq_getElem_cons h1]; congr 2; omega
  obtain ⟨x,hxx⟩ : ∃ x : Nat,a[n - 1] = x:=⟨(a[n - 1]).toNat,by omega⟩
  have hval : val (a.drop (n - 1)) = x + 4294967296 * val (a.drop n):=by rw [hda,val,hxx]; simp
  generalize hV : val (a.drop n) = V at *
  generalize hR : V % b = r at *
  have hq : (r * 4294967296 + x) / b < 4294967296:=digit_lt hr (by omega)
  have key : x + 4294967296 * V = b * (4294967296 * (V / b)) + (r * 4294967296 + x):=by
   have:=Nat.div_add_mod V b
   rw [hR] at this
   conv=>lhs; rw [← this]
   rw [Nat.mul_add,← Nat.mul_assoc,Nat.mul_comm 4294967296 b,Nat.mul_assoc]; omega
  have kdiv : (x + 4294967296 * V) / b = (r * 4294967296 + x) / b + 4294967296 * (V / b):=by
   rw [key,Nat.mul_add_div hb.1]; omega
  have kmod : (x + 4294967296 * V) % b = (r * 4294967296 + x) % b:=by
   rw [key,Nat.mul_add_mod]
  obtain ⟨q,hqq⟩ : ∃ q,(r * 4294967296 + x) / b = q:=⟨_,rfl⟩
  obtain ⟨m,hmm⟩ : ∃ m,(r * 4294967296 + x) % b = m:=⟨_,rfl⟩
  have hm : m < b:=hmm ▸ Nat.mod_lt _ hb.1
  rw [hqq] at hq kdiv
  rw [hmm] at kmod
  have hdo : (out.set (n - 1) (q : Int)).drop (n - 1) = (q : Int) :: out.drop n:=by
   rw [List.drop_eq_getElem_cons (by rw [List.length_set]; omega)]
   rw [List.getElem_set_self]
   congr 1
   rw [List.drop_set_of_lt (by omega)]
   congr 1; omega
  conv=>whnf
  refine ⟨by decide,?_⟩
  rw [shl_word (by omega)]
  conv=>whnf
  refine aidxN' 0 (i:=n - 1) (by omega) h1 ?_
  rw [getD_lt' h1,hxx]
  conv=>whnf
  rw [wrap_u64 (n:=(x : Int)) (by omega) (by omega),or_word (by omega) (by omega)]
  conv=>whnf
  rw [wrap_u64 (n:=(b : Int)) (by omega) (by omega)]
  refine ⟨by omega,?_⟩
  rw [tdiv_nat,hqq]
  conv=>whnf
  rw [wrap_u64 (n:=(q : Int)) (by omega) (by omega),wrap_u32 (n:=(q : Int)) (by omega) (by omega)]
  refine ⟨⟨by omega,by simp; omega⟩,?_⟩
  conv=>whnf
  refine ⟨by simp; omega,rfl,?_⟩
  conv=>whnf
  rw [wrap_u64 (n:=(b : Int)) (by omega) (by omega)]
  refine ⟨by omega,?_⟩
  rw [tmod_nat,hmm]
  conv=>whnf
  refine zA ?_;conv=>whnf
  refine ⟨(n - 1,out.set (n - 1) q),?_,?_,?_⟩
  ·refine ⟨by show n - 1 ≤ a.length; omega,by simpa using ho,?_,?_⟩
   ·intro y hy
    rcases List.mem_or_eq_of_mem_set hy with hy | rfl
    ·exact hwo y hy
    ·omega
   ·show val ((out.set (n - 1) (q : Int)).drop (n - 1)) = val (a.drop (n - 1)) / b
    rw [hdo,val,hval,kdiv,hv]; simp
  ·refine ⟨?_,.mk ?_ ⟨by simp,trivial⟩⟩
   ·repeat' first|exact rfl|exact trivial|exact wR|exact lR _|apply aI
    ·omega
    ·rw [hval,kmod]
   ·repeat' first|exact rfl|exact trivial|exact wR|exact lR _|apply aI
    refine leRL_of ?_
    rw [List.map_set]
    simp [strip]
  ·show n - 1 < n
   omega
 ·have hn0 : n = 0:=by omega
  subst hn0
  simp only [List.drop_zero] at hv hr
  have hcc:=c_trim out (by omega)
  rw [hv] at hcc
  conv=>whnf
  refine .gen _ _ (FnH.frz 0 rfl rfl (by simp; omega) (FnH.ofPure hcc ?_ ⟨rfl,rfl⟩)) fun _=>?_
  ·repeat' first|exact rfl|exact trivial|exact wR|exact lR _|apply aI
   refine leRL_of ?_
   simp
   rw [List.take_of_length_le (by simp [ho])]
  conv=>whnf
  rw [List.drop_zero,wrap_u32 (by omega) (by omega)]
  refine fM ?_;(conv=>whnf);refine ⟨?_,rfl⟩;conv=>whnf
  all_goals exact wk

def DivC (x y : Nat) : Prop:=FnH Tryz.prog 248 [wL (wd x),wL (wd y)] [] (.tup [wL (wd (x / y)),wL (wd (x % y)),.nilI]) []

theorem wd_small {y : Nat} (h0 : y ≠ 0) (h : y < 4294967296) : wd y = [(y : Int)]:=by
 rw [wd_pos h0,show y / 4294967296 = 0 by omega,wd_zero,show y % 4294967296 = y by omega]

theorem div_small (x y : Nat) (hx : (wd x).length ≤ 1000000) (h0 : y ≠ 0) (hy : y < 4294967296) : DivC x y:=by
 unfold DivC
 have c1:=c_trim (wd x) hx
 rw [val_wd] at c1
 have hyl:=wd_small h0 hy
 have c2:=c_trim (wd y) (by rw [hyl]; simp)
 rw [val_wd] at c2
 have c3:=c_Cmp (wd x) (wd y) hx (by rw [hyl]; simp)
 rw [val_wd,val_wd] at c3
 refine FnH.intro lay mixed Tryz.func248 (by kernel_rfl) rfl (by kernel_rfl) rfl fun hok=>?_
 conv=>whnf
 refine .pure _ _ ?_ ⟨rfl,rfl⟩ c1 fun _=>?_
 ·exact leL_refl _
 conv=>whnf
 refine .pure _ _ ?_ ⟨rfl,rfl⟩ c2 fun _=>?_
 ·exact leL_refl _
 conv=>whnf
 refine And.intro (fun h=>?_) (fun _=>?_)
 ·exfalso
  rw [hyl] at h; simp at h
 conv=>whnf
 refine .pure _ _ ?_ ⟨rfl,rfl⟩ c3 fun _=>?_
 ·exact leL_refl _
 conv=>whnf
 refine And.intro (fun h=>?_) (fun h=>?_)
 ·have hlt : x < y:=by
   unfold cmpN at h
   split at h
   ·assumption
   ·split at h <;> omega
  conv=>whnf
  refine fM ?_;(conv=>whnf);refine ⟨?_,rfl⟩;conv=>whnf
  refine ⟨?_,?_,rfl,trivial⟩
  ·rw [Nat.div_eq_of_lt hlt,wd_zero]; rfl
  ·rw [Nat.mod_eq_of_lt hlt]; exact le0_refl _
 rw [hyl]
 conv=>whnf
 refine And.intro (fun _=>?_) (fun h=>?_)
 ·conv=>whnf
  refine ⟨⟨.int .u32 y,⟨by decide,rfl⟩,?_⟩⟩
  have c4:=c_small (wd x) y ⟨by omega,hy⟩ hx
  rw [val_wd] at c4
  conv=>whnf
  refine .pure _ _ ?_ ⟨rfl,rfl⟩ c4 fun _=>?_
  ·exact leL_refl _
  have hm : x % y < y:=Nat.mod_lt _ (by omega)
  conv=>whnf
  rw [wrap64 (n:=((x % y : Nat) : Int)) (by omega) (by omega)]
  refine .pure _ _ ?_ ⟨rfl,rfl⟩ (c_natOf (x % y) (by omega)) fun _=>?_
  ·exact leL_refl _
  conv=>whnf
  refine fM ?_;(conv=>whnf);refine ⟨?_,rfl⟩;conv=>whnf
  exact ⟨le0_refl _,leL_refl _⟩
 ·exfalso; simp at h

theorem wd_len_mono {x y : Nat} (h : x ≤ y) : (wd x).length ≤ (wd y).length:=by
 apply Classical.byContradiction
 intro hn
 have:=val_lt_of_len (wd_Ws y) (wd_Ws x) (wd_Pl x) (by omega)
 rw [val_wd,val_wd] at this
 omega

theorem c_Gcd (a b : List Int) (ha : a.length ≤ 1000000) (hb : b.length ≤ 1000000) (hd : ∀ x y,y ≠ 0 → x ≤ max (val a) (val b) → y ≤ max (val a) (val b) → DivC x y) :
  FnH Tryz.prog 180 [wL a,wL b] [] (wL (wd (Nat.gcd (val a) (val b)))) []:=by
 refine FnH.intro lay mixed Tryz.func180 (by kernel_rfl) rfl (by kernel_rfl) rfl fun hok=>?_
 have wa : Ws a:=Ws.ok hok.1.2
 have wb : Ws b:=Ws.ok hok.2.1.2
 conv=>whnf
 refine .pure _ _ ?_ ⟨rfl,rfl⟩ (c_trim a ha) fun _=>?_
 ·exact leL_refl _
 conv=>whnf
 refine .pure _ _ ?_ ⟨rfl,rfl⟩ (c_trim b hb) fun _=>?_
 ·exact leL_refl _
 conv=>whnf
 refine LoopE.of <| LoopSpec.inv (.refl _ _) (fun (x : Nat × Nat)=>x.1 ≤ max (val a) (val b) ∧ x.2 ≤ max (val a) (val b) ∧ Nat.gcd x.1 x.2 = Nat.gcd (val a) (val b)) (fun (x : Nat × Nat)=>[(0,wL (wd x.1)),(1,wL (wd x.2))]) (fun _=>_) (fun (x : Nat × Nat)=>x.2) (val a,val b) ?_ (fun _=>rfl) ?_ ?_
 ·exact ⟨Nat.le_max_left _ _,Nat.le_max_right _ _,rfl⟩
 ·all_goals exact wk
 rintro ⟨x,y⟩ ⟨h1,h2,h3⟩ _
 simp only at h1 h2 h3
 conv=>whnf
 refine And.intro (fun h=>?_) (fun h=>?_)
 ·have h0 : y ≠ 0:=by
   intro e; subst e
   rw [show ((x,0) : Nat × Nat).2 = 0 from rfl,wd_zero] at h
   simp at h
  conv=>whnf
  refine .pure _ _ ?_ ⟨rfl,rfl⟩ (hd x y h0 h1 h2) fun _=>?_
  ·exact leL_refl _
  have hm : x % y < y:=Nat.mod_lt _ (by omega)
  conv=>whnf
  refine ⟨(y,x % y),?_,?_,?_⟩
  ·refine ⟨h2,by show x % y ≤ _; omega,?_⟩
   show Nat.gcd y (x % y) = _
   rw [← h3,Nat.gcd_comm x y,Nat.gcd_rec y x]
   try exact Nat.gcd_comm _ _
  ·all_goals exact wk
  ·show x % y < y
   exact hm
 ·have h0 : y = 0:=by
   apply Classical.byContradiction
   intro hy
   apply h
   show (0 : Int) < ((wd y).map _).length
   rw [wd_pos hy]; simp
  subst h0
  conv=>whnf
  refine fM ?_;(conv=>whnf);refine ⟨?_,rfl⟩;conv=>whnf
  refine ⟨rfl,leRL_of ?_⟩
  rw [← h3,Nat.gcd_zero_right]

theorem c_one : FnH Tryz.prog 181 [] [] (wL [1]) []:=by
 refine FnH.intro lay mixed Tryz.func181 (by kernel_rfl) rfl (by kernel_rfl) rfl fun hok=>?_
 conv=>whnf
 refine fM ?_;(conv=>whnf);refine ⟨?_,rfl⟩;conv=>whnf
 all_goals exact wk

theorem c_plain (a : List Int) (ha : a.length ≤ 1000000) : FnH Tryz.prog 178 [wL a] [] (.bool (plainR a)) []:=by
 refine FnH.intro lay mixed Tryz.func178 (by kernel_rfl) rfl (by kernel_rfl) rfl fun hok=>?_
 conv=>whnf
 refine And.intro (fun h=>?_) (fun h=>?_)
 ·have h : 0 < a.length:=by simp only [List.length_map] at h; omega
  conv=>whnf
  refine ⟨inr64 (by simp; omega) (by simp; omega),?_⟩
  conv=>whnf
  refine aidxN' 0 (i:=a.length - 1) (by simp; omega) (by omega) ?_
  conv=>whnf
  refine fM ?_;(conv=>whnf);refine ⟨?_,rfl⟩;conv=>whnf
  have e : a.getD (a.length - 1) 0 = a.getLastD 0:=by
   rw [List.getLastD_eq_getLast?,List.getLast?_eq_getElem?,List.getD_eq_getElem?_getD]
  rw [e]
  have hne : a ≠ []:=List.length_pos_iff.1 h
  simp [plainR,hne]
 ·have h : a = []:=by
   apply List.eq_nil_of_length_eq_zero
   simp only [List.length_map] at h; omega
  subst h
  conv=>whnf
  refine fM ?_;(conv=>whnf);refine ⟨?_,rfl⟩;conv=>whnf
  rfl

theorem c_Valid (r : Rat) (h1 : r.num.length ≤ 1000000) (h2 : r.den.length ≤ 1000000) (hg : ¬ (r.num = [] ∧ r.den = []) → FnH Tryz.prog 180 [wL r.num,wL r.den] [] (wL (wd (Nat.gcd (val r.num) (val r.den)))) []) :
  FnH Tryz.prog 95 [r.av] [] (.bool (valid r)) []:=by
 refine FnH.intro lay mixed Tryz.func95 (by kernel_rfl) rfl (by kernel_rfl) rfl fun hok=>?_
 have hw1 : Ws r.num:=Ws.ok hok.1.2.1.2
 have hw2 : Ws r.den:=Ws.ok hok.1.2.2.1.2
 have lg : (wd (Nat.gcd (val r.num) (val r.den))).length ≤ 1000000:=by
  have l1:=wd_len_le hw1
  have l2:=wd_len_le hw2
  by_cases h0 : val r.num = 0
  ·rw [h0,Nat.gcd_zero_left]; omega
  ·have:=wd_len_mono (Nat.gcd_le_left (val r.den) (by omega : 0 < val r.num))
   omega
 have tail : ∀ {e : Env} {H : Heap} {k : AV → Heap → Prop},True:=fun {_ _ _}=>trivial
 clear tail
 have c1:=c_plain r.num h1
 have c2:=c_plain r.den h2
 have c3:=c_Cmp (wd (Nat.gcd (val r.num) (val r.den))) [1] lg (by simp)
 rw [val_wd] at c3
 have v1 : val [1] = 1:=rfl
 rw [v1] at c3
 have hcmp : (cmpN (Nat.gcd (val r.num) (val r.den)) 1 = 0) ↔ Nat.gcd (val r.num) (val r.den) = 1:=by
  unfold cmpN
  split
  ·omega
  ·split <;> omega
 conv=>whnf
 refine And.intro (fun n1=>?_) (fun n1=>?_)
 ·have n1 : r.num = []:=by
   apply List.eq_nil_of_length_eq_zero
   simpa using n1
  conv=>whnf
  refine And.intro (fun n2=>?_) (fun n2=>?_)
  ·have n2 : r.den = []:=by
    apply List.eq_nil_of_length_eq_zero
    simpa using n2
   conv=>whnf
   refine fM ?_;(conv=>whnf);refine ⟨?_,rfl⟩;conv=>whnf
   simp [valid,n1,n2]
  ·have n2 : ¬ r.den = []:=fun e=>n2 (by rw [e]; rfl)
   have hval : valid r = false:=by simp [valid,n1,n2,plainR]
   have p1 : plainR r.num = false:=by simp [n1,plainR]
   rw [hval]
   rw [p1] at c1
   conv=>whnf
   refine .pure _ _ ?_ ⟨rfl,rfl⟩ c1 fun _=>?_
   ·exact leL_refl _
   conv=>whnf
   refine And.intro (fun h=>?_) (fun h=>?_)
   ·cases h
   ·conv=>whnf
    refine fM ?_;(conv=>whnf);refine ⟨?_,rfl⟩;conv=>whnf
 ·have n1 : ¬ r.num = []:=fun e=>n1 (by rw [e]; rfl)
  have hgc:=hg (fun h=>n1 h.1)
  have hval : valid r = (plainR r.num && plainR r.den && decide (Nat.gcd (val r.num) (val r.den) = 1)):=by simp [valid,n1]
  rw [hval]
  conv=>whnf
  refine .pure _ _ ?_ ⟨rfl,rfl⟩ c1 fun _=>?_
  ·exact leL_refl _
  conv=>whnf
  refine And.intro (fun p1=>?_) (fun p1=>?_)
  ·conv=>whnf
   refine .pure _ _ ?_ ⟨rfl,rfl⟩ c2 fun _=>?_
   ·exact leL_refl _
   conv=>whnf
   refine And.intro (fun p2=>?_) (fun p2=>?_)
   ·conv=>whnf
    refine .pure _ _ ?_ ⟨rfl,rfl⟩ hgc fun _=>?_
    ·exact leL_refl _
    conv=>whnf
    refine .pure _ _ ?_ ⟨rfl,rfl⟩ c_one fun _=>?_
    ·exact leL_refl _
    conv=>whnf
    refine .pure _ _ ?_ ⟨rfl,rfl⟩ c3 fun _=>?_
    ·exact leL_refl _
    conv=>whnf
    refine fM ?_;(conv=>whnf);refine ⟨?_,rfl⟩;conv=>whnf
    rw [p1,p2]
    show _ ↔ _
    rw [hcmp]; simp
   ·conv=>whnf
    refine fM ?_;(conv=>whnf);refine ⟨?_,rfl⟩;conv=>whnf
    simp [p1,p2]
  ·conv=>whnf
   refine fM ?_;(conv=>whnf);refine ⟨?_,rfl⟩;conv=>whnf
   simp [p1]

theorem c_parts (r : Rat) (hv : FnH Tryz.prog 95 [r.av] [] (.bool (valid r)) []) :
  FnH Tryz.prog 182 [r.av] [] (if valid r = true ∧ r.num ≠ [] then .tup [.bool r.neg,wL r.num,wL r.den] else .tup [.bool false,wL [],wL [1]]) []:=by
 generalize hR : (if valid r = true ∧ r.num ≠ [] then AV.tup [.bool r.neg,wL r.num,wL r.den] else .tup [.bool false,wL [],wL [1]]) = R
 refine FnH.intro lay mixed Tryz.func182 (by kernel_rfl) rfl (by kernel_rfl) rfl fun hok=>?_
 conv=>whnf
 refine .pure _ _ ?_ ⟨rfl,rfl⟩ hv fun _=>?_
 ·exact leL_refl _
 conv=>whnf
 refine And.intro (fun p1=>?_) (fun p1=>?_)
 ·have p1 : valid r = false:=by simpa using p1
  rw [if_neg (by simp [p1])] at hR
  subst hR
  conv=>whnf
  refine .pure _ _ ?_ ⟨rfl,rfl⟩ c_one fun _=>?_
  ·exact leL_refl _
  conv=>whnf
  refine fM ?_;(conv=>whnf);refine ⟨?_,rfl⟩;conv=>whnf
  all_goals exact wk
 ·have p1 : valid r = true:=by simpa using p1
  conv=>whnf
  refine And.intro (fun p2=>?_) (fun p2=>?_)
  ·have p2 : r.num = []:=by
    apply List.eq_nil_of_length_eq_zero
    simpa using p2
   rw [if_neg (by simp [p2])] at hR
   subst hR
   conv=>whnf
   refine .pure _ _ ?_ ⟨rfl,rfl⟩ c_one fun _=>?_
   ·exact leL_refl _
   conv=>whnf
   refine fM ?_;(conv=>whnf);refine ⟨?_,rfl⟩;conv=>whnf
   all_goals exact wk
  ·have p2 : ¬ r.num = []:=fun e=>p2 (by rw [e]; rfl)
   rw [if_pos ⟨p1,p2⟩] at hR
   subst hR
   conv=>whnf
   refine ADraw.auto (by kernel_rfl) ?_;conv=>whnf
   refine fM ?_;(conv=>whnf);refine ⟨?_,rfl⟩;conv=>whnf
   all_goals exact wk

theorem c_Sign (r : Rat) (hv : FnH Tryz.prog 95 [r.av] [] (.bool (valid r)) []) : FnH Tryz.prog 96 [r.av] [] (.int .i64 (sign r)) []:=by
 have hp:=c_parts r hv
 refine FnH.intro lay mixed Tryz.func96 (by kernel_rfl) rfl (by kernel_rfl) rfl fun hok=>?_
 by_cases h : valid r = true ∧ r.num ≠ []
 ·rw [if_pos h] at hp
  conv=>whnf
  refine .pure _ _ ?_ ⟨rfl,rfl⟩ hp fun _=>?_
  ·exact leL_refl _
  conv=>whnf
  refine And.intro (fun p2=>?_) (fun _=>?_)
  ·exfalso
   apply h.2
   apply List.eq_nil_of_length_eq_zero
   simpa using p2
  conv=>whnf
  refine And.intro (fun p2=>?_) (fun p2=>?_)
  ·conv=>whnf
   refine fM ?_;(conv=>whnf);refine ⟨?_,rfl⟩;conv=>whnf
   refine ⟨rfl,?_⟩
   rw [sign,if_pos h,if_pos p2]
  ·conv=>whnf
   refine fM ?_;(conv=>whnf);refine ⟨?_,rfl⟩;conv=>whnf
   refine ⟨rfl,?_⟩
   rw [sign,if_pos h,if_neg (by rw [p2]; simp)]
 ·rw [if_neg h] at hp
  conv=>whnf
  refine .pure _ _ ?_ ⟨rfl,rfl⟩ hp fun _=>?_
  ·exact leL_refl _
  conv=>whnf
  refine And.intro (fun _=>?_) (fun p2=>by exfalso; exact p2 rfl)
  conv=>whnf
  refine fM ?_;(conv=>whnf);refine ⟨?_,rfl⟩;conv=>whnf
  refine ⟨rfl,?_⟩
  rw [sign,if_neg h]

theorem c_Prob (r : Rat) (h1 : r.num.length ≤ 1000000) (h2 : r.den.length ≤ 1000000) (hv : FnH Tryz.prog 95 [r.av] [] (.bool (valid r)) []) : FnH Tryz.prog 143 [r.av] [] (.bool (prob r)) []:=by
 have hc:=c_Cmp r.num r.den h1 h2
 have hle : (cmpN (val r.num) (val r.den) ≤ 0) ↔ val r.num ≤ val r.den:=by
  unfold cmpN
  split
  ·omega
  ·split <;> omega
 refine FnH.intro lay mixed Tryz.func143 (by kernel_rfl) rfl (by kernel_rfl) rfl fun hok=>?_
 conv=>whnf
 refine .pure _ _ ?_ ⟨rfl,rfl⟩ hv fun _=>?_
 ·exact leL_refl _
 conv=>whnf
 refine And.intro (fun p1=>?_) (fun p1=>?_)
 ·conv=>whnf
  refine And.intro (fun p2=>?_) (fun p2=>?_)
  ·conv=>whnf
   refine .pure _ _ ?_ ⟨rfl,rfl⟩ hc fun _=>?_
   ·exact leL_refl _
   conv=>whnf
   refine fM ?_;(conv=>whnf);refine ⟨?_,rfl⟩;conv=>whnf
   show _ ↔ _
   rw [hle]
   simp only [prob,p1,p2,Bool.true_and,decide_eq_true_eq]
  ·conv=>whnf
   refine fM ?_;(conv=>whnf);refine ⟨?_,rfl⟩;conv=>whnf
   simp [prob,p1,p2]
 ·conv=>whnf
  refine fM ?_;(conv=>whnf);refine ⟨?_,rfl⟩;conv=>whnf
  simp [prob,p1]

theorem ratC (r : Rat) (h1 : r.num.length ≤ 1000000) (h2 : r.den.length ≤ 1000000) (hd : ¬ (r.num = [] ∧ r.den = []) → ∀ x y,y ≠ 0 → x ≤ max (val r.num) (val r.den) → y ≤ max (val r.num) (val r.den) → DivC x y) : RatC r:=by
 have hv:=c_Valid r h1 h2 fun h=>c_Gcd r.num r.den h1 h2 (hd h)
 exact ⟨hv,c_Sign r hv,c_Prob r h1 h2 hv⟩

theorem ratC_zero : RatC ⟨false,[],[]⟩:=ratC _ (by simp) (by simp) fun h=>absurd ⟨rfl,rfl⟩ h

theorem ratC_one : RatC ⟨false,[1],[1]⟩:=by
 refine ratC _ (by simp) (by simp) fun _ x y hy hx hy'=>?_
 have e : max (val [1]) (val [1]) = 1:=by decide
 rw [e] at hx hy'
 exact div_small x y (by have:=wd_len_mono hx; rw [wd_small (y:=1) (by omega) (by omega)] at this; simp at this; omega) hy (by omega)

theorem c_ints (a b : List Int) : FnH Tryz.prog 79 [iL a,iL b] [] (.bool (decide (a = b))) []:=by
 refine FnH.intro lay mixed Tryz.func79 (by kernel_rfl) rfl (by kernel_rfl) rfl fun hok=>?_
 have ha : a.length ≤ 9223372036854775807:=by simpa [OkL,Ok,maxL] using hok.1.1
 conv=>whnf
 refine And.intro (fun h=>?_) (fun h=>?_)
 ·have h : a ≠ b:=by intro e; apply h; rw [e]
  conv=>whnf
  refine fM ?_;(conv=>whnf);refine ⟨?_,rfl⟩;conv=>whnf
  simpa using h
 have h : a.length = b.length:=by simp only [List.length_map] at h; omega
 conv=>whnf
 refine LoopE.of <| LoopSpec.inv (.refl _ _) (fun (i : Nat)=>i ≤ a.length ∧ (a = b ↔ a.drop i = b.drop i)) (fun (i : Nat)=>[(13,.int .i64 i)]) (fun _=>_) (fun (i : Nat)=>a.length - i) 0 ?_ (fun _=>rfl) ?_ ?_
 ·exact ⟨Nat.zero_le _,by simp⟩
 ·all_goals exact wk
 rintro i ⟨hi,hx⟩ _
 conv=>whnf
 refine And.intro (fun h1=>?_) (fun h1=>?_)
 ·have hlt : i < a.length:=by simpa using h1
  have hlt2 : i < b.length:=by omega
  rw [List.drop_eq_getElem_cons hlt,List.drop_eq_getElem_cons hlt2] at hx
  conv=>whnf
  refine ADraw.auto (by kernel_rfl) ?_;conv=>whnf
  refine aidx hlt ?_
  conv=>whnf
  refine aidx hlt2 ?_
  conv=>whnf
  refine And.intro (fun h2=>?_) (fun h2=>?_)
  ·conv=>whnf
   refine fM ?_;(conv=>whnf);refine ⟨?_,rfl⟩;conv=>whnf
   have : ¬ a = b:=fun e=>h2 (by simpa using (List.cons.inj (hx.1 e)).1)
   simpa using this
  ·have h2 : a[i] = b[i]:=by simpa using h2
   conv=>whnf
   refine zA ?_;conv=>whnf
   refine ⟨i + 1,?_,?_,?_⟩
   ·refine ⟨hlt,?_⟩
    rw [hx,h2]
    exact ⟨fun e=>(List.cons.inj e).2,fun e=>by rw [e]⟩
   ·all_goals exact wk
   ·omega
 ·have hil : i = a.length:=by have : ¬ i < a.length:=by simpa using h1
                              omega
  conv=>whnf
  refine fM ?_;(conv=>whnf);refine ⟨?_,rfl⟩;conv=>whnf
  have : a = b:=hx.2 (by rw [hil,List.drop_length,h,List.drop_length])
  simpa using this

def exD : Dyn:=⟨2,[⟨6,0,[0,1],⟨false,[],[]⟩⟩],2,[⟨false,[1],[1]⟩,⟨false,[1],[1]⟩],[⟨false,[1],[1]⟩,⟨false,[1],[1]⟩]⟩

theorem exC : DynC exD:=by
 refine ⟨?_,?_,?_⟩
 ·intro x hx; simp [exD] at hx; subst hx; exact ratC_one
 ·intro x hx; simp [exD] at hx; subst hx; exact ratC_one
 ·intro x hx; simp [exD] at hx; subst hx; exact ratC_zero

def OneC : Prop:=FnH Tryz.prog 149 [.int .i64 1] [] (Rat.av ⟨false,[1],[1]⟩) []

theorem c_Example (h1 : OneC) : FnH Tryz.prog 78 [] [] exD.av []:=by
 refine FnH.intro lay mixed Tryz.func78 (by kernel_rfl) rfl (by kernel_rfl) rfl fun hok=>?_
 conv=>whnf
 refine .pure _ _ ?_ ⟨rfl,rfl⟩ h1 fun _=>?_
 ·exact leL_refl _
 conv=>whnf
 refine .pure _ _ ?_ ⟨rfl,rfl⟩ h1 fun _=>?_
 ·exact leL_refl _
 conv=>whnf
 refine fM ?_;(conv=>whnf);refine ⟨?_,rfl⟩;conv=>whnf
 all_goals exact wk

def fstep (d : Dyn) (s : St × Int) (i : Int) : St × Int:=if s.2 = 0 then failR d s.1 i else s

def faultsR (d : Dyn) (l : List Int) : St × Int:=l.foldl (fstep d) (startR d)

theorem bE (n : Nat) (e : Int) : bndB n (errAV e) = true:=by unfold errAV; split <;> rfl
theorem bS (n : Nat) (s : St) (e : Int) : bndB n (AV.tup [s.av,errAV e]) = true:=by unfold errAV; split <;> rfl

theorem c_faults (d : Dyn) (l : List Int) (hd : DynC d) : FnH Tryz.prog 77 [d.av,iL l] [] (.tup [(faultsR d l).1.av,.bool (decide ((faultsR d l).2 = 0))]) []:=by
 refine FnH.intro lay mixed Tryz.func77 (by kernel_rfl) rfl (by kernel_rfl) rfl fun hok=>?_
 have hl : l.length ≤ 9223372036854775807:=by simpa [OkL,Ok,maxL] using hok.2.1.1
 conv=>whnf
 refine .pure _ _ ?_ ⟨rfl,bS _ _ _⟩ (c_Start d hd _ rfl) fun _=>?_
 ·exact leL_refl _
 conv=>whnf
 refine LoopE.of <| LoopSpec.inv (.refl _ _) (fun i : Nat=>i ≤ l.length) (fun i=>[(17,.int .i64 i),(7,errAV ((l.take i).foldl (fstep d) (startR d)).2)])
  (fun i=>[(2,.box ((l.take i).foldl (fstep d) (startR d)).1.av),(1,.box (.ag [.int .i64 0,.nils])),(0,.box d.av)]) (fun i=>l.length - i) 0 ?_ (fun _=>rfl) ?_ ?_
 ·exact Nat.zero_le _
 ·refine ⟨?_,.mk ?_ ⟨by simp,by simp,by simp,trivial⟩⟩
  ·repeat' first|exact rfl|exact trivial|exact wR|exact lR _|apply aI
   ·exact le_refl _
   ·exact bE _ _
  ·all_goals exact wk
 intro i hi _
 conv=>whnf
 refine And.intro (fun h=>?_) (fun h=>?_)
 ·have hlt : i < l.length:=by simpa using h
  have hs:=foldl_take (f:=fstep d) (s:=startR d) hlt
  generalize (l.take i).foldl (fstep d) (startR d) = s at *
  obtain ⟨s,e⟩:=s
  conv=>whnf
  refine aidx hlt ?_
  generalize l[i] = a at *
  conv=>whnf
  by_cases h0 : e = 0
  ·subst h0
   rw [fstep,if_pos rfl] at hs
   rw [errAV_zero]
   conv=>whnf
   refine .pure _ _ ?_ ⟨rfl,bS _ _ _⟩ (c_Fail d s a hd _ rfl) fun _=>?_
   ·exact leL_refl _
   conv=>whnf
   refine zA ?_;conv=>whnf
   refine ⟨i + 1,?_,?_,?_⟩
   ·exact hlt
   ·rw [hs]
    refine ⟨?_,.mk ?_ ⟨by simp,by simp,by simp,trivial⟩⟩
    ·repeat' first|exact rfl|exact trivial|exact wR|exact lR _|apply aI
     ·exact le_refl _
     ·exact bE _ _
    ·all_goals exact wk
   ·omega
  ·rw [fstep,if_neg h0] at hs
   rw [show errAV (s,e).2 = _ from errAV_ne h0]
   conv=>whnf
   refine zA ?_;conv=>whnf
   refine ⟨i + 1,?_,?_,?_⟩
   ·exact hlt
   ·rw [hs]
    refine ⟨?_,.mk ?_ ⟨by simp,by simp,by simp,trivial⟩⟩
    ·repeat' first|exact rfl|exact trivial|exact wR|exact lR _|apply aI
     ·rw [show errAV (s,e).2 = _ from errAV_ne h0]
      exact le_refl _
     ·exact bE _ _
    ·all_goals exact wk
   ·omega
 ·have hlt : i = l.length:=by have : ¬ i < l.length:=by simpa using h
                              omega
  subst hlt
  rw [List.take_length]
  have e0 : l.foldl (fstep d) (startR d) = faultsR d l:=rfl
  rw [e0]
  generalize faultsR d l = s
  obtain ⟨s,e⟩:=s
  by_cases h0 : e = 0
  ·subst h0
   rw [show errAV (s,(0 : Int)).2 = _ from errAV_zero]
   conv=>whnf
   refine ADraw.auto (by kernel_rfl) ?_;conv=>whnf
   refine fM ?_;(conv=>whnf);refine ⟨?_,rfl⟩;conv=>whnf
   all_goals exact wk
  ·rw [show errAV (s,e).2 = _ from errAV_ne h0]
   conv=>whnf
   refine ADraw.auto (by kernel_rfl) ?_;conv=>whnf
   refine fM ?_;(conv=>whnf);refine ⟨?_,rfl⟩;conv=>whnf
   repeat' first|exact rfl|exact trivial|exact wR|exact lR _|apply aI
   show decide ((s,e).2 = 0) = false
   simp [h0]

theorem ex1 : faultsR exD [0,1] = (⟨3,[0]⟩,0):=by decide
theorem ex2 : faultsR exD [1,0] = (⟨3,[1]⟩,0):=by decide
theorem ex3 : topR exD ⟨3,[0]⟩ = (true,0):=by decide
theorem ex4 : topR exD ⟨3,[1]⟩ = (false,0):=by decide

theorem c_awake (h1 : OneC) : FnH Tryz.prog 27 [] [] (.bool true) []:=by
 have c1 : FnH Tryz.prog 77 [exD.av,iL [0,1]] [] (.tup [(⟨3,[0]⟩ : St).av,.tt]) []:=by
  have:=c_faults exD [0,1] exC
  rw [ex1] at this; exact this.weak ⟨le0_refl _,rfl,trivial⟩
 have c2 : FnH Tryz.prog 77 [exD.av,iL [1,0]] [] (.tup [(⟨3,[1]⟩ : St).av,.tt]) []:=by
  have:=c_faults exD [1,0] exC
  rw [ex2] at this; exact this.weak ⟨le0_refl _,rfl,trivial⟩
 have c3 : FnH Tryz.prog 45 [exD.av,(⟨3,[0]⟩ : St).av] [] (.tup [.tt,.nilI]) []:=by
  have:=c_Top exD ⟨3,[0]⟩ exC _ rfl
  rw [ex3] at this; exact this.weak ⟨rfl,rfl,trivial⟩
 have c4 : FnH Tryz.prog 45 [exD.av,(⟨3,[1]⟩ : St).av] [] (.tup [.ff,.nilI]) []:=by
  have:=c_Top exD ⟨3,[1]⟩ exC _ rfl
  rw [ex4] at this; exact this.weak ⟨rfl,rfl,trivial⟩
 have c5 : FnH Tryz.prog 79 [iL [1],iL [1]] [] .tt []:=(c_ints [1] [1]).weak rfl
 have c0:=c_Example h1
 have bX : bndB 0 exD.av = true:=rfl
 generalize exD.av = X at *
 refine FnH.intro lay mixed Tryz.func27 (by kernel_rfl) rfl (by kernel_rfl) rfl fun hok=>?_
 conv=>whnf
 refine .pure _ _ ?_ ⟨rfl,bX⟩ c0 fun _=>?_
 ·exact leL_refl _
 conv=>whnf
 refine .pure _ _ ?_ ⟨by simp only [bndBL,bX]; rfl,rfl⟩ c1 fun _=>?_
 ·repeat' first|exact rfl|exact trivial|exact wR|exact lR _|apply aI
  exact le0_refl _
 conv=>whnf
 refine .pure _ _ ?_ ⟨rfl,bX⟩ c0 fun _=>?_
 ·exact leL_refl _
 conv=>whnf
 refine .pure _ _ ?_ ⟨by simp only [bndBL,bX]; rfl,rfl⟩ c2 fun _=>?_
 ·repeat' first|exact rfl|exact trivial|exact wR|exact lR _|apply aI
  exact le0_refl _
 conv=>whnf
 refine ADraw.auto (by kernel_rfl) ?_;conv=>whnf
 refine ACallP.pure _ _ ?_ ⟨rfl,bX⟩ c0 ?_
 ·exact leL_refl _
 conv=>whnf
 refine ACallP.pure _ _ ?_ ⟨by simp only [bndBL,bX]; rfl,rfl⟩ c3 ?_
 ·exact leL_refl _
 conv=>whnf
 refine ADraw.auto (by kernel_rfl) ?_;conv=>whnf
 refine ACallP.pure _ _ ?_ ⟨rfl,bX⟩ c0 ?_
 ·exact leL_refl _
 conv=>whnf
 refine ACallP.pure _ _ ?_ ⟨by simp only [bndBL,bX]; rfl,rfl⟩ c4 ?_
 ·exact leL_refl _
 conv=>whnf
 refine .pure _ _ ?_ ⟨rfl,rfl⟩ c5 fun _=>?_
 ·all_goals exact wk
 conv=>whnf
 refine fM ?_;(conv=>whnf);refine ⟨?_,rfl⟩;conv=>whnf
end S
