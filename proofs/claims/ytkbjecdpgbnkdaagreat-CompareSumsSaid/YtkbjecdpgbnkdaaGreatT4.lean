/-
  Contracts of functions of the program, over the logic of the texts before. Nothing is assumed.
-/
import Derived.Test.YtkbjecdpgbnkdaaGreatT3
import Derived.Test.YtkbjecdpgbnkdaaGreatRows

open Go Go.AL Go.Proofs
namespace S
def L : Lay:=.node (.node (.node (.node (.node (.node (.node (.node (.node .nil 1 ⟨.prim,8,.nilf,none,false⟩ .nil) 2 ⟨.int .i64,8,.int .i64 0,none,false⟩ .nil) 3 ⟨.int .i64,8,.int .i64 0,none,false⟩ (.node (.node .nil 4 ⟨.bool,1,.ff,none,false⟩ .nil) 5 ⟨.int .u8,1,.int .u8 0,none,false⟩ .nil)) 6 ⟨.int .u8,1,.int .u8 0,none,false⟩ (.node (.node (.node .nil 7 ⟨.struct [(0,1,2),(1,1,3),(2,1,4),(3,1,6)],24,.ag [.int .i64 0,.int .i64 0,.ff,.int .u8 0],none,false⟩ .nil) 8 ⟨.struct [(0,1,2),(1,1,3),(2,1,4),(3,1,6)],24,.ag [.int .i64 0,.int .i64 0,.ff,.int .u8 0],none,false⟩ .nil) 9 ⟨.str,16,.str [],none,false⟩ (.node .nil 10 ⟨.str,16,.str [],none,false⟩ .nil))) 11 ⟨.str,16,.str [],none,false⟩ (.node (.node (.node (.node .nil 12 ⟨.int .u64,8,.int .u64 0,none,false⟩ .nil) 13 ⟨.struct [(0,1,9),(1,1,12)],24,.ag [.str [],.int .u64 0],none,false⟩ .nil) 14 ⟨.struct [(0,1,9),(1,1,12)],24,.ag [.str [],.int .u64 0],none,false⟩ (.node .nil 15 ⟨.ptr 344,8,.nilp,none,false⟩ .nil)) 16 ⟨.ptr 347,8,.nilp,none,false⟩ (.node (.node (.node .nil 17 ⟨.ptr 356,8,.nilp,none,false⟩ .nil) 18 ⟨.struct [(0,1,17)],8,.ag [.nilp],none,false⟩ .nil) 19 ⟨.struct [(0,1,17)],8,.ag [.nilp],none,false⟩ (.node .nil 20 ⟨.iface,16,.nilI,none,false⟩ .nil)))) 21 ⟨.int .i32,4,.int .i32 0,none,false⟩ (.node (.node (.node (.node (.node .nil 22 ⟨.slice 212,24,.nils,none,false⟩ .nil) 23 ⟨.struct [(0,1,3),(1,1,22),(2,1,3)],40,.ag [.int .i64 0,.nils,.int .i64 0],none,false⟩ .nil) 24 ⟨.struct [(0,1,3),(1,1,22),(2,1,3)],40,.ag [.int .i64 0,.nils,.int .i64 0],none,false⟩ (.node .nil 25 ⟨.prim,8,.nilf,none,false⟩ .nil)) 26 ⟨.prim,8,.nilf,none,false⟩ (.node (.node (.node .nil 27 ⟨.struct [(0,1,4),(1,1,3),(2,1,3),(3,1,3),(4,1,3)],40,.ag [.ff,.int .i64 0,.int .i64 0,.int .i64 0,.int .i64 0],none,true⟩ .nil) 28 ⟨.struct [(0,1,4),(1,1,3),(2,1,3),(3,1,3),(4,1,3)],40,.ag [.ff,.int .i64 0,.int .i64 0,.int .i64 0,.int .i64 0],none,true⟩ .nil) 29 ⟨.iface,16,.nilI,none,false⟩ (.node .nil 30 ⟨.iface,16,.nilI,none,false⟩ .nil))) 32 ⟨.prim,8,.nilf,none,false⟩ (.node (.node (.node (.node .nil 33 ⟨.prim,8,.nilf,none,false⟩ .nil) 34 ⟨.prim,8,.nilf,none,false⟩ .nil) 35 ⟨.prim,8,.nilf,none,false⟩ (.node .nil 36 ⟨.slice 39,24,.nils,none,false⟩ .nil)) 37 ⟨.slice 238,24,.nils,none,false⟩ (.node (.node (.node .nil 38 ⟨.struct [(0,1,4),(1,1,37),(2,1,37)],56,.ag [.ff,.nils,.nils],none,false⟩ .nil) 39 ⟨.struct [(0,1,4),(1,1,37),(2,1,37)],56,.ag [.ff,.nils,.nils],none,false⟩ .nil) 41 ⟨.prim,8,.nilf,none,false⟩ (.node .nil 42 ⟨.prim,8,.nilf,none,false⟩ .nil))))) 43 ⟨.prim,8,.nilf,none,false⟩ (.node (.node (.node (.node (.node (.node .nil 44 ⟨.prim,8,.nilf,none,false⟩ .nil) 45 ⟨.prim,8,.nilf,none,false⟩ .nil) 47 ⟨.prim,8,.nilf,none,false⟩ (.node .nil 48 ⟨.prim,8,.nilf,none,false⟩ .nil)) 49 ⟨.prim,8,.nilf,none,false⟩ (.node (.node (.node .nil 50 ⟨.prim,8,.nilf,none,false⟩ .nil) 51 ⟨.slice 142,24,.nils,none,false⟩ .nil) 52 ⟨.slice 247,24,.nils,none,false⟩ (.node .nil 53 ⟨.slice 163,24,.nils,none,false⟩ .nil))) 54 ⟨.slice 144,24,.nils,none,false⟩ (.node (.node (.node (.node .nil 55 ⟨.slice 147,24,.nils,none,false⟩ .nil) 56 ⟨.slice 150,24,.nils,none,false⟩ .nil) 57 ⟨.struct [(0,1,9),(1,1,9),(2,1,51),(3,1,52),(4,1,53),(5,1,54),(6,1,55),(7,1,56)],176,.ag [.str [],.str [],.nils,.nils,.nils,.nils,.nils,.nils],none,false⟩ (.node .nil 58 ⟨.struct [(0,1,9),(1,1,9),(2,1,51),(3,1,52),(4,1,53),(5,1,54),(6,1,55),(7,1,56)],176,.ag [.str [],.str [],.nils,.nils,.nils,.nils,.nils,.nils],none,false⟩ .nil)) 59 ⟨.prim,8,.nilf,none,false⟩ (.node (.node (.node .nil 60 ⟨.slice 168,24,.nils,none,false⟩ .nil) 61 ⟨.struct [(0,1,3),(1,1,60),(2,1,3),(3,1,36),(4,1,36)],88,.ag [.int .i64 0,.nils,.int .i64 0,.nils,.nils],none,false⟩ .nil) 62 ⟨.struct [(0,1,3),(1,1,60),(2,1,3),(3,1,36),(4,1,36)],88,.ag [.int .i64 0,.nils,.int .i64 0,.nils,.nils],none,false⟩ (.node .nil 64 ⟨.prim,8,.nilf,none,false⟩ .nil)))) 65 ⟨.prim,8,.nilf,none,false⟩ (.node (.node (.node (.node (.node .nil 66 ⟨.prim,8,.nilf,none,false⟩ .nil) 68 ⟨.prim,8,.nilf,none,false⟩ .nil) 69 ⟨.prim,8,.nilf,none,false⟩ (.node .nil 71 ⟨.prim,8,.nilf,none,false⟩ .nil)) 72 ⟨.slice 74,24,.nils,none,false⟩ (.node (.node (.node .nil 73 ⟨.struct [(0,1,3),(1,1,72),(2,1,3)],40,.ag [.int .i64 0,.nils,.int .i64 0],none,false⟩ .nil) 74 ⟨.struct [(0,1,3),(1,1,72),(2,1,3)],40,.ag [.int .i64 0,.nils,.int .i64 0],none,false⟩ .nil) 76 ⟨.prim,8,.nilf,none,false⟩ (.node .nil 77 ⟨.prim,8,.nilf,none,false⟩ .nil))) 78 ⟨.prim,8,.nilf,none,false⟩ (.node (.node (.node (.node .nil 79 ⟨.prim,8,.nilf,none,false⟩ .nil) 80 ⟨.prim,8,.nilf,none,false⟩ .nil) 81 ⟨.prim,8,.nilf,none,false⟩ (.node .nil 82 ⟨.slice 5,24,.nils,none,false⟩ .nil)) 83 ⟨.prim,8,.nilf,none,false⟩ (.node (.node (.node .nil 85 ⟨.prim,8,.nilf,none,false⟩ .nil) 86 ⟨.slice 3,24,.nils,none,false⟩ .nil) 87 ⟨.struct [(0,1,3),(1,1,86)],32,.ag [.int .i64 0,.nils],none,false⟩ (.node .nil 88 ⟨.struct [(0,1,3),(1,1,86)],32,.ag [.int .i64 0,.nils],none,false⟩ .nil)))))) 90 ⟨.prim,8,.nilf,none,false⟩ (.node (.node (.node (.node (.node (.node (.node .nil 91 ⟨.prim,8,.nilf,none,false⟩ .nil) 92 ⟨.prim,8,.nilf,none,false⟩ .nil) 94 ⟨.prim,8,.nilf,none,false⟩ (.node (.node .nil 95 ⟨.prim,8,.nilf,none,false⟩ .nil) 96 ⟨.prim,8,.nilf,none,false⟩ .nil)) 98 ⟨.prim,8,.nilf,none,false⟩ (.node (.node (.node .nil 99 ⟨.ptr 218,8,.nilp,none,false⟩ .nil) 100 ⟨.prim,8,.nilf,none,false⟩ .nil) 101 ⟨.arr 2 3,16,.ag [.int .i64 0,.int .i64 0],none,true⟩ (.node .nil 102 ⟨.slice 24,24,.nils,none,false⟩ .nil))) 103 ⟨.slice 226,24,.nils,none,false⟩ (.node (.node (.node (.node .nil 104 ⟨.struct [(0,1,86),(1,1,103),(2,1,3)],56,.ag [.nils,.nils,.int .i64 0],none,false⟩ .nil) 105 ⟨.struct [(0,1,86),(1,1,103),(2,1,3)],56,.ag [.nils,.nils,.int .i64 0],none,false⟩ .nil) 107 ⟨.prim,8,.nilf,none,false⟩ (.node .nil 108 ⟨.prim,8,.nilf,none,false⟩ .nil)) 109 ⟨.prim,8,.nilf,none,false⟩ (.node (.node (.node .nil 110 ⟨.prim,8,.nilf,none,false⟩ .nil) 111 ⟨.int .i64,8,.int .i64 0,none,false⟩ .nil) 112 ⟨.prim,8,.nilf,none,false⟩ (.node .nil 113 ⟨.prim,8,.nilf,none,false⟩ .nil)))) 114 ⟨.prim,8,.nilf,none,false⟩ (.node (.node (.node (.node (.node .nil 116 ⟨.slice 4,24,.nils,none,false⟩ .nil) 117 ⟨.prim,8,.nilf,none,false⟩ .nil) 118 ⟨.prim,8,.nilf,none,false⟩ (.node .nil 119 ⟨.prim,8,.nilf,none,false⟩ .nil)) 120 ⟨.prim,8,.nilf,none,false⟩ (.node (.node (.node .nil 121 ⟨.prim,8,.nilf,none,false⟩ .nil) 122 ⟨.prim,8,.nilf,none,false⟩ .nil) 123 ⟨.prim,8,.nilf,none,false⟩ (.node .nil 124 ⟨.prim,8,.nilf,none,false⟩ .nil))) 126 ⟨.prim,8,.nilf,none,false⟩ (.node (.node (.node (.node .nil 127 ⟨.prim,8,.nilf,none,false⟩ .nil) 128 ⟨.prim,8,.nilf,none,false⟩ .nil) 129 ⟨.prim,8,.nilf,none,false⟩ (.node .nil 131 ⟨.prim,8,.nilf,none,false⟩ .nil)) 132 ⟨.prim,8,.nilf,none,false⟩ (.node (.node (.node .nil 133 ⟨.struct [(0,1,3),(1,1,3)],16,.ag [.int .i64 0,.int .i64 0],none,true⟩ .nil) 134 ⟨.struct [(0,1,3),(1,1,3)],16,.ag [.int .i64 0,.int .i64 0],none,true⟩ .nil) 135 ⟨.prim,8,.nilf,none,false⟩ (.node .nil 136 ⟨.prim,8,.nilf,none,false⟩ .nil))))) 137 ⟨.prim,8,.nilf,none,false⟩ (.node (.node (.node (.node (.node (.node .nil 138 ⟨.prim,8,.nilf,none,false⟩ .nil) 139 ⟨.prim,8,.nilf,none,false⟩ .nil) 140 ⟨.prim,8,.nilf,none,false⟩ (.node .nil 141 ⟨.struct [(0,1,9),(1,3,39),(4,3,39),(7,3,39),(10,1,3)],192,.ag [.str [],.ag [.ff,.nils,.nils],.ag [.ff,.nils,.nils],.ag [.ff,.nils,.nils],.int .i64 0],none,false⟩ .nil)) 142 ⟨.struct [(0,1,9),(1,3,39),(4,3,39),(7,3,39),(10,1,3)],192,.ag [.str [],.ag [.ff,.nils,.nils],.ag [.ff,.nils,.nils],.ag [.ff,.nils,.nils],.int .i64 0],none,false⟩ (.node (.node (.node .nil 143 ⟨.struct [(0,1,9),(1,1,9),(2,1,53)],56,.ag [.str [],.str [],.nils],none,false⟩ .nil) 144 ⟨.struct [(0,1,9),(1,1,9),(2,1,53)],56,.ag [.str [],.str [],.nils],none,false⟩ .nil) 145 ⟨.slice 9,24,.nils,none,false⟩ (.node .nil 146 ⟨.struct [(0,1,9),(1,1,3),(2,1,145),(3,1,36)],72,.ag [.str [],.int .i64 0,.nils,.nils],none,false⟩ .nil))) 147 ⟨.struct [(0,1,9),(1,1,3),(2,1,145),(3,1,36)],72,.ag [.str [],.int .i64 0,.nils,.nils],none,false⟩ (.node (.node (.node (.node .nil 148 ⟨.slice 152,24,.nils,none,false⟩ .nil) 149 ⟨.struct [(0,1,9),(1,1,9),(2,1,148)],56,.ag [.str [],.str [],.nils],none,false⟩ .nil) 150 ⟨.struct [(0,1,9),(1,1,9),(2,1,148)],56,.ag [.str [],.str [],.nils],none,false⟩ (.node .nil 151 ⟨.struct [(0,1,9),(1,3,39)],72,.ag [.str [],.ag [.ff,.nils,.nils]],none,false⟩ .nil)) 152 ⟨.struct [(0,1,9),(1,3,39)],72,.ag [.str [],.ag [.ff,.nils,.nils]],none,false⟩ (.node (.node (.node .nil 153 ⟨.ptr 156,8,.nilp,none,false⟩ .nil) 154 ⟨.map 159 3,8,.nilm,(some (.ag [.int .i64 0,.int .i64 0,.int .i64 0])),false⟩ .nil) 155 ⟨.struct [(0,8,58),(8,5,62),(13,1,154)],272,.ag [.ag [.str [],.str [],.nils,.nils,.nils,.nils,.nils,.nils],.ag [.int .i64 0,.nils,.int .i64 0,.nils,.nils],.nilm],none,false⟩ (.node .nil 156 ⟨.struct [(0,8,58),(8,5,62),(13,1,154)],272,.ag [.ag [.str [],.str [],.nils,.nils,.nils,.nils,.nils,.nils],.ag [.int .i64 0,.nils,.int .i64 0,.nils,.nils],.nilm],none,false⟩ .nil)))) 157 ⟨.prim,8,.nilf,none,false⟩ (.node (.node (.node (.node (.node .nil 158 ⟨.struct [(0,1,3),(1,1,3),(2,1,3)],24,.ag [.int .i64 0,.int .i64 0,.int .i64 0],none,true⟩ .nil) 159 ⟨.struct [(0,1,3),(1,1,3),(2,1,3)],24,.ag [.int .i64 0,.int .i64 0,.int .i64 0],none,true⟩ .nil) 160 ⟨.prim,8,.nilf,none,false⟩ (.node .nil 161 ⟨.prim,8,.nilf,none,false⟩ .nil)) 162 ⟨.struct [(0,1,9),(1,1,3),(2,1,3),(3,1,145),(4,3,39)],112,.ag [.str [],.int .i64 0,.int .i64 0,.nils,.ag [.ff,.nils,.nils]],none,false⟩ (.node (.node (.node .nil 163 ⟨.struct [(0,1,9),(1,1,3),(2,1,3),(3,1,145),(4,3,39)],112,.ag [.str [],.int .i64 0,.int .i64 0,.nils,.ag [.ff,.nils,.nils]],none,false⟩ .nil) 164 ⟨.prim,8,.nilf,none,false⟩ .nil) 165 ⟨.prim,8,.nilf,none,false⟩ (.node .nil 166 ⟨.prim,8,.nilf,none,false⟩ .nil))) 167 ⟨.struct [(0,1,3),(1,1,3),(2,1,86),(3,3,39)],96,.ag [.int .i64 0,.int .i64 0,.nils,.ag [.ff,.nils,.nils]],none,false⟩ (.node (.node (.node (.node .nil 168 ⟨.struct [(0,1,3),(1,1,3),(2,1,86),(3,3,39)],96,.ag [.int .i64 0,.int .i64 0,.nils,.ag [.ff,.nils,.nils]],none,false⟩ .nil) 169 ⟨.slice 264,24,.nils,none,false⟩ .nil) 170 ⟨.struct [(0,5,62),(5,1,169),(6,1,86)],136,.ag [.ag [.int .i64 0,.nils,.int .i64 0,.nils,.nils],.nils,.nils],none,false⟩ (.node .nil 171 ⟨.struct [(0,5,62),(5,1,169),(6,1,86)],136,.ag [.ag [.int .i64 0,.nils,.int .i64 0,.nils,.nils],.nils,.nils],none,false⟩ .nil)) 173 ⟨.prim,8,.nilf,none,false⟩ (.node (.node (.node .nil 174 ⟨.slice 36,24,.nils,none,false⟩ .nil) 175 ⟨.prim,8,.nilf,none,false⟩ .nil) 176 ⟨.prim,8,.nilf,none,false⟩ (.node .nil 178 ⟨.prim,8,.nilf,none,false⟩ .nil))))))) 179 ⟨.ptr 181,8,.nilp,none,false⟩ (.node (.node (.node (.node (.node (.node (.node (.node .nil 180 ⟨.struct [(0,3,24),(3,3,24),(6,1,86),(7,1,3)],112,.ag [.ag [.int .i64 0,.nils,.int .i64 0],.ag [.int .i64 0,.nils,.int .i64 0],.nils,.int .i64 0],none,false⟩ .nil) 181 ⟨.struct [(0,3,24),(3,3,24),(6,1,86),(7,1,3)],112,.ag [.ag [.int .i64 0,.nils,.int .i64 0],.ag [.int .i64 0,.nils,.int .i64 0],.nils,.int .i64 0],none,false⟩ .nil) 183 ⟨.prim,8,.nilf,none,false⟩ (.node (.node .nil 184 ⟨.prim,8,.nilf,none,false⟩ .nil) 185 ⟨.prim,8,.nilf,none,false⟩ .nil)) 186 ⟨.slice 190,24,.nils,none,false⟩ (.node (.node (.node .nil 188 ⟨.prim,8,.nilf,none,false⟩ .nil) 189 ⟨.struct [(0,2,134),(2,1,3)],24,.ag [.ag [.int .i64 0,.int .i64 0],.int .i64 0],none,false⟩ .nil) 190 ⟨.struct [(0,2,134),(2,1,3)],24,.ag [.ag [.int .i64 0,.int .i64 0],.int .i64 0],none,false⟩ (.node .nil 192 ⟨.prim,8,.nilf,none,false⟩ .nil))) 194 ⟨.prim,8,.nilf,none,false⟩ (.node (.node (.node (.node .nil 196 ⟨.prim,8,.nilf,none,false⟩ .nil) 197 ⟨.prim,8,.nilf,none,false⟩ .nil) 198 ⟨.prim,8,.nilf,none,false⟩ (.node .nil 199 ⟨.prim,8,.nilf,none,false⟩ .nil)) 201 ⟨.prim,8,.nilf,none,false⟩ (.node (.node (.node .nil 202 ⟨.prim,8,.nilf,none,false⟩ .nil) 203 ⟨.prim,8,.nilf,none,false⟩ .nil) 205 ⟨.prim,8,.nilf,none,false⟩ (.node .nil 206 ⟨.prim,8,.nilf,none,false⟩ .nil)))) 207 ⟨.prim,8,.nilf,none,false⟩ (.node (.node (.node (.node (.node .nil 208 ⟨.prim,8,.nilf,none,false⟩ .nil) 209 ⟨.prim,8,.nilf,none,false⟩ .nil) 210 ⟨.prim,8,.nilf,none,false⟩ (.node .nil 211 ⟨.struct [(0,1,3),(1,1,3),(2,1,86)],40,.ag [.int .i64 0,.int .i64 0,.nils],none,false⟩ .nil)) 212 ⟨.struct [(0,1,3),(1,1,3),(2,1,86)],40,.ag [.int .i64 0,.int .i64 0,.nils],none,false⟩ (.node (.node (.node .nil 214 ⟨.prim,8,.nilf,none,false⟩ .nil) 215 ⟨.map 226 3,8,.nilm,(some (.ag [.int .i64 0,.int .i64 0,.int .i64 0])),false⟩ .nil) 216 ⟨.map 264 3,8,.nilm,(some (.ag [.int .i64 0,.int .i64 0,.int .i64 0])),false⟩ (.node .nil 217 ⟨.struct [(0,1,86),(1,1,86),(2,1,103),(3,1,215),(4,1,216)],88,.ag [.nils,.nils,.nils,.nilm,.nilm],none,false⟩ .nil))) 218 ⟨.struct [(0,1,86),(1,1,86),(2,1,103),(3,1,215),(4,1,216)],88,.ag [.nils,.nils,.nils,.nilm,.nilm],none,false⟩ (.node (.node (.node (.node .nil 220 ⟨.prim,8,.nilf,none,false⟩ .nil) 221 ⟨.prim,8,.nilf,none,false⟩ .nil) 222 ⟨.prim,8,.nilf,none,false⟩ (.node .nil 223 ⟨.prim,8,.nilf,none,false⟩ .nil)) 224 ⟨.prim,8,.nilf,none,false⟩ (.node (.node (.node .nil 225 ⟨.struct [(0,1,3),(1,1,3),(2,1,3)],24,.ag [.int .i64 0,.int .i64 0,.int .i64 0],none,true⟩ .nil) 226 ⟨.struct [(0,1,3),(1,1,3),(2,1,3)],24,.ag [.int .i64 0,.int .i64 0,.int .i64 0],none,true⟩ .nil) 227 ⟨.prim,8,.nilf,none,false⟩ (.node .nil 228 ⟨.map 3 4,8,.nilm,(some (.int .i64 0)),false⟩ .nil))))) 229 ⟨.prim,8,.nilf,none,false⟩ (.node (.node (.node (.node (.node (.node .nil 230 ⟨.prim,8,.nilf,none,false⟩ .nil) 231 ⟨.map 3 3,8,.nilm,(some (.int .i64 0)),false⟩ .nil) 233 ⟨.prim,8,.nilf,none,false⟩ (.node .nil 234 ⟨.prim,8,.nilf,none,false⟩ .nil)) 235 ⟨.prim,8,.nilf,none,false⟩ (.node (.node (.node .nil 236 ⟨.prim,8,.nilf,none,false⟩ .nil) 237 ⟨.prim,8,.nilf,none,false⟩ .nil) 238 ⟨.int .u32,4,.int .u32 0,none,false⟩ (.node .nil 239 ⟨.int .u64,8,.int .u64 0,none,false⟩ .nil))) 240 ⟨.prim,8,.nilf,none,false⟩ (.node (.node (.node (.node .nil 241 ⟨.int .u64,8,.int .u64 0,none,false⟩ .nil) 242 ⟨.prim,8,.nilf,none,false⟩ .nil) 243 ⟨.prim,8,.nilf,none,false⟩ (.node .nil 245 ⟨.prim,8,.nilf,none,false⟩ .nil)) 246 ⟨.struct [(0,1,9),(1,1,4)],24,.ag [.str [],.ff],none,true⟩ (.node (.node (.node .nil 247 ⟨.struct [(0,1,9),(1,1,4)],24,.ag [.str [],.ff],none,true⟩ .nil) 248 ⟨.prim,8,.nilf,none,false⟩ .nil) 249 ⟨.prim,8,.nilf,none,false⟩ (.node .nil 250 ⟨.prim,8,.nilf,none,false⟩ .nil)))) 251 ⟨.prim,8,.nilf,none,false⟩ (.node (.node (.node (.node (.node .nil 252 ⟨.prim,8,.nilf,none,false⟩ .nil) 253 ⟨.prim,8,.nilf,none,false⟩ .nil) 254 ⟨.prim,8,.nilf,none,false⟩ (.node .nil 255 ⟨.prim,8,.nilf,none,false⟩ .nil)) 256 ⟨.prim,8,.nilf,none,false⟩ (.node (.node (.node .nil 257 ⟨.prim,8,.nilf,none,false⟩ .nil) 258 ⟨.prim,8,.nilf,none,false⟩ .nil) 259 ⟨.prim,8,.nilf,none,false⟩ (.node .nil 260 ⟨.slice 86,24,.nils,none,false⟩ .nil))) 261 ⟨.prim,8,.nilf,none,false⟩ (.node (.node (.node (.node .nil 263 ⟨.prim,8,.nilf,none,false⟩ .nil) 264 ⟨.arr 3 3,24,.ag [.int .i64 0,.int .i64 0,.int .i64 0],none,true⟩ .nil) 265 ⟨.prim,8,.nilf,none,false⟩ (.node .nil 266 ⟨.prim,8,.nilf,none,false⟩ .nil)) 267 ⟨.prim,8,.nilf,none,false⟩ (.node (.node (.node .nil 268 ⟨.prim,8,.nilf,none,false⟩ .nil) 269 ⟨.prim,8,.nilf,none,false⟩ .nil) 270 ⟨.prim,8,.nilf,none,false⟩ (.node .nil 271 ⟨.prim,8,.nilf,none,false⟩ .nil)))))) 272 ⟨.prim,8,.nilf,none,false⟩ (.node (.node (.node (.node (.node (.node (.node .nil 273 ⟨.prim,8,.nilf,none,false⟩ .nil) 274 ⟨.prim,8,.nilf,none,false⟩ .nil) 275 ⟨.prim,8,.nilf,none,false⟩ (.node (.node .nil 276 ⟨.prim,8,.nilf,none,false⟩ .nil) 277 ⟨.prim,8,.nilf,none,false⟩ .nil)) 278 ⟨.prim,8,.nilf,none,false⟩ (.node (.node (.node .nil 279 ⟨.prim,8,.nilf,none,false⟩ .nil) 280 ⟨.prim,8,.nilf,none,false⟩ .nil) 281 ⟨.prim,8,.nilf,none,false⟩ (.node .nil 282 ⟨.prim,8,.nilf,none,false⟩ .nil))) 283 ⟨.prim,8,.nilf,none,false⟩ (.node (.node (.node (.node .nil 284 ⟨.prim,8,.nilf,none,false⟩ .nil) 285 ⟨.prim,8,.nilf,none,false⟩ .nil) 286 ⟨.prim,8,.nilf,none,false⟩ (.node .nil 287 ⟨.prim,8,.nilf,none,false⟩ .nil)) 288 ⟨.map 291 3,8,.nilm,(some (.ag [.int .i64 0,.int .i64 0,.int .i64 0])),false⟩ (.node (.node (.node .nil 289 ⟨.prim,8,.nilf,none,false⟩ .nil) 290 ⟨.struct [(0,1,3),(1,1,3),(2,1,3)],24,.ag [.int .i64 0,.int .i64 0,.int .i64 0],none,true⟩ .nil) 291 ⟨.struct [(0,1,3),(1,1,3),(2,1,3)],24,.ag [.int .i64 0,.int .i64 0,.int .i64 0],none,true⟩ (.node .nil 292 ⟨.prim,8,.nilf,none,false⟩ .nil)))) 294 ⟨.prim,8,.nilf,none,false⟩ (.node (.node (.node (.node (.node .nil 295 ⟨.ptr 298,8,.nilp,none,false⟩ .nil) 296 ⟨.map 326 3,8,.nilm,(some (.ag [.int .i64 0,.int .i64 0,.int .i64 0])),false⟩ .nil) 297 ⟨.struct [(0,8,58),(8,3,24),(11,1,296)],224,.ag [.ag [.str [],.str [],.nils,.nils,.nils,.nils,.nils,.nils],.ag [.int .i64 0,.nils,.int .i64 0],.nilm],none,false⟩ (.node .nil 298 ⟨.struct [(0,8,58),(8,3,24),(11,1,296)],224,.ag [.ag [.str [],.str [],.nils,.nils,.nils,.nils,.nils,.nils],.ag [.int .i64 0,.nils,.int .i64 0],.nilm],none,false⟩ .nil)) 299 ⟨.prim,8,.nilf,none,false⟩ (.node (.node (.node .nil 300 ⟨.prim,8,.nilf,none,false⟩ .nil) 301 ⟨.prim,8,.nilf,none,false⟩ .nil) 302 ⟨.prim,8,.nilf,none,false⟩ (.node .nil 303 ⟨.prim,8,.nilf,none,false⟩ .nil))) 304 ⟨.ptr 306,8,.nilp,none,false⟩ (.node (.node (.node (.node .nil 305 ⟨.struct [(0,3,24),(3,1,86),(4,1,116)],88,.ag [.ag [.int .i64 0,.nils,.int .i64 0],.nils,.nils],none,false⟩ .nil) 306 ⟨.struct [(0,3,24),(3,1,86),(4,1,116)],88,.ag [.ag [.int .i64 0,.nils,.int .i64 0],.nils,.nils],none,false⟩ .nil) 307 ⟨.prim,8,.nilf,none,false⟩ (.node .nil 308 ⟨.prim,8,.nilf,none,false⟩ .nil)) 309 ⟨.prim,8,.nilf,none,false⟩ (.node (.node (.node .nil 310 ⟨.prim,8,.nilf,none,false⟩ .nil) 311 ⟨.prim,8,.nilf,none,false⟩ .nil) 312 ⟨.prim,8,.nilf,none,false⟩ (.node .nil 313 ⟨.prim,8,.nilf,none,false⟩ .nil))))) 315 ⟨.prim,8,.nilf,none,false⟩ (.node (.node (.node (.node (.node (.node .nil 316 ⟨.prim,8,.nilf,none,false⟩ .nil) 318 ⟨.prim,8,.nilf,none,false⟩ .nil) 319 ⟨.struct [(0,1,3),(1,1,3)],16,.ag [.int .i64 0,.int .i64 0],none,true⟩ (.node .nil 320 ⟨.struct [(0,1,3),(1,1,3)],16,.ag [.int .i64 0,.int .i64 0],none,true⟩ .nil)) 321 ⟨.prim,8,.nilf,none,false⟩ (.node (.node (.node .nil 322 ⟨.prim,8,.nilf,none,false⟩ .nil) 323 ⟨.prim,8,.nilf,none,false⟩ .nil) 324 ⟨.prim,8,.nilf,none,false⟩ (.node .nil 325 ⟨.struct [(0,1,3),(1,1,3),(2,1,3)],24,.ag [.int .i64 0,.int .i64 0,.int .i64 0],none,true⟩ .nil))) 326 ⟨.struct [(0,1,3),(1,1,3),(2,1,3)],24,.ag [.int .i64 0,.int .i64 0,.int .i64 0],none,true⟩ (.node (.node (.node (.node .nil 327 ⟨.prim,8,.nilf,none,false⟩ .nil) 328 ⟨.prim,8,.nilf,none,false⟩ .nil) 329 ⟨.prim,8,.nilf,none,false⟩ (.node .nil 330 ⟨.prim,8,.nilf,none,false⟩ .nil)) 331 ⟨.prim,8,.nilf,none,false⟩ (.node (.node (.node .nil 333 ⟨.prim,8,.nilf,none,false⟩ .nil) 334 ⟨.prim,8,.nilf,none,false⟩ .nil) 335 ⟨.prim,8,.nilf,none,false⟩ (.node .nil 336 ⟨.prim,8,.nilf,none,false⟩ .nil)))) 337 ⟨.ptr 320,8,.nilp,none,false⟩ (.node (.node (.node (.node (.node .nil 338 ⟨.prim,8,.nilf,none,false⟩ .nil) 339 ⟨.prim,8,.nilf,none,false⟩ .nil) 340 ⟨.prim,8,.nilf,none,false⟩ (.node .nil 341 ⟨.prim,8,.nilf,none,false⟩ .nil)) 342 ⟨.prim,8,.nilf,none,false⟩ (.node (.node (.node .nil 343 ⟨.struct [(0,1,17),(1,1,17),(2,1,17),(3,1,9)],40,.ag [.nilp,.nilp,.nilp,.str []],none,false⟩ .nil) 344 ⟨.struct [(0,1,17),(1,1,17),(2,1,17),(3,1,9)],40,.ag [.nilp,.nilp,.nilp,.str []],none,false⟩ .nil) 345 ⟨.arr 0 16,0,.ag [],none,false⟩ (.node .nil 346 ⟨.struct [(0,0,345)],0,.ag [.ag []],none,false⟩ .nil))) 347 ⟨.struct [(0,0,345)],0,.ag [.ag []],none,false⟩ (.node (.node (.node (.node .nil 348 ⟨.prim,8,.nilf,none,false⟩ .nil) 349 ⟨.int .u8,1,.int .u8 0,none,false⟩ .nil) 350 ⟨.int .u8,1,.int .u8 0,none,false⟩ (.node .nil 351 ⟨.prim,8,.nilf,none,false⟩ .nil)) 352 ⟨.ptr 5,8,.nilp,none,false⟩ (.node (.node (.node .nil 353 ⟨.int .i32,4,.int .i32 0,none,false⟩ .nil) 354 ⟨.int .i32,4,.int .i32 0,none,false⟩ .nil) 355 ⟨.struct [(0,1,12),(1,1,12),(2,1,238),(3,1,349),(4,1,5),(5,1,5),(6,1,350),(7,1,351),(8,1,352),(9,1,353),(10,1,354)],48,.ag [.int .u64 0,.int .u64 0,.int .u32 0,.int .u8 0,.int .u8 0,.int .u8 0,.int .u8 0,.nilf,.nilp,.int .i32 0,.int .i32 0],none,false⟩ (.node .nil 356 ⟨.struct [(0,1,12),(1,1,12),(2,1,238),(3,1,349),(4,1,5),(5,1,5),(6,1,350),(7,1,351),(8,1,352),(9,1,353),(10,1,354)],48,.ag [.int .u64 0,.int .u64 0,.int .u32 0,.int .u8 0,.int .u8 0,.int .u8 0,.int .u8 0,.nilf,.nilp,.int .i32 0,.int .i32 0],none,false⟩ .nil)))))))
theorem lay : LayOk Tryz.prog L:=layB_sound (by kernel_rfl)
theorem mixed : Tryz.prog.follows .mixedOrders = true:=by kernel_rfl

abbrev iL (l : List Int) : AV:=.sl 1 (l.map (.int .i64)) .no
abbrev wL (l : List Int) : AV:=.sl 1 (l.map (.int .u32)) .no
structure Rat where
 neg : Bool
 num : List Int
 den : List Int
 deriving DecidableEq,Inhabited

abbrev Rat.av (r : Rat) : AV:=.ag [.bool r.neg,wL r.num,wL r.den]

structure Gate where
 kind : Int
 k : Int
 args : List Int
 dorm : Rat
 deriving DecidableEq,Inhabited

structure Dyn where
 vars : Int
 gates : List Gate
 top : Int
 fail : List Rat
 repair : List Rat
 deriving DecidableEq,Inhabited

structure St where
 failed : Int
 memo : List Int
 deriving DecidableEq,Inhabited

theorem OkL_map {α : Type} {f : α → AV} : ∀ {l : List α},OkL (l.map f) → ∀ x ∈ l,Ok (f x)
 | [],_,x,hx=>by simp at hx
 | y :: l,h,x,hx=>by
   simp only [List.map_cons,OkL] at h
   rcases List.mem_cons.1 hx with rfl | hx
   ·exact h.1
   ·exact OkL_map h.2 x hx

theorem leRL_of {l m : List AV} (h : l = m) : leRL l m:=h ▸ leRL_refl l

set_option maxRecDepth 100000

def count (v : List Bool) : List Int → Int
 | []=>0
 | a :: l=>(if v.getD a.toNat false then 1 else 0) + count v l

def gval (g : Gate) (v : List Bool) (memo : Int) : Bool :=
 let n:=count v g.args
 if g.kind = 1 then decide (n > 0)
 else if g.kind = 2 then decide (n ≥ g.k)
 else if g.kind = 3 then decide (n = 0)
 else if g.kind = 4 then decide (n % 2 = 1)
 else if g.kind = 6 then decide (n = g.args.length ∧ memo = 0)
 else if g.kind = 8 then v.getD (g.args.getD 0 0).toNat false
 else decide (n = g.args.length)

def evs (n : Nat) (f : Nat) : List Bool:=(List.range n).map f.testBit

theorem set_ev {f : Nat → Bool} {n i : Nat} {A : AV} (hi : i < n) (hA : leR A (.bool (f i))) :
  leRL (((List.range i).map (fun j=>AV.bool (f j)) ++ List.replicate (n - i) AV.ff).set i A) ((List.range (i + 1)).map (fun j=>AV.bool (f j)) ++ List.replicate (n - (i + 1)) AV.ff):=by
 have e1 : n - i = (n - (i + 1)) + 1:=by omega
 have key : ∀ (l : List AV) (r : List AV),leRL (l ++ A :: r) (l ++ AV.bool (f i) :: r):=by
  intro l r
  induction l with
  | nil=>exact ⟨hA,leRL_refl r⟩
  | cons x l ih=>exact ⟨leR_refl x,ih⟩
 rw [e1,List.replicate_succ,List.set_append_right _ _ (by simp)]
 simp only [List.length_map,List.length_range,Nat.sub_self,List.set_cons_zero]
 rw [List.range_succ,List.map_append,List.append_assoc]
 exact key _ _


def idxP {α : Type} (p : α → Bool) : List α → Int
 | []=>-1
 | x :: l=>if p x then 0 else (match idxP p l with | -1=>-1 | n=>n + 1)

theorem idxP_cases {α : Type} (p : α → Bool) : ∀ l : List α,(idxP p l = -1 ∧ ∀ x ∈ l,p x = false) ∨ ∃ (i : Nat) (h : i < l.length),idxP p l = i ∧ p l[i] = true ∧ ∀ (j : Nat) (hj : j < i),p l[j] = false
 | []=>.inl ⟨rfl,by simp⟩
 | x :: l=>by
   simp only [idxP]
   cases hx : p x with
   | true=>exact .inr ⟨0,by simp,by simp,by simpa using hx,by simp⟩
   | false =>
     rcases idxP_cases p l with ⟨h1,h2⟩ | ⟨i,h,h1,h2,h3⟩
     ·refine .inl ⟨by simp [h1],?_⟩
      intro y hy
      rcases List.mem_cons.1 hy with rfl | hy
      ·exact hx
      ·exact h2 y hy
     ·refine .inr ⟨i + 1,by simpa using h,?_,by simpa using h2,?_⟩
      ·simp only [Bool.false_eq_true,if_false]
       rw [h1]
       split
       ·rename_i h4; omega
       ·simp
      ·intro j hj
       cases j with
       | zero=>simpa using hx
       | succ j=>simpa using h3 j (by omega)

theorem idxP_some {α : Type} {p : α → Bool} {l : List α} {i : Nat} (h : i < l.length) (hp : p l[i] = true) (hn : ∀ (j : Nat) (hj : j < i),p l[j] = false) : idxP p l = i:=by
 rcases idxP_cases p l with ⟨_,h2⟩ | ⟨k,hk,h1,h2,h3⟩
 ·rw [h2 _ (List.getElem_mem h)] at hp; cases hp
 ·rcases Nat.lt_trichotomy i k with hik | rfl | hik
  ·rw [h3 i hik] at hp; cases hp
  ·exact h1
  ·rw [hn k hik] at h2; cases h2

theorem idxP_none {α : Type} {p : α → Bool} {l : List α} (hn : ∀ (j : Nat) (hj : j < l.length),p l[j] = false) : idxP p l = -1:=by
 rcases idxP_cases p l with ⟨h1,_⟩ | ⟨k,hk,_,h2,_⟩
 ·exact h1
 ·rw [hn k hk] at h2; cases h2


theorem leRL_snoc {x y : AV} (hx : leR x y) : ∀ {l m : List AV},leRL l m → leRL (l ++ [x]) (m ++ [y])
 | [],[],_=>⟨hx,trivial⟩
 | [],_ :: _,h=>by simp only [leRL] at h
 | _ :: _,[],h=>by simp only [leRL] at h
 | a :: l,b :: m,h=>by simp only [leRL] at h; exact ⟨h.1,leRL_snoc hx h.2⟩

structure TreeOk (d : Dyn) : Prop where
 vars : 1 ≤ d.vars ∧ d.vars ≤ 24
 gates : d.gates.length ≤ 64
 args : ∀ (i : Nat) (h : i < d.gates.length),∀ a ∈ (d.gates[i]).args,0 ≤ a ∧ a < d.vars + i
 two : ∀ (i : Nat) (h : i < d.gates.length),(d.gates[i]).kind = 8 → 2 ≤ (d.gates[i]).args.length
 dep : ∀ (i : Nat) (h : i < d.gates.length),(d.gates[i]).kind = 8 → ∀ a ∈ (d.gates[i]).args.drop 1,a < d.vars
 sp : ∀ (i : Nat) (h : i < d.gates.length),(d.gates[i]).kind = 7 → 2 ≤ (d.gates[i]).args.length
 spl : ∀ (i : Nat) (h : i < d.gates.length),(d.gates[i]).kind = 7 → ∀ a ∈ (d.gates[i]).args,a < d.vars
 top : 0 ≤ d.top ∧ d.top < d.vars + d.gates.length

structure MemoOk (d : Dyn) (memo : List Int) : Prop where
 len : memo.length = d.gates.length
 sp : ∀ (i : Nat) (h : i < d.gates.length),(d.gates[i]).kind = 7 → memo.getD i 0 < (d.gates[i]).args.length



theorem idxP_nonneg {α : Type} (p : α → Bool) (l : List α) : (0 ≤ idxP p l) ↔ l.any p = true:=by
 rcases idxP_cases p l with ⟨h1,h2⟩ | ⟨i,h,h1,h2,h3⟩
 ·rw [h1]
  constructor
  ·intro h; omega
  ·intro h
   obtain ⟨x,hx,hp⟩:=List.any_eq_true.1 h
   rw [h2 x hx] at hp; cases hp
 ·rw [h1]
  exact ⟨fun _=>List.any_eq_true.2 ⟨_,List.getElem_mem h,h2⟩,fun _=>by omega⟩

def holds (v : List Bool) (i : Int) (g : Gate) : Bool :=
 decide (g.kind = 8) && v.getD (g.args.getD 0 0).toNat false && (g.args.drop 1).any fun y=>decide (i = y)

def vstep (n : Nat) (memo : List Int) (v : List Bool) (g : Gate) : List Bool:=v ++ [gval g v (memo.getD (v.length - n) 0)]

def valuesR (d : Dyn) (f : Nat) (memo : List Int) : List Bool:=d.gates.foldl (vstep d.vars.toNat memo) (evs d.vars.toNat f)


def val : List Int → Nat
 | []=>0
 | x :: l=>x.toNat + 4294967296 * val l

def Ws (l : List Int) : Prop:=∀ x ∈ l,0 ≤ x ∧ x < 4294967296

def wd (n : Nat) : List Int:=if h : n = 0 then [] else ((n % 4294967296 : Nat) : Int) :: wd (n / 4294967296)
termination_by n
decreasing_by exact Nat.div_lt_self (by omega) (by omega)

theorem wd_zero : wd 0 = []:=by rw [wd]; simp
theorem wd_pos {n : Nat} (h : n ≠ 0) : wd n = ((n % 4294967296 : Nat) : Int) :: wd (n / 4294967296):=by rw [wd]; simp [h]

theorem Ws.nil : Ws []:=by intro x hx; simp at hx
theorem Ws.cons {x : Int} {l : List Int} (hx : 0 ≤ x ∧ x < 4294967296) (hl : Ws l) : Ws (x :: l):=by
 intro y hy
 rcases List.mem_cons.1 hy with rfl | hy
 ·exact hx
 ·exact hl y hy
theorem Ws.tail {x : Int} {l : List Int} (h : Ws (x :: l)) : Ws l:=fun y hy=>h y (by simp [hy])
theorem Ws.head {x : Int} {l : List Int} (h : Ws (x :: l)) : 0 ≤ x ∧ x < 4294967296:=h x (by simp)
theorem Ws.append {l m : List Int} (h : Ws l) (g : Ws m) : Ws (l ++ m):=by
 intro x hx
 rcases List.mem_append.1 hx with hx | hx
 ·exact h x hx
 ·exact g x hx
theorem Ws.take {l : List Int} (h : Ws l) (n : Nat) : Ws (l.take n):=fun x hx=>h x (List.mem_of_mem_take hx)
theorem Ws.drop {l : List Int} (h : Ws l) (n : Nat) : Ws (l.drop n):=fun x hx=>h x (List.mem_of_mem_drop hx)
theorem Ws.get {l : List Int} (h : Ws l) {i : Nat} (hi : i < l.length) : 0 ≤ l[i] ∧ l[i] < 4294967296:=h _ (List.getElem_mem hi)
theorem Ws.getD {l : List Int} (h : Ws l) {i : Nat} : 0 ≤ l.getD i 0 ∧ l.getD i 0 < 4294967296:=by
 rw [List.getD_eq_getElem?_getD]
 cases hi : l[i]? with
 | none=>exact ⟨Int.le_refl _,by show (0 : Int) < _; omega⟩
 | some x=>exact h x (List.mem_of_getElem? hi)
theorem Ws.ok {l : List Int} (h : OkL (l.map (AV.int .u32))) : Ws l:=by
 intro x hx
 have:=OkL_map h x hx
 simp [Ok,InR,IntKind.min,IntKind.max,IntKind.signed,IntKind.bits] at this
 omega

theorem wd_Ws (n : Nat) : Ws (wd n):=by
 induction n using Nat.strongRecOn with
 | _ n ih =>
   by_cases h : n = 0
   ·subst h; rw [wd_zero]; exact Ws.nil
   ·rw [wd_pos h]
    exact Ws.cons (by omega) (ih _ (Nat.div_lt_self (by omega) (by omega)))

theorem val_wd (n : Nat) : val (wd n) = n:=by
 induction n using Nat.strongRecOn with
 | _ n ih =>
   by_cases h : n = 0
   ·subst h; rw [wd_zero]; rfl
   ·rw [wd_pos h,val,ih _ (Nat.div_lt_self (by omega) (by omega))]
    omega

theorem val_append : ∀ (l m : List Int),val (l ++ m) = val l + 4294967296 ^ l.length * val m
 | [],m=>by simp [val]
 | x :: l,m=>by
   simp only [List.cons_append,val,val_append l m,List.length_cons,Nat.pow_succ]
   rw [Nat.mul_add,← Nat.mul_assoc,Nat.mul_comm 4294967296 (4294967296 ^ l.length)]; omega

theorem val_lt : ∀ {l : List Int},Ws l → val l < 4294967296 ^ l.length
 | [],_=>by simp [val]
 | x :: l,h=>by
   have:=val_lt h.tail
   have hx:=h.head
   simp only [val,List.length_cons,Nat.pow_succ]
   have : 4294967296 * (val l + 1) ≤ 4294967296 * 4294967296 ^ l.length:=Nat.mul_le_mul_left _ (by omega)
   rw [Nat.mul_comm (4294967296 ^ l.length)]
   omega

def Pl (l : List Int) : Prop:=l = [] ∨ l.getLastD 0 ≠ 0

theorem wd_val : ∀ {l : List Int},Ws l → Pl l → wd (val l) = l
 | [],_,_=>by rw [val,wd_zero]
 | [x],h,hp=>by
   have hx:=h.head
   have h0 : x ≠ 0:=by
    rcases hp with hp | hp
    ·cases hp
    ·simpa using hp
   simp only [val]
   rw [wd_pos (by omega)]
   have e1 : (x.toNat + 4294967296 * 0) % 4294967296 = x.toNat:=by omega
   have e2 : (x.toNat + 4294967296 * 0) / 4294967296 = 0:=by omega
   rw [e1,e2,wd_zero]
   simp; omega
 | x :: y :: l,h,hp=>by
   have hx:=h.head
   have hp' : Pl (y :: l):=by
    rcases hp with hp | hp
    ·cases hp
    ·exact .inr (by simpa using hp)
   have ih:=wd_val h.tail hp'
   have hv : val (y :: l) ≠ 0:=by
    intro e
    rw [e,wd_zero] at ih; cases ih
   rw [val]
   generalize val (y :: l) = n at *
   rw [wd_pos (by omega)]
   have e1 : (x.toNat + 4294967296 * n) % 4294967296 = x.toNat:=by omega
   have e2 : (x.toNat + 4294967296 * n) / 4294967296 = n:=by omega
   rw [e1,e2,ih]
   congr 1
   omega

theorem wd_Pl (n : Nat) : Pl (wd n):=by
 induction n using Nat.strongRecOn with
 | _ n ih =>
   by_cases h : n = 0
   ·subst h; rw [wd_zero]; exact .inl rfl
   ·rw [wd_pos h]
    refine .inr ?_
    by_cases h2 : n / 4294967296 = 0
    ·rw [h2,wd_zero]
     show ((n % 4294967296 : Nat) : Int) ≠ 0
     omega
    ·have:=ih (n / 4294967296) (Nat.div_lt_self (by omega) (by omega))
     rcases this with hn | hn
     ·rw [wd_pos h2] at hn; cases hn
     ·rw [wd_pos h2] at hn ⊢
      simpa using hn

theorem val_zeros : ∀ {l : List Int},(∀ x ∈ l,x = 0) → val l = 0
 | [],_=>rfl
 | x :: l,h=>by
   have h1:=h x (by simp)
   have h2:=val_zeros (l:=l) fun y hy=>h y (by simp [hy])
   simp [val,h1,h2]

theorem trim_eq {l : List Int} (hl : Ws l) {n : Nat} (hn : n ≤ l.length) (hz : ∀ k,n ≤ k → l.getD k 0 = 0) (hp : n = 0 ∨ l.getD (n - 1) 0 ≠ 0) : l.take n = wd (val l):=by
 have h1 : val l = val (l.take n):=by
  conv=>lhs; rw [← List.take_append_drop n l]
  rw [val_append,val_zeros (l:=l.drop n),Nat.mul_zero,Nat.add_zero]
  intro x hx
  obtain ⟨k,hk,rfl⟩:=List.getElem_of_mem hx
  have:=hz (n + k) (by omega)
  simp only [List.length_drop] at hk
  rw [List.getD_eq_getElem?_getD,List.getElem?_eq_getElem (by omega)] at this
  simpa [List.getElem_drop] using this
 rw [h1]
 refine (wd_val (hl.take n) ?_).symm
 rcases hp with rfl | hp
 ·exact .inl (by simp)
 ·by_cases h0 : n = 0
  ·subst h0; exact .inl (by simp)
  ·refine .inr ?_
   rw [List.getLastD_eq_getLast?,List.getLast?_eq_getElem?]
   have e : (l.take n).length = n:=by simp; omega
   rw [e,List.getElem?_take,if_pos (by omega)]
   rw [List.getD_eq_getElem?_getD] at hp
   exact hp

theorem wd_len_le {l : List Int} (hl : Ws l) : (wd (val l)).length ≤ l.length:=by
 -- by the greatest place that is not 0
 have : ∀ n,n ≤ l.length → (∀ k,n ≤ k → l.getD k 0 = 0) → ∃ m,m ≤ n ∧ (∀ k,m ≤ k → l.getD k 0 = 0) ∧ (m = 0 ∨ l.getD (m - 1) 0 ≠ 0):=by
  intro n
  induction n with
  | zero=>intro _ h; exact ⟨0,Nat.le_refl _,h,.inl rfl⟩
  | succ n ih =>
    intro hn h
    by_cases h0 : l.getD n 0 = 0
    ·obtain ⟨m,h1,h2,h3⟩:=ih (by omega) fun k hk=>by
      by_cases hkn : k = n
      ·subst hkn; exact h0
      ·exact h k (by omega)
     exact ⟨m,by omega,h2,h3⟩
    ·exact ⟨n + 1,Nat.le_refl _,h,.inr (by simpa using h0)⟩
 obtain ⟨m,h1,h2,h3⟩:=this l.length (Nat.le_refl _) fun k hk=>by
  rw [List.getD_eq_getElem?_getD,List.getElem?_eq_none hk]; rfl
 rw [← trim_eq hl h1 h2 h3,List.length_take]
 omega

theorem val_take_drop {l : List Int} (n : Nat) (h : n ≤ l.length) : val l = val (l.take n) + 4294967296 ^ n * val (l.drop n):=by
 conv=>lhs; rw [← List.take_append_drop n l]
 rw [val_append]
 congr 3
 simp; omega

theorem val_pos_of_len {l : List Int} (hp : Pl l) (h : l ≠ []) (hl : Ws l) : 4294967296 ^ (l.length - 1) ≤ val l:=by
 have hlen : 0 < l.length:=List.length_pos_iff.2 h
 rw [val_take_drop (l.length - 1) (by omega)]
 rcases hp with hp | hp
 ·exact absurd hp h
 ·have hd : l.drop (l.length - 1) = [l[l.length - 1]'(by omega)]:=by
   rw [List.drop_eq_getElem_cons (by omega)]
   congr 1
   exact List.drop_eq_nil_of_le (by omega)
  rw [hd]
  have h1 : l[l.length - 1]'(by omega) ≠ 0:=by
   rw [List.getLastD_eq_getLast?,List.getLast?_eq_getElem?,List.getElem?_eq_getElem (by omega)] at hp
   exact hp
  have h2:=hl.get (i:=l.length - 1) (by omega)
  simp only [val]
  have : 4294967296 ^ (l.length - 1) * 1 ≤ 4294967296 ^ (l.length - 1) * ((l[l.length - 1]'(by omega)).toNat + 4294967296 * 0):=Nat.mul_le_mul_left _ (by omega)
  omega


def argsR (kind n : Int) : Bool :=
 if kind = 3 then decide (n = 1) else if kind = 5 then decide (n = 2)
 else if kind = 6 ∨ kind = 7 ∨ kind = 8 then decide (2 ≤ n ∧ n ≤ 16) else decide (1 ≤ n ∧ n ≤ 16)

def zeroR (r : Rat) : Bool:=!r.neg && decide (r.num.length = 0) && decide (r.den.length = 0)

def plainR (l : List Int) : Bool:=decide (l ≠ []) && decide (l.getLastD 0 ≠ 0)

def valid (r : Rat) : Bool :=
 if r.num = [] ∧ r.den = [] then !r.neg else plainR r.num && plainR r.den && decide (Nat.gcd (val r.num) (val r.den) = 1)

def sign (r : Rat) : Int:=if valid r = true ∧ r.num ≠ [] then (if r.neg then -1 else 1) else 0

def prob (r : Rat) : Bool:=valid r && !r.neg && decide (val r.num ≤ val r.den)

structure RatC (r : Rat) : Prop where
 v : FnH Tryz.prog 95 [r.av] [] (.bool (valid r)) []
 s : FnH Tryz.prog 96 [r.av] [] (.int .i64 (sign r)) []
 p : FnH Tryz.prog 143 [r.av] [] (.bool (prob r)) []


def errAV (e : Int) : AV:=if e = 0 then .nilI else .ifc 111 (.int .i64 e)

structure DynC (d : Dyn) : Prop where
 fail : ∀ x ∈ d.fail,RatC x
 repair : ∀ x ∈ d.repair,RatC x
 dorm : ∀ g ∈ d.gates,RatC g.dorm


def loG (g : Gate) : Int:=if g.kind = 7 then -1 else 0
def hiG (g : Gate) : Int:=if g.kind = 6 then 1 else if g.kind = 7 then (g.args.length : Int) - 1 else 0

structure StOk (d : Dyn) (s : St) : Prop where
 len : s.memo.length = d.gates.length
 pos : 0 ≤ s.failed
 lt : s.failed < (2 ^ d.vars.toNat : Nat)
 memo : ∀ (k : Nat) (h : k < d.gates.length),loG d.gates[k] ≤ s.memo.getD k 0 ∧ s.memo.getD k 0 ≤ hiG d.gates[k]


abbrev z0 : St:=⟨0,[]⟩

theorem errAV_zero : errAV 0 = .nilI:=rfl
theorem errAV_ne {e : Int} (h : e ≠ 0) : errAV e = .ifc 111 (.int .i64 e):=if_neg h


theorem getD_lt' {α : Type} {l : List α} {i : Nat} {x : α} (h : i < l.length) : l.getD i x = l[i]:=by
 rw [List.getD_eq_getElem?_getD,List.getElem?_eq_getElem h]; rfl

theorem aidxN' {α : Type} (d : α) {f : α → AV} {l : List α} {i : Nat} {n : Int} {k : AV → Prop} (hn : n = i) (h : i < l.length) (hk : k (f (l.getD i d))) : AIdx (l.map f) n k:=by
 subst hn
 refine aidx h ?_
 rw [getD_lt' h] at hk; exact hk

theorem c_trim (a : List Int) (hsz : a.length ≤ 1000000) : FnH Tryz.prog 247 [wL a] [] (wL (wd (val a))) []:=by
 refine FnH.intro lay mixed Tryz.func247 (by kernel_rfl) rfl (by kernel_rfl) rfl fun hok=>?_
 have hl : a.length ≤ 9223372036854775807:=by simpa [OkL,Ok,maxL] using hok.1.1
 have hw : Ws a:=Ws.ok hok.1.2
 conv=>whnf
 refine LoopE.of <| LoopSpec.inv (.refl _ _) (fun (n : Nat)=>n ≤ a.length ∧ ∀ k,n ≤ k → a.getD k 0 = 0) (fun (n : Nat)=>[(3,.int .i64 n)]) (fun _=>_) (fun (n : Nat)=>n) a.length ?_ (fun _=>rfl) ?_ ?_
 ·exact ⟨Nat.le_refl _,fun k hk=>by rw [List.getD_eq_getElem?_getD,List.getElem?_eq_none hk]; rfl⟩
 ·repeat' first|exact rfl|exact trivial|exact wR|exact lR _|apply aI
  simp
 rintro n ⟨hn,hz⟩ _
 have fin : (n = 0 ∨ a.getD (n - 1) 0 ≠ 0) → a.take n = wd (val a):=trim_eq hw hn hz
 conv=>whnf
 refine And.intro (fun h=>?_) (fun h=>?_)
 ·conv=>whnf
  refine zA ?_;conv=>whnf
  refine aidxN' 0 (i:=n - 1) (by omega) (by omega) ?_
  conv=>whnf
  refine And.intro (fun h0=>?_) (fun h0=>?_)
  ·conv=>whnf
   refine zA ?_;conv=>whnf
   refine ⟨n - 1,?_,?_,?_⟩
   ·refine ⟨by omega,fun k hk=>?_⟩
    by_cases hkn : k = n - 1
    ·subst hkn; exact h0
    ·exact hz k (by omega)
   ·repeat' first|exact rfl|exact trivial|exact wR|exact lR _|apply aI
    omega
   ·omega
  ·have e:=fin (.inr h0)
   conv=>whnf
   refine And.intro (fun hh=>?_) (fun hh=>?_)
   ·exfalso; omega
   conv=>whnf
   refine ⟨⟨by omega,by omega,by simp; omega⟩,?_⟩
   have hcut : ((a.map (AV.int .u32)).drop (0 : Int).toNat).take ((n : Int).toNat - (0 : Int).toNat) = (wd (val a)).map (AV.int .u32):=by
    rw [← e]; simp [List.map_take]
   rw [hcut]
   have hll : (wd (val a)).length ≤ a.length:=by rw [← e]; simp; omega
   conv=>whnf
   refine .tok (by simp [maxL]; omega) (by simp; omega) ?_
   conv=>whnf
   refine fM ?_;(conv=>whnf);refine ⟨?_,rfl⟩;conv=>whnf
   exact ⟨rfl,leRL_of (by simp)⟩
 ·have e:=fin (.inl (by omega))
  conv=>whnf
  refine And.intro (fun hh=>?_) (fun hh=>by exfalso; omega)
  conv=>whnf
  refine fM ?_;(conv=>whnf);refine ⟨?_,rfl⟩;conv=>whnf
  rw [← e,show n = 0 by omega]
  rfl
def cmpN (a b : Nat) : Int:=if a < b then -1 else if b < a then 1 else 0

theorem val_lt_of_len {a b : List Int} (ha : Ws a) (hb : Ws b) (hp : Pl b) (h : a.length < b.length) : val a < val b:=by
 have h1:=val_lt ha
 have h2:=val_pos_of_len hp (by intro e; subst e; simp at h) hb
 have h3 : 4294967296 ^ a.length ≤ 4294967296 ^ (b.length - 1):=Nat.pow_le_pow_right (by omega) (by omega)
 omega

theorem val_lt_at {a b : List Int} (ha : Ws a) (hb : Ws b) {i : Nat} (h1 : i < a.length) (h2 : i < b.length) (hd : a.drop (i + 1) = b.drop (i + 1)) (h : a[i] < b[i]) : val a < val b:=by
 rw [val_take_drop i (by omega : i ≤ a.length),val_take_drop i (by omega : i ≤ b.length),List.drop_eq_getElem_cons h1,List.drop_eq_getElem_cons h2]
 simp only [val]
 rw [hd]
 have h3:=val_lt (ha.take i)
 have e : (a.take i).length = i:=by rw [List.length_take]; omega
 rw [e] at h3
 have h4:=ha.get h1
 have h5:=hb.get h2
 generalize 4294967296 * val (List.drop (i + 1) b) = w
 have : 4294967296 ^ i * (a[i].toNat + w + 1) ≤ 4294967296 ^ i * (b[i].toNat + w):=Nat.mul_le_mul_left _ (by omega)
 rw [Nat.mul_add _ _ 1] at this
 omega

theorem c_Cmp (a b : List Int) (ha : a.length ≤ 1000000) (hb : b.length ≤ 1000000) : FnH Tryz.prog 179 [wL a,wL b] [] (.int .i64 (cmpN (val a) (val b))) []:=by
 refine FnH.intro lay mixed Tryz.func179 (by kernel_rfl) rfl (by kernel_rfl) rfl fun hok=>?_
 have wa : Ws a:=Ws.ok hok.1.2
 have wb : Ws b:=Ws.ok hok.2.1.2
 have la:=wd_len_le wa
 have lb:=wd_len_le wb
 conv=>whnf
 refine .pure _ _ ?_ ⟨rfl,rfl⟩ (c_trim a ha) fun _=>?_
 ·exact leL_refl _
 conv=>whnf
 refine .pure _ _ ?_ ⟨rfl,rfl⟩ (c_trim b hb) fun _=>?_
 ·exact leL_refl _
 have e1:=val_wd (val a)
 have e2:=val_wd (val b)
 have pa:=wd_Pl (val a)
 have pb:=wd_Pl (val b)
 have ua:=wd_Ws (val a)
 have ub:=wd_Ws (val b)
 rw [← e1,← e2]
 rw [e1,e2]
 generalize hA : wd (val a) = A at *
 generalize hB : wd (val b) = B at *
 rw [← e1,← e2]
 conv=>whnf
 refine And.intro (fun h=>?_) (fun h=>?_)
 ·have h : A.length ≠ B.length:=by simp only [List.length_map] at h; omega
  conv=>whnf
  refine And.intro (fun h1=>?_) (fun h1=>?_)
  ·have h1 : A.length < B.length:=by simp only [List.length_map] at h1; omega
   conv=>whnf
   refine fM ?_;(conv=>whnf);refine ⟨?_,rfl⟩;conv=>whnf
   refine ⟨rfl,?_⟩
   rw [cmpN,if_pos (val_lt_of_len ua ub pb h1)]
  ·have h1 : B.length < A.length:=by simp only [List.length_map] at h1; omega
   have:=val_lt_of_len ub ua pa h1
   conv=>whnf
   refine fM ?_;(conv=>whnf);refine ⟨?_,rfl⟩;conv=>whnf
   refine ⟨rfl,?_⟩
   rw [cmpN,if_neg (by omega),if_pos this]
 have h : A.length = B.length:=by simp only [List.length_map] at h; omega
 conv=>whnf
 refine ⟨inr64 (by simp; omega) (by simp; omega),?_⟩
 conv=>whnf
 refine LoopE.of <| LoopSpec.inv (.refl _ _) (fun (n : Nat)=>n ≤ A.length ∧ A.drop n = B.drop n) (fun (n : Nat)=>[(5,.int .i64 ((n : Int) - 1))]) (fun _=>_) (fun (n : Nat)=>n) A.length ?_ (fun _=>rfl) ?_ ?_
 ·exact ⟨Nat.le_refl _,by rw [List.drop_length,h,List.drop_length]⟩
 ·repeat' first|exact rfl|exact trivial|exact wR|exact lR _|apply aI
  simp
 rintro n ⟨hn,hd⟩ _
 conv=>whnf
 refine And.intro (fun h0=>?_) (fun h0=>?_)
 ·have h1 : n - 1 < A.length:=by omega
  have h2 : n - 1 < B.length:=by omega
  conv=>whnf
  refine ADraw.auto (by kernel_rfl) ?_;conv=>whnf
  refine aidxN' 0 (i:=n - 1) (by omega) h1 ?_
  conv=>whnf
  refine aidxN' 0 (i:=n - 1) (by omega) h2 ?_
  rw [getD_lt' h1,getD_lt' h2]
  conv=>whnf
  have hd' : A.drop (n - 1 + 1) = B.drop (n - 1 + 1):=by rw [show n - 1 + 1 = n by omega]; exact hd
  refine And.intro (fun h3=>?_) (fun h3=>?_)
  ·conv=>whnf
   refine fM ?_;(conv=>whnf);refine ⟨?_,rfl⟩;conv=>whnf
   refine ⟨rfl,?_⟩
   rw [cmpN,if_pos (val_lt_at ua ub h1 h2 hd' h3)]
  conv=>whnf
  refine ADraw.auto (by kernel_rfl) ?_;conv=>whnf
  refine aidxN' 0 (i:=n - 1) (by omega) h1 ?_
  conv=>whnf
  refine aidxN' 0 (i:=n - 1) (by omega) h2 ?_
  rw [getD_lt' h1,getD_lt' h2]
  conv=>whnf
  refine And.intro (fun h4=>?_) (fun h4=>?_)
  ·have:=val_lt_at ub ua h2 h1 hd'.symm h4
   conv=>whnf
   refine fM ?_;(conv=>whnf);refine ⟨?_,rfl⟩;conv=>whnf
   refine ⟨rfl,?_⟩
   rw [cmpN,if_neg (by omega),if_pos this]
  conv=>whnf
  refine zA ?_;conv=>whnf
  refine ⟨n - 1,?_,?_,?_⟩
  ·refine ⟨by omega,?_⟩
   rw [List.drop_eq_getElem_cons h1,List.drop_eq_getElem_cons h2,hd']
   congr 1
   omega
  ·repeat' first|exact rfl|exact trivial|exact wR|exact lR _|apply aI
   omega
  ·omega
 ·have hn0 : n = 0:=by omega
  subst hn0
  have hAB : A = B:=by simpa using hd
  conv=>whnf
  refine fM ?_;(conv=>whnf);refine ⟨?_,rfl⟩;conv=>whnf
  refine ⟨rfl,?_⟩
  rw [cmpN,hAB,if_neg (by omega),if_neg (by omega)]

theorem c_natOf (n : Nat) (h : n < 2 ^ 63) : FnH Tryz.prog 277 [.int .i64 n] [] (wL (wd n)) []:=by
 refine FnH.intro lay mixed Tryz.func277 (by kernel_rfl) rfl (by kernel_rfl) rfl fun hok=>?_
 conv=>whnf
 refine And.intro (fun h0=>?_) (fun h0=>?_)
 ·have hn : n = 0:=by omega
  subst hn
  conv=>whnf
  refine fM ?_;(conv=>whnf);refine ⟨?_,rfl⟩;conv=>whnf
  rw [wd_zero]; rfl
 conv=>whnf
 refine ⟨by decide,?_⟩
 rw [shr_word rfl]
 conv=>whnf
 rw [wrapu32_mod,wrapu32_mod]
 have hw : Ws [((n % 4294967296 : Nat) : Int),((n / 4294967296 % 4294967296 : Nat) : Int)]:=Ws.cons (by omega) (Ws.cons (by omega) Ws.nil)
 have hv : val [((n % 4294967296 : Nat) : Int),((n / 4294967296 % 4294967296 : Nat) : Int)] = n:=by
  simp only [val]; omega
 have hc:=c_trim [((n % 4294967296 : Nat) : Int),((n / 4294967296 % 4294967296 : Nat) : Int)] (by simp)
 rw [hv] at hc
 refine .pure _ _ ?_ ⟨rfl,rfl⟩ hc fun _=>?_
 ·all_goals exact wk
 conv=>whnf
 refine fM ?_;(conv=>whnf);refine ⟨?_,rfl⟩;conv=>whnf
 all_goals exact wk

theorem digit_lt {r x b : Nat} (hr : r < b) (hx : x < 4294967296) : (r * 4294967296 + x) / b < 4294967296:=by
 rw [Nat.div_lt_iff_lt_mul (by omega)]
 have : (r + 1) * 4294967296 ≤ b * 4294967296:=Nat.mul_le_mul_right _ (by omega)
 rw [Nat.mul_comm 4294967296 b]
 omega

theorem c_small (a : List Int) (b : Nat) (hb : 0 < b ∧ b < 4294967296) (hsz : a.length ≤ 1000000) :
  FnH Tryz.prog 276 [wL a,.int .u32 b] [] (.tup [wL (wd (val a / b)),.int .u32 (val a % b : Nat)]) []:=by
 refine FnH.intro lay mixed Tryz.func276 (by kernel_rfl) rfl (by kernel_rfl) rfl fun hok=>?_
 have hw : Ws a:=Ws.ok hok.1.2
 conv=>whnf
 refine ⟨⟨by omega,by omega,by simp; omega,by simp; omega⟩,.wr ?_⟩
 conv=>whnf
 refine ⟨inr64 (by simp; omega) (by simp; omega),?_⟩
 conv=>whnf
 refine LoopE.of <| LoopSpec.inv (.refl _ _) (fun x : Nat × List Int=>x.1 ≤ a.length ∧ x.2.length = a.length ∧ Ws x.2 ∧ val (x.2.drop x.1) = val (a.drop x.1) / b)
  (fun | (n,_)=>[(8,.int .i64 ((n : Int) - 1)),(7,.int .u64 (val (a.drop n) % b : Nat))]) (fun | (_,out)=>[(0,.arr 1 a.length (out.map (.int .u32)))]) (fun x=>x.1) (a.length,List.replicate a.length 0) ?_ (fun _=>rfl) ?_ ?_
 ·refine ⟨Nat.le_refl _,by simp,?_,?_⟩
  ·intro x hx
   rw [List.mem_replicate] at hx
   rw [hx.2]; omega
  ·simp [val]
 ·refine ⟨?_,.mk ?_ ⟨by simp,trivial⟩⟩
  ·repeat' first|exact rfl|exact trivial|exact wR|exact lR _|apply aI
   ·simp
   ·simp [val]
  ·repeat' first|exact rfl|exact trivial|exact wR|exact lR _|apply aI
   ·simp
   ·exact leRL_of (by simp)
 rintro ⟨n,out⟩ ⟨hn,ho,hwo,hv⟩ _
 simp only at hn ho hwo hv
 have hr : val (a.drop n) % b < b:=Nat.mod_lt _ hb.1
 conv=>whnf
 refine And.intro (fun h=>?_) (fun h=>?_)
 ·have h1 : n - 1 < a.length:=by omega
  have hx:=hw.get h1
  have hda : a.drop (n - 1) = a[n - 1] :: a.drop n:=by
   rw [List.drop_eq_getElem_cons h1]; congr 2; omega
  obtain ⟨x,hxx⟩ : ∃ x : Nat,a[n - 1] = x:=⟨(a[n - 1]).toNat,by omega⟩
  have hval : val (a.drop (n - 1)) = x + 4294967296 * val (a.drop n):=by rw [hda,val,hxx]; simp
  generalize hV : val (a.drop n) = V at *
  generalize hR : V % b = r at *
  have hq : (r * 4294967296 + x) / b < 4294967296:=digit_lt hr (by omega)
  have key : x + 4294967296 * V = b * (4294967296 * (V / b)) + (r * 4294967296 + x):=by
   have:=Nat.div_add_mod V b
   rw [hR] at this
   conv=>lhs; rw [← this]
   rw [Nat.mul_add,← Nat.mul_assoc,Nat.mul_comm 4294967296 b,Nat.mul_assoc]; omega
  have kdiv : (x + 4294967296 * V) / b = (r * 4294967296 + x) / b + 4294967296 * (V / b):=by
   rw [key,Nat.mul_add_div hb.1]; omega
  have kmod : (x + 4294967296 * V) % b = (r * 4294967296 + x) % b:=by
   rw [key,Nat.mul_add_mod]
  obtain ⟨q,hqq⟩ : ∃ q,(r * 4294967296 + x) / b = q:=⟨_,rfl⟩
  obtain ⟨m,hmm⟩ : ∃ m,(r * 4294967296 + x) % b = m:=⟨_,rfl⟩
  have hm : m < b:=hmm ▸ Nat.mod_lt _ hb.1
  rw [hqq] at hq kdiv
  rw [hmm] at kmod
  have hdo : (out.set (n - 1) (q : Int)).drop (n - 1) = (q : Int) :: out.drop n:=by
   rw [List.drop_eq_getElem_cons (by rw [List.length_set]; omega)]
   rw [List.getElem_set_self]
   congr 1
   rw [List.drop_set_of_lt (by omega)]
   congr 1; omega
  conv=>whnf
  refine ⟨by decide,?_⟩
  rw [shl_word (by omega)]
  conv=>whnf
  refine aidxN' 0 (i:=n - 1) (by omega) h1 ?_
  rw [getD_lt' h1,hxx]
  conv=>whnf
  rw [wrap_u64 (n:=(x : Int)) (by omega) (by omega),or_word (by omega) (by omega)]
  conv=>whnf
  rw [wrap_u64 (n:=(b : Int)) (by omega) (by omega)]
  refine ⟨by omega,?_⟩
  rw [tdiv_nat,hqq]
  conv=>whnf
  rw [wrap_u64 (n:=(q : Int)) (by omega) (by omega),wrap_u32 (n:=(q : Int)) (by omega) (by omega)]
  refine ⟨⟨by omega,by simp; omega⟩,?_⟩
  conv=>whnf
  refine ⟨by simp; omega,rfl,?_⟩
  conv=>whnf
  rw [wrap_u64 (n:=(b : Int)) (by omega) (by omega)]
  refine ⟨by omega,?_⟩
  rw [tmod_nat,hmm]
  conv=>whnf
  refine zA ?_;conv=>whnf
  refine ⟨(n - 1,out.set (n - 1) q),?_,?_,?_⟩
  ·refine ⟨by show n - 1 ≤ a.length; omega,by simpa using ho,?_,?_⟩
   ·intro y hy
    rcases List.mem_or_eq_of_mem_set hy with hy | rfl
    ·exact hwo y hy
    ·omega
   ·show val ((out.set (n - 1) (q : Int)).drop (n - 1)) = val (a.drop (n - 1)) / b
    rw [hdo,val,hval,kdiv,hv]; simp
  ·refine ⟨?_,.mk ?_ ⟨by simp,trivial⟩⟩
   ·repeat' first|exact rfl|exact trivial|exact wR|exact lR _|apply aI
    ·omega
    ·rw [hval,kmod]
   ·repeat' first|exact rfl|exact trivial|exact wR|exact lR _|apply aI
    refine leRL_of ?_
    rw [List.map_set]
    simp [strip]
  ·show n - 1 < n
   omega
 ·have hn0 : n = 0:=by omega
  subst hn0
  simp only [List.drop_zero] at hv hr
  have hcc:=c_trim out (by omega)
  rw [hv] at hcc
  conv=>whnf
  refine .gen _ _ (FnH.frz 0 rfl rfl (by simp; omega) (FnH.ofPure hcc ?_ ⟨rfl,rfl⟩)) fun _=>?_
  ·repeat' first|exact rfl|exact trivial|exact wR|exact lR _|apply aI
   refine leRL_of ?_
   simp
   rw [List.take_of_length_le (by simp [ho])]
  conv=>whnf
  rw [List.drop_zero,wrap_u32 (by omega) (by omega)]
  refine fM ?_;(conv=>whnf);refine ⟨?_,rfl⟩;conv=>whnf
  all_goals exact wk

def DivC (x y : Nat) : Prop:=FnH Tryz.prog 248 [wL (wd x),wL (wd y)] [] (.tup [wL (wd (x / y)),wL (wd (x % y)),.nilI]) []

theorem wd_small {y : Nat} (h0 : y ≠ 0) (h : y < 4294967296) : wd y = [(y : Int)]:=by
 rw [wd_pos h0,show y / 4294967296 = 0 by omega,wd_zero,show y % 4294967296 = y by omega]

theorem div_small (x y : Nat) (hx : (wd x).length ≤ 1000000) (h0 : y ≠ 0) (hy : y < 4294967296) : DivC x y:=by
 unfold DivC
 have c1:=c_trim (wd x) hx
 rw [val_wd] at c1
 have hyl:=wd_small h0 hy
 have c2:=c_trim (wd y) (by rw [hyl]; simp)
 rw [val_wd] at c2
 have c3:=c_Cmp (wd x) (wd y) hx (by rw [hyl]; simp)
 rw [val_wd,val_wd] at c3
 refine FnH.intro lay mixed Tryz.func248 (by kernel_rfl) rfl (by kernel_rfl) rfl fun hok=>?_
 conv=>whnf
 refine .pure _ _ ?_ ⟨rfl,rfl⟩ c1 fun _=>?_
 ·exact leL_refl _
 conv=>whnf
 refine .pure _ _ ?_ ⟨rfl,rfl⟩ c2 fun _=>?_
 ·exact leL_refl _
 conv=>whnf
 refine And.intro (fun h=>?_) (fun _=>?_)
 ·exfalso
  rw [hyl] at h; simp at h
 conv=>whnf
 refine .pure _ _ ?_ ⟨rfl,rfl⟩ c3 fun _=>?_
 ·exact leL_refl _
 conv=>whnf
 refine And.intro (fun h=>?_) (fun h=>?_)
 ·have hlt : x < y:=by
   unfold cmpN at h
   split at h
   ·assumption
   ·split at h <;> omega
  conv=>whnf
  refine fM ?_;(conv=>whnf);refine ⟨?_,rfl⟩;conv=>whnf
  refine ⟨?_,?_,rfl,trivial⟩
  ·rw [Nat.div_eq_of_lt hlt,wd_zero]; rfl
  ·rw [Nat.mod_eq_of_lt hlt]; exact le0_refl _
 rw [hyl]
 conv=>whnf
 refine And.intro (fun _=>?_) (fun h=>?_)
 ·conv=>whnf
  refine ⟨⟨.int .u32 y,⟨by decide,rfl⟩,?_⟩⟩
  have c4:=c_small (wd x) y ⟨by omega,hy⟩ hx
  rw [val_wd] at c4
  conv=>whnf
  refine .pure _ _ ?_ ⟨rfl,rfl⟩ c4 fun _=>?_
  ·exact leL_refl _
  have hm : x % y < y:=Nat.mod_lt _ (by omega)
  conv=>whnf
  rw [wrap64 (n:=((x % y : Nat) : Int)) (by omega) (by omega)]
  refine .pure _ _ ?_ ⟨rfl,rfl⟩ (c_natOf (x % y) (by omega)) fun _=>?_
  ·exact leL_refl _
  conv=>whnf
  refine fM ?_;(conv=>whnf);refine ⟨?_,rfl⟩;conv=>whnf
  exact ⟨le0_refl _,leL_refl _⟩
 ·exfalso; simp at h

theorem wd_len_mono {x y : Nat} (h : x ≤ y) : (wd x).length ≤ (wd y).length:=by
 apply Classical.byContradiction
 intro hn
 have:=val_lt_of_len (wd_Ws y) (wd_Ws x) (wd_Pl x) (by omega)
 rw [val_wd,val_wd] at this
 omega

theorem c_Gcd (a b : List Int) (ha : a.length ≤ 1000000) (hb : b.length ≤ 1000000) (hd : ∀ x y,y ≠ 0 → x ≤ max (val a) (val b) → y ≤ max (val a) (val b) → DivC x y) :
  FnH Tryz.prog 180 [wL a,wL b] [] (wL (wd (Nat.gcd (val a) (val b)))) []:=by
 refine FnH.intro lay mixed Tryz.func180 (by kernel_rfl) rfl (by kernel_rfl) rfl fun hok=>?_
 have wa : Ws a:=Ws.ok hok.1.2
 have wb : Ws b:=Ws.ok hok.2.1.2
 conv=>whnf
 refine .pure _ _ ?_ ⟨rfl,rfl⟩ (c_trim a ha) fun _=>?_
 ·exact leL_refl _
 conv=>whnf
 refine .pure _ _ ?_ ⟨rfl,rfl⟩ (c_trim b hb) fun _=>?_
 ·exact leL_refl _
 conv=>whnf
 refine LoopE.of <| LoopSpec.inv (.refl _ _) (fun (x : Nat × Nat)=>x.1 ≤ max (val a) (val b) ∧ x.2 ≤ max (val a) (val b) ∧ Nat.gcd x.1 x.2 = Nat.gcd (val a) (val b)) (fun (x : Nat × Nat)=>[(0,wL (wd x.1)),(1,wL (wd x.2))]) (fun _=>_) (fun (x : Nat × Nat)=>x.2) (val a,val b) ?_ (fun _=>rfl) ?_ ?_
 ·exact ⟨Nat.le_max_left _ _,Nat.le_max_right _ _,rfl⟩
 ·all_goals exact wk
 rintro ⟨x,y⟩ ⟨h1,h2,h3⟩ _
 simp only at h1 h2 h3
 conv=>whnf
 refine And.intro (fun h=>?_) (fun h=>?_)
 ·have h0 : y ≠ 0:=by
   intro e; subst e
   rw [show ((x,0) : Nat × Nat).2 = 0 from rfl,wd_zero] at h
   simp at h
  conv=>whnf
  refine .pure _ _ ?_ ⟨rfl,rfl⟩ (hd x y h0 h1 h2) fun _=>?_
  ·exact leL_refl _
  have hm : x % y < y:=Nat.mod_lt _ (by omega)
  conv=>whnf
  refine ⟨(y,x % y),?_,?_,?_⟩
  ·refine ⟨h2,by show x % y ≤ _; omega,?_⟩
   show Nat.gcd y (x % y) = _
   rw [← h3,Nat.gcd_comm x y,Nat.gcd_rec y x]
   try exact Nat.gcd_comm _ _
  ·all_goals exact wk
  ·show x % y < y
   exact hm
 ·have h0 : y = 0:=by
   apply Classical.byContradiction
   intro hy
   apply h
   show (0 : Int) < ((wd y).map _).length
   rw [wd_pos hy]; simp
  subst h0
  conv=>whnf
  refine fM ?_;(conv=>whnf);refine ⟨?_,rfl⟩;conv=>whnf
  refine ⟨rfl,leRL_of ?_⟩
  rw [← h3,Nat.gcd_zero_right]

theorem c_one : FnH Tryz.prog 181 [] [] (wL [1]) []:=by
 refine FnH.intro lay mixed Tryz.func181 (by kernel_rfl) rfl (by kernel_rfl) rfl fun hok=>?_
 conv=>whnf
 refine fM ?_;(conv=>whnf);refine ⟨?_,rfl⟩;conv=>whnf
 all_goals exact wk

theorem c_plain (a : List Int) (ha : a.length ≤ 1000000) : FnH Tryz.prog 178 [wL a] [] (.bool (plainR a)) []:=by
 refine FnH.intro lay mixed Tryz.func178 (by kernel_rfl) rfl (by kernel_rfl) rfl fun hok=>?_
 conv=>whnf
 refine And.intro (fun h=>?_) (fun h=>?_)
 ·have h : 0 < a.length:=by simp only [List.length_map] at h; omega
  conv=>whnf
  refine ⟨inr64 (by simp; omega) (by simp; omega),?_⟩
  conv=>whnf
  refine aidxN' 0 (i:=a.length - 1) (by simp; omega) (by omega) ?_
  conv=>whnf
  refine fM ?_;(conv=>whnf);refine ⟨?_,rfl⟩;conv=>whnf
  have e : a.getD (a.length - 1) 0 = a.getLastD 0:=by
   rw [List.getLastD_eq_getLast?,List.getLast?_eq_getElem?,List.getD_eq_getElem?_getD]
  rw [e]
  have hne : a ≠ []:=List.length_pos_iff.1 h
  simp [plainR,hne]
 ·have h : a = []:=by
   apply List.eq_nil_of_length_eq_zero
   simp only [List.length_map] at h; omega
  subst h
  conv=>whnf
  refine fM ?_;(conv=>whnf);refine ⟨?_,rfl⟩;conv=>whnf
  rfl

theorem c_Valid (r : Rat) (h1 : r.num.length ≤ 1000000) (h2 : r.den.length ≤ 1000000) (hg : ¬ (r.num = [] ∧ r.den = []) → FnH Tryz.prog 180 [wL r.num,wL r.den] [] (wL (wd (Nat.gcd (val r.num) (val r.den)))) []) :
  FnH Tryz.prog 95 [r.av] [] (.bool (valid r)) []:=by
 refine FnH.intro lay mixed Tryz.func95 (by kernel_rfl) rfl (by kernel_rfl) rfl fun hok=>?_
 have hw1 : Ws r.num:=Ws.ok hok.1.2.1.2
 have hw2 : Ws r.den:=Ws.ok hok.1.2.2.1.2
 have lg : (wd (Nat.gcd (val r.num) (val r.den))).length ≤ 1000000:=by
  have l1:=wd_len_le hw1
  have l2:=wd_len_le hw2
  by_cases h0 : val r.num = 0
  ·rw [h0,Nat.gcd_zero_left]; omega
  ·have:=wd_len_mono (Nat.gcd_le_left (val r.den) (by omega : 0 < val r.num))
   omega
 have tail : ∀ {e : Env} {H : Heap} {k : AV → Heap → Prop},True:=fun {_ _ _}=>trivial
 clear tail
 have c1:=c_plain r.num h1
 have c2:=c_plain r.den h2
 have c3:=c_Cmp (wd (Nat.gcd (val r.num) (val r.den))) [1] lg (by simp)
 rw [val_wd] at c3
 have v1 : val [1] = 1:=rfl
 rw [v1] at c3
 have hcmp : (cmpN (Nat.gcd (val r.num) (val r.den)) 1 = 0) ↔ Nat.gcd (val r.num) (val r.den) = 1:=by
  unfold cmpN
  split
  ·omega
  ·split <;> omega
 conv=>whnf
 refine And.intro (fun n1=>?_) (fun n1=>?_)
 ·have n1 : r.num = []:=by
   apply List.eq_nil_of_length_eq_zero
   simpa using n1
  conv=>whnf
  refine And.intro (fun n2=>?_) (fun n2=>?_)
  ·have n2 : r.den = []:=by
    apply List.eq_nil_of_length_eq_zero
    simpa using n2
   conv=>whnf
   refine fM ?_;(conv=>whnf);refine ⟨?_,rfl⟩;conv=>whnf
   simp [valid,n1,n2]
  ·have n2 : ¬ r.den = []:=fun e=>n2 (by rw [e]; rfl)
   have hval : valid r = false:=by simp [valid,n1,n2,plainR]
   have p1 : plainR r.num = false:=by simp [n1,plainR]
   rw [hval]
   rw [p1] at c1
   conv=>whnf
   refine .pure _ _ ?_ ⟨rfl,rfl⟩ c1 fun _=>?_
   ·exact leL_refl _
   conv=>whnf
   refine And.intro (fun h=>?_) (fun h=>?_)
   ·cases h
   ·conv=>whnf
    refine fM ?_;(conv=>whnf);refine ⟨?_,rfl⟩;conv=>whnf
 ·have n1 : ¬ r.num = []:=fun e=>n1 (by rw [e]; rfl)
  have hgc:=hg (fun h=>n1 h.1)
  have hval : valid r = (plainR r.num && plainR r.den && decide (Nat.gcd (val r.num) (val r.den) = 1)):=by simp [valid,n1]
  rw [hval]
  conv=>whnf
  refine .pure _ _ ?_ ⟨rfl,rfl⟩ c1 fun _=>?_
  ·exact leL_refl _
  conv=>whnf
  refine And.intro (fun p1=>?_) (fun p1=>?_)
  ·conv=>whnf
   refine .pure _ _ ?_ ⟨rfl,rfl⟩ c2 fun _=>?_
   ·exact leL_refl _
   conv=>whnf
   refine And.intro (fun p2=>?_) (fun p2=>?_)
   ·conv=>whnf
    refine .pure _ _ ?_ ⟨rfl,rfl⟩ hgc fun _=>?_
    ·exact leL_refl _
    conv=>whnf
    refine .pure _ _ ?_ ⟨rfl,rfl⟩ c_one fun _=>?_
    ·exact leL_refl _
    conv=>whnf
    refine .pure _ _ ?_ ⟨rfl,rfl⟩ c3 fun _=>?_
    ·exact leL_refl _
    conv=>whnf
    refine fM ?_;(conv=>whnf);refine ⟨?_,rfl⟩;conv=>whnf
    rw [p1,p2]
    show _ ↔ _
    rw [hcmp]; simp
   ·conv=>whnf
    refine fM ?_;(conv=>whnf);refine ⟨?_,rfl⟩;conv=>whnf
    simp [p1,p2]
  ·conv=>whnf
   refine fM ?_;(conv=>whnf);refine ⟨?_,rfl⟩;conv=>whnf
   simp [p1]

theorem c_parts (r : Rat) (hv : FnH Tryz.prog 95 [r.av] [] (.bool (valid r)) []) :
  FnH Tryz.prog 182 [r.av] [] (if valid r = true ∧ r.num ≠ [] then .tup [.bool r.neg,wL r.num,wL r.den] else .tup [.bool false,wL [],wL [1]]) []:=by
 generalize hR : (if valid r = true ∧ r.num ≠ [] then AV.tup [.bool r.neg,wL r.num,wL r.den] else .tup [.bool false,wL [],wL [1]]) = R
 refine FnH.intro lay mixed Tryz.func182 (by kernel_rfl) rfl (by kernel_rfl) rfl fun hok=>?_
 conv=>whnf
 refine .pure _ _ ?_ ⟨rfl,rfl⟩ hv fun _=>?_
 ·exact leL_refl _
 conv=>whnf
 refine And.intro (fun p1=>?_) (fun p1=>?_)
 ·have p1 : valid r = false:=by simpa using p1
  rw [if_neg (by simp [p1])] at hR
  subst hR
  conv=>whnf
  refine .pure _ _ ?_ ⟨rfl,rfl⟩ c_one fun _=>?_
  ·exact leL_refl _
  conv=>whnf
  refine fM ?_;(conv=>whnf);refine ⟨?_,rfl⟩;conv=>whnf
  all_goals exact wk
 ·have p1 : valid r = true:=by simpa using p1
  conv=>whnf
  refine And.intro (fun p2=>?_) (fun p2=>?_)
  ·have p2 : r.num = []:=by
    apply List.eq_nil_of_length_eq_zero
    simpa using p2
   rw [if_neg (by simp [p2])] at hR
   subst hR
   conv=>whnf
   refine .pure _ _ ?_ ⟨rfl,rfl⟩ c_one fun _=>?_
   ·exact leL_refl _
   conv=>whnf
   refine fM ?_;(conv=>whnf);refine ⟨?_,rfl⟩;conv=>whnf
   all_goals exact wk
  ·have p2 : ¬ r.num = []:=fun e=>p2 (by rw [e]; rfl)
   rw [if_pos ⟨p1,p2⟩] at hR
   subst hR
   conv=>whnf
   refine ADraw.auto (by kernel_rfl) ?_;conv=>whnf
   refine fM ?_;(conv=>whnf);refine ⟨?_,rfl⟩;conv=>whnf
   all_goals exact wk

theorem c_Sign (r : Rat) (hv : FnH Tryz.prog 95 [r.av] [] (.bool (valid r)) []) : FnH Tryz.prog 96 [r.av] [] (.int .i64 (sign r)) []:=by
 have hp:=c_parts r hv
 refine FnH.intro lay mixed Tryz.func96 (by kernel_rfl) rfl (by kernel_rfl) rfl fun hok=>?_
 by_cases h : valid r = true ∧ r.num ≠ []
 ·rw [if_pos h] at hp
  conv=>whnf
  refine .pure _ _ ?_ ⟨rfl,rfl⟩ hp fun _=>?_
  ·exact leL_refl _
  conv=>whnf
  refine And.intro (fun p2=>?_) (fun _=>?_)
  ·exfalso
   apply h.2
   apply List.eq_nil_of_length_eq_zero
   simpa using p2
  conv=>whnf
  refine And.intro (fun p2=>?_) (fun p2=>?_)
  ·conv=>whnf
   refine fM ?_;(conv=>whnf);refine ⟨?_,rfl⟩;conv=>whnf
   refine ⟨rfl,?_⟩
   rw [sign,if_pos h,if_pos p2]
  ·conv=>whnf
   refine fM ?_;(conv=>whnf);refine ⟨?_,rfl⟩;conv=>whnf
   refine ⟨rfl,?_⟩
   rw [sign,if_pos h,if_neg (by rw [p2]; simp)]
 ·rw [if_neg h] at hp
  conv=>whnf
  refine .pure _ _ ?_ ⟨rfl,rfl⟩ hp fun _=>?_
  ·exact leL_refl _
  conv=>whnf
  refine And.intro (fun _=>?_) (fun p2=>by exfalso; exact p2 rfl)
  conv=>whnf
  refine fM ?_;(conv=>whnf);refine ⟨?_,rfl⟩;conv=>whnf
  refine ⟨rfl,?_⟩
  rw [sign,if_neg h]

theorem c_Prob (r : Rat) (h1 : r.num.length ≤ 1000000) (h2 : r.den.length ≤ 1000000) (hv : FnH Tryz.prog 95 [r.av] [] (.bool (valid r)) []) : FnH Tryz.prog 143 [r.av] [] (.bool (prob r)) []:=by
 have hc:=c_Cmp r.num r.den h1 h2
 have hle : (cmpN (val r.num) (val r.den) ≤ 0) ↔ val r.num ≤ val r.den:=by
  unfold cmpN
  split
  ·omega
  ·split <;> omega
 refine FnH.intro lay mixed Tryz.func143 (by kernel_rfl) rfl (by kernel_rfl) rfl fun hok=>?_
 conv=>whnf
 refine .pure _ _ ?_ ⟨rfl,rfl⟩ hv fun _=>?_
 ·exact leL_refl _
 conv=>whnf
 refine And.intro (fun p1=>?_) (fun p1=>?_)
 ·conv=>whnf
  refine And.intro (fun p2=>?_) (fun p2=>?_)
  ·conv=>whnf
   refine .pure _ _ ?_ ⟨rfl,rfl⟩ hc fun _=>?_
   ·exact leL_refl _
   conv=>whnf
   refine fM ?_;(conv=>whnf);refine ⟨?_,rfl⟩;conv=>whnf
   show _ ↔ _
   rw [hle]
   simp only [prob,p1,p2,Bool.true_and,decide_eq_true_eq]
  ·conv=>whnf
   refine fM ?_;(conv=>whnf);refine ⟨?_,rfl⟩;conv=>whnf
   simp [prob,p1,p2]
 ·conv=>whnf
  refine fM ?_;(conv=>whnf);refine ⟨?_,rfl⟩;conv=>whnf
  simp [prob,p1]

theorem ratC (r : Rat) (h1 : r.num.length ≤ 1000000) (h2 : r.den.length ≤ 1000000) (hd : ¬ (r.num = [] ∧ r.den = []) → ∀ x y,y ≠ 0 → x ≤ max (val r.num) (val r.den) → y ≤ max (val r.num) (val r.den) → DivC x y) : RatC r:=by
 have hv:=c_Valid r h1 h2 fun h=>c_Gcd r.num r.den h1 h2 (hd h)
 exact ⟨hv,c_Sign r hv,c_Prob r h1 h2 hv⟩

theorem ratC_zero : RatC ⟨false,[],[]⟩:=ratC _ (by simp) (by simp) fun h=>absurd ⟨rfl,rfl⟩ h


def OneC : Prop:=FnH Tryz.prog 149 [.int .i64 1] [] (Rat.av ⟨false,[1],[1]⟩) []



def MemoIn (d : Dyn) (memo : List Int) : Prop:=memo.length = d.gates.length ∧ ∀ (k : Nat) (h : k < d.gates.length),loG d.gates[k] ≤ memo.getD k 0 ∧ memo.getD k 0 ≤ hiG d.gates[k]

def Settled (d : Dyn) (f : Nat) (memo : List Int) : Prop :=
 ∀ g ∈ d.gates,g.kind = 8 → (valuesR d f memo).getD (g.args.getD 0 0).toNat false = true → ∀ a ∈ g.args.drop 1,f.testBit a.toNat = true

structure Good (d : Dyn) (s : St) : Prop where
 pos : 0 ≤ s.failed
 lt : s.failed.toNat < 2 ^ d.vars.toNat
 memo : MemoIn d s.memo
 settled : Settled d s.failed.toNat s.memo



def wdN : Nat → Nat → List Int
 | 0,_=>[]
 | k + 1,x=>((x % 4294967296 : Nat) : Int) :: wdN k (x / 4294967296)

theorem wdN_len : ∀ k x,(wdN k x).length = k
 | 0,_=>rfl
 | k + 1,x=>by simp [wdN,wdN_len k]

theorem wdN_Ws : ∀ k x,Ws (wdN k x)
 | 0,_=>Ws.nil
 | k + 1,x=>Ws.cons (by omega) (wdN_Ws k _)

theorem wdN_val : ∀ {l : List Int},Ws l → wdN l.length (val l) = l
 | [],_=>rfl
 | x :: l,h=>by
   have hx:=h.head
   simp only [List.length_cons,wdN,val]
   rw [show (x.toNat + 4294967296 * val l) % 4294967296 = x.toNat by omega,show (x.toNat + 4294967296 * val l) / 4294967296 = val l by omega,wdN_val h.tail]
   congr 1; omega

theorem val_wdN : ∀ {k x : Nat},x < 4294967296 ^ k → val (wdN k x) = x
 | 0,x,h=>by simp at h; subst h; rfl
 | k + 1,x,h=>by
   simp only [wdN,val]
   rw [val_wdN (k:=k) (by rw [Nat.div_lt_iff_lt_mul (by omega)]; rw [Nat.pow_succ] at h; exact h)]
   omega

theorem wdN_eq {l : List Int} {k x : Nat} (hw : Ws l) (hl : l.length = k) (hv : val l = x) : l = wdN k x:=by
 rw [← hl,← hv]; exact (wdN_val hw).symm

theorem val_set : ∀ {l : List Int} {i : Nat} {x : Int} (h : i < l.length),val (l.set i x) + 4294967296 ^ i * (l[i]).toNat = val l + 4294967296 ^ i * x.toNat
 | [],_,_,h=>by simp at h
 | y :: l,0,x,_=>by simp [val]; omega
 | y :: l,i + 1,x,h=>by
   have:=val_set (l:=l) (i:=i) (x:=x) (by simpa using h)
   simp only [List.set_cons_succ,val,List.getElem_cons_succ,Nat.pow_succ]
   rw [Nat.mul_comm (4294967296 ^ i) 4294967296,Nat.mul_assoc,Nat.mul_assoc]
   omega

theorem val_ge {l : List Int} {i : Nat} (h : i < l.length) : 4294967296 ^ i * (l[i]).toNat ≤ val l:=by
 rw [val_take_drop i (by omega),List.drop_eq_getElem_cons h]
 simp only [val]
 have : 4294967296 ^ i * (l[i]).toNat ≤ 4294967296 ^ i * ((l[i]).toNat + 4294967296 * val (l.drop (i + 1))):=Nat.mul_le_mul_left _ (by omega)
 omega

theorem Ws.set {l : List Int} (h : Ws l) {i : Nat} {x : Int} (hx : 0 ≤ x ∧ x < 4294967296) : Ws (l.set i x):=by
 intro y hy
 rcases List.mem_or_eq_of_mem_set hy with hy | rfl
 ·exact h y hy
 ·exact hx

theorem val_take_succ {l : List Int} {i : Nat} (h : i < l.length) : val (l.take (i + 1)) = val (l.take i) + 4294967296 ^ i * (l[i]).toNat:=by
 rw [List.take_add_one,List.getElem?_eq_getElem h,val_append,List.length_take,Nat.min_eq_left (by omega)]
 simp [val]

theorem c_word (a : List Int) (i : Nat) : FnH Tryz.prog 274 [wL a,.int .i64 i] [] (.int .u64 (a.getD i 0)) []:=by
 refine FnH.intro lay mixed Tryz.func274 (by kernel_rfl) rfl (by kernel_rfl) rfl fun hok=>?_
 have hw : Ws a:=Ws.ok hok.1.2
 conv=>whnf
 refine And.intro (fun h=>?_) (fun h=>?_)
 ·have h : i < a.length:=by simp only [List.length_map] at h; omega
  conv=>whnf
  refine aidxN' 0 rfl h ?_
  conv=>whnf
  refine fM ?_;(conv=>whnf);refine ⟨?_,rfl⟩;conv=>whnf
  have:=hw.getD (i:=i)
  exact ⟨rfl,wrap_u64 (by omega) (by omega)⟩
 ·have h : a.length ≤ i:=by simp only [List.length_map] at h; omega
  conv=>whnf
  refine fM ?_;(conv=>whnf);refine ⟨?_,rfl⟩;conv=>whnf
  refine ⟨rfl,?_⟩
  rw [List.getD_eq_getElem?_getD,List.getElem?_eq_none h]; rfl

theorem shl_u64 {a n : Nat} (ha : a < 4294967296) (hn : n < 32) : shlR .u64 (a : Int) (n : Int) = ((a * 2 ^ n : Nat) : Int):=by
 unfold shlR
 have h1 : min (n : Int).toNat (IntKind.bits .u64) = n:=by show min n 64 = n; omega
 rw [h1]
 have h2 : (a : Int) * 2 ^ n = ((a * 2 ^ n : Nat) : Int):=by simp
 rw [h2]
 have h3 : 2 ^ n ≤ 2 ^ 31:=Nat.pow_le_pow_right (by omega) (by omega)
 have h4 : a * 2 ^ n ≤ 4294967295 * 2 ^ 31:=Nat.mul_le_mul (by omega) h3
 exact wrap_u64 (by omega) (by omega)

theorem or_u32 {a b : Nat} (ha : a < 2 ^ 32) (hb : b < 2 ^ 32) : bitsR .or .u32 (a : Int) (b : Int) = ((a ||| b : Nat) : Int):=by
 simp only [bitsR]
 have e : ∀ x : Nat,BitVec.ofInt 32 (x : Int) = BitVec.ofNat 32 x:=by
  intro x; apply BitVec.eq_of_toNat_eq; simp
 have h1 : (BitVec.ofInt 32 (a : Int) ||| BitVec.ofInt 32 (b : Int)).toNat = a ||| b:=by
  rw [e,e,BitVec.toNat_or,BitVec.toNat_ofNat,BitVec.toNat_ofNat,Nat.mod_eq_of_lt ha,Nat.mod_eq_of_lt hb]
 show IntKind.wrap .u32 ((BitVec.ofInt 32 (a : Int) ||| BitVec.ofInt 32 (b : Int)).toNat : Int) = _
 rw [h1]
 have:=Nat.or_lt_two_pow ha hb
 exact wrap_u32 (by omega) (by omega)

theorem or_low {h y n : Nat} (hn : n < 32) (hh : h < 2 ^ n) : h ||| (y * 2 ^ n % 4294967296) = h + y * 2 ^ n % 4294967296:=by
 have e : (4294967296 : Nat) = 2 ^ (32 - n) * 2 ^ n:=by
  rw [← Nat.pow_add,show 32 - n + n = 32 by omega]
 rw [e,Nat.mul_mod_mul_right]
 generalize y % 2 ^ (32 - n) = z
 have:=Nat.shiftLeft_add_eq_or_of_lt (i:=n) hh z
 rw [Nat.shiftLeft_eq] at this
 rw [Nat.or_comm,← this]; omega

theorem left_arith {p g Y B v0 v1 v2 t u : Nat} (e1 : v1 + p * g = v0 + p * t) (ht : t = g + Y % B) (e2 : v2 + p * B * u = v1 + p * B * (Y / B)) (hu : u = 0) : v2 = v0 + p * Y:=by
 subst ht; subst hu
 have k1 : p * (g + Y % B) = p * g + p * (Y % B):=Nat.mul_add _ _ _
 have k2 : p * Y = p * (Y % B) + p * B * (Y / B):=by
  rw [Nat.mul_assoc,← Nat.mul_add,Nat.mod_add_div]
 have k3 : p * B * 0 = 0:=Nat.mul_zero _
 generalize p * (g + Y % B) = q1 at *
 generalize p * B * (Y / B) = q2 at *
 generalize p * (Y % B) = q3 at *
 generalize p * Y = q4 at *
 generalize p * B * 0 = q5 at *
 generalize p * g = q6 at *
 omega

theorem left_sum {out : List Int} {i g Y : Nat} {vi vo X P : Nat} (h1 : i < out.length) (h2 : i + 1 < out.length) (hgg : out[i] = (g : Int)) (hz : out.getD (i + 1) 0 = 0)
  (hv : val out = vi * P) (hvt : vo = vi + 4294967296 ^ i * X) (hY : X * P = Y) :
  val ((out.set i ((g + Y % 4294967296 : Nat) : Int)).set (i + 1) ((Y / 4294967296 : Nat) : Int)) = vo * P:=by
 have e1:=val_set (x:=((g + Y % 4294967296 : Nat) : Int)) h1
 have ho2 : i + 1 < (out.set i ((g + Y % 4294967296 : Nat) : Int)).length:=by simpa using h2
 have e2:=val_set (x:=((Y / 4294967296 : Nat) : Int)) ho2
 rw [getD_lt' h2] at hz
 rw [List.getElem_set_ne (by omega),hz,Nat.pow_succ] at e2
 rw [hgg] at e1
 have e3:=left_arith e1 rfl e2 rfl
 rw [e3,hvt,Nat.add_mul,Nat.mul_assoc,hY,hv]

theorem c_left (a : List Int) (n : Nat) (hn : n < 32) (hsz : a.length ≤ 1000000) :
  FnH Tryz.prog 279 [wL a,.int .i64 n] [] (.ms 0 0 (a.length + 1) (a.length + 1) 1) [(0,.arr 1 (a.length + 1) ((wdN (a.length + 1) (val a * 2 ^ n)).map (.int .u32)))]:=by
 refine FnH.intro lay mixed Tryz.func279 (by kernel_rfl) rfl (by kernel_rfl) rfl fun hok=>?_
 have hw : Ws a:=Ws.ok hok.1.2
 conv=>whnf
 refine ⟨inr64 (by simp; omega) (by simp; omega),?_⟩
 conv=>whnf
 refine ⟨⟨by simp; omega,by omega,by simp; omega,by simp; omega⟩,.wr ?_⟩
 conv=>whnf
 refine LoopE.of <| LoopSpec.inv (.refl _ _) (fun x : Nat × List Int=>x.1 ≤ a.length ∧ x.2.length = a.length + 1 ∧ Ws x.2 ∧ val x.2 = val (a.take x.1) * 2 ^ n ∧ ∀ k,x.1 < k → x.2.getD k 0 = 0)
  (fun | (i,_)=>[(15,.int .i64 i)]) (fun | (_,out)=>[(0,.arr 1 (a.length + 1) (out.map (.int .u32)))]) (fun x=>a.length - x.1) (0,List.replicate (a.length + 1) 0) ?_ (fun _=>rfl) ?_ ?_
 ·refine ⟨Nat.zero_le _,by simp,?_,?_,?_⟩
  ·intro x hx
   rw [List.mem_replicate] at hx
   rw [hx.2]; omega
  ·rw [val_zeros (fun x hx=>(List.mem_replicate.1 hx).2)]; simp [val]
  ·intro k _
   rw [List.getD_eq_getElem?_getD,List.getElem?_replicate]
   split <;> rfl
 ·refine ⟨?_,.mk ?_ ⟨by simp,trivial⟩⟩
  ·all_goals exact wk
  ·repeat' first|exact rfl|exact trivial|exact wR|exact lR _|apply aI
   all_goals first | (simp; done) | exact leRL_of (by simp)
 rintro ⟨i,out⟩ ⟨hi,ho,hwo,hv,hz⟩ _
 simp only at hi ho hwo hv hz
 conv=>whnf
 refine And.intro (fun h=>?_) (fun h=>?_)
 ·have hlt : i < a.length:=by simpa using h
  have hx:=hw.get hlt
  have hvt:=val_take_succ hlt
  obtain ⟨x,hxx⟩ : ∃ x : Nat,a[i] = x:=⟨(a[i]).toNat,by omega⟩
  rw [hxx] at hvt hx
  simp only [Int.toNat_natCast] at hvt
  have h1 : i < out.length:=by omega
  have hg:=hwo.get h1
  have hge:=val_ge h1
  obtain ⟨g,hgg⟩ : ∃ g : Nat,out[i] = g:=⟨(out[i]).toNat,by omega⟩
  rw [hgg] at hg hge
  simp only [Int.toNat_natCast] at hge
  have hlow : val (a.take i) < 4294967296 ^ i:=by
   have:=val_lt (hw.take i)
   rw [List.length_take,Nat.min_eq_left (by omega)] at this
   exact this
  have hp : 0 < 2 ^ n:=Nat.two_pow_pos n
  have hgn : g < 2 ^ n:=by
   have h2 : 4294967296 ^ i * g < 4294967296 ^ i * 2 ^ n:=by
    have:=Nat.mul_lt_mul_of_pos_right hlow hp
    omega
   exact Nat.lt_of_mul_lt_mul_left h2
  have hn31 : 2 ^ n ≤ 2 ^ 31:=Nat.pow_le_pow_right (by omega) (by omega)
  have hy : x * 2 ^ n ≤ 4294967295 * 2 ^ 31:=Nat.mul_le_mul (by omega) hn31
  conv=>whnf
  refine aidx hlt ?_
  rw [hxx]
  conv=>whnf
  rw [wrap_u64 (n:=(x : Int)) (by omega) (by omega)]
  refine ⟨by omega,?_⟩
  rw [shl_u64 (by omega) hn]
  conv=>whnf
  refine ⟨⟨by omega,by simp; omega⟩,?_⟩
  conv=>whnf
  refine aidxN' 0 (i:=i) (by omega) h1 ?_
  rw [getD_lt' h1,hgg]
  refine ⟨rfl,?_⟩
  conv=>whnf
  refine ⟨⟨by omega,by simp; omega⟩,?_⟩
  rw [wrapu32_mod,or_u32 (by omega) (by omega),or_low hn hgn]
  have hylt : x * 2 ^ n % 4294967296 + g < 4294967296:=by
   have h3 : g ||| (x * 2 ^ n % 4294967296) < 2 ^ 32:=Nat.or_lt_two_pow (by omega) (by omega)
   rw [or_low hn hgn] at h3
   omega
  generalize hY : x * 2 ^ n = Y at *
  conv=>whnf
  refine ⟨by simp; omega,rfl,?_⟩
  conv=>whnf
  refine zA ?_;conv=>whnf
  refine ⟨by decide,?_⟩
  rw [shr_word rfl]
  conv=>whnf
  refine ⟨⟨by omega,by simp; omega⟩,?_⟩
  rw [wrap_u32 (n:=((Y / 4294967296 : Nat) : Int)) (by omega) (by omega)]
  conv=>whnf
  refine ⟨by simp; omega,rfl,?_⟩
  conv=>whnf
  refine zA ?_;conv=>whnf
  refine ⟨(i + 1,(out.set i ((g + Y % 4294967296 : Nat) : Int)).set (i + 1) ((Y / 4294967296 : Nat) : Int)),?_,?_,?_⟩
  ·refine ⟨hlt,by simpa using ho,(hwo.set (by omega)).set (by omega),?_,?_⟩
   ·show val ((out.set i ((g + Y % 4294967296 : Nat) : Int)).set (i + 1) ((Y / 4294967296 : Nat) : Int)) = val (a.take (i + 1)) * 2 ^ n
    exact left_sum (X:=x) h1 (by omega) hgg (hz (i + 1) (by omega)) hv hvt hY
   ·intro k hk
    have hk : i + 1 < k:=hk
    have:=hz k (by omega)
    rw [List.getD_eq_getElem?_getD] at this ⊢
    rw [List.getElem?_set_ne (by omega),List.getElem?_set_ne (by omega)]
    exact this
  ·refine ⟨?_,.mk ?_ ⟨by simp,trivial⟩⟩
   ·all_goals exact wk
   ·repeat' first|exact rfl|exact trivial|exact wR|exact lR _|apply aI
    refine leRL_of ?_
    rw [List.map_set,List.map_set]
    simp [strip]
  ·show a.length - (i + 1) < a.length - i
   omega
 ·have hil : i = a.length:=by have : ¬ i < a.length:=by simpa using h
                              omega
  subst hil
  rw [List.take_length] at hv
  conv=>whnf
  refine ⟨⟨_,_,.refl _ _,?_⟩⟩
  conv=>whnf
  refine ⟨?_,rfl,by simp [nextId],.mk ?_ ⟨by simp,trivial⟩⟩
  ·show AV.ms _ _ _ _ _ = _
   simp
   exact ⟨rfl,rfl⟩
  ·repeat' first|exact rfl|exact trivial|exact wR|exact lR _|apply aI
   refine leRL_of ?_
   rw [wdN_eq hwo ho hv]

theorem wdN_get : ∀ {k x i : Nat} (_ : i < k),(wdN k x).getD i 0 = ((x / 4294967296 ^ i % 4294967296 : Nat) : Int)
 | 0,_,_,h=>by omega
 | k + 1,x,0,_=>by simp [wdN]
 | k + 1,x,i + 1,h=>by
   have:=wdN_get (k:=k) (x:=x / 4294967296) (i:=i) (by omega)
   simp only [wdN,List.getD_cons_succ]
   rw [this,Nat.div_div_eq_div_mul,Nat.pow_succ,Nat.mul_comm (4294967296 ^ i)]

theorem wdN_of {l : List Int} {k x : Nat} (hl : l.length = k) (h : ∀ i,i < k → l.getD i 0 = ((x / 4294967296 ^ i % 4294967296 : Nat) : Int)) : l = wdN k x:=by
 apply List.ext_getElem
 ·rw [hl,wdN_len]
 ·intro i h1 h2
  have e1:=h i (by omega)
  have e2:=wdN_get (k:=k) (x:=x) (i:=i) (by omega)
  rw [getD_lt' h1] at e1
  rw [getD_lt' h2] at e2
  rw [e1,e2]

theorem val_drop {l : List Int} (hw : Ws l) (i : Nat) : val l / 4294967296 ^ i = val (l.drop i):=by
 by_cases h : i ≤ l.length
 ·have e:=val_take_drop (l:=l) i h
  have h1:=val_lt (hw.take i)
  rw [List.length_take,Nat.min_eq_left h] at h1
  rw [e,Nat.add_mul_div_left _ _ (Nat.pow_pos (by omega)),Nat.div_eq_of_lt h1,Nat.zero_add]
 ·have h0:=val_lt hw
  have h2 : 4294967296 ^ l.length ≤ 4294967296 ^ i:=Nat.pow_le_pow_right (by omega) (by omega)
  rw [Nat.div_eq_of_lt (by omega),List.drop_eq_nil_of_le (by omega)]; rfl

theorem val_hd (l : List Int) (i : Nat) : val (l.drop i) = (l.getD i 0).toNat + 4294967296 * val (l.drop (i + 1)):=by
 by_cases h : i < l.length
 ·rw [List.drop_eq_getElem_cons h,getD_lt' h]; rfl
 ·rw [List.drop_eq_nil_of_le (by omega),List.drop_eq_nil_of_le (by omega),List.getD_eq_getElem?_getD,List.getElem?_eq_none (by omega)]; rfl

theorem right_word {l : List Int} (hw : Ws l) {i n : Nat} (hn : n < 32) :
  (((l.getD (i + 1) 0).toNat * 4294967296 + (l.getD i 0).toNat) / 2 ^ n) % 4294967296 = val l / 2 ^ n / 4294967296 ^ i % 4294967296:=by
 rw [Nat.div_div_eq_div_mul,Nat.mul_comm (2 ^ n),← Nat.div_div_eq_div_mul,val_drop hw,val_hd l i,val_hd l (i + 1)]
 generalize (l.getD (i + 1) 0).toNat = y
 generalize (l.getD i 0).toNat = x
 generalize val (l.drop (i + 1 + 1)) = z
 have e : (4294967296 : Nat) = 2 ^ n * 2 ^ (32 - n):=by
  rw [← Nat.pow_add,show n + (32 - n) = 32 by omega]
 have h : x + 4294967296 * (y + 4294967296 * z) = (y * 4294967296 + x) + 2 ^ n * (2 ^ (32 - n) * 4294967296 * z):=by
  have : 2 ^ n * (2 ^ (32 - n) * 4294967296 * z) = 4294967296 * (4294967296 * z):=by
   rw [← Nat.mul_assoc,← Nat.mul_assoc,← e,Nat.mul_assoc]
  omega
 rw [h,Nat.add_mul_div_left _ _ (Nat.two_pow_pos n)]
 rw [Nat.mul_comm (2 ^ (32 - n)),Nat.mul_assoc,Nat.add_mul_mod_self_left]

theorem shr_u64 {a n : Nat} (hn : n < 32) : shrR .u64 (a : Int) (n : Int) = ((a / 2 ^ n : Nat) : Int):=by
 unfold shrR
 have h1 : min (n : Int).toNat (IntKind.bits .u64) = n:=by show min n 64 = n; omega
 rw [h1]
 rw [Int.fdiv_eq_ediv_of_nonneg _ (by have:=Int.pow_pos (n:=(2 : Int)) (m:=n) (by decide); omega)]
 simp

theorem or_word' {a b : Nat} (ha : a < 4294967296) (hb : b < 4294967296) : bitsR .or .u64 (b : Int) ((a * 4294967296 : Nat) : Int) = ((a * 4294967296 + b : Nat) : Int):=by
 rw [← or_word ha hb,or_u64 (by omega) (by omega),or_u64 (by omega) (by omega),Nat.or_comm]

theorem c_right (a : List Int) (n : Nat) (hn : n < 32) (hsz : a.length ≤ 1000000) :
  FnH Tryz.prog 282 [wL a,.int .i64 n] [] (.ms 0 0 a.length a.length 1) [(0,.arr 1 a.length ((wdN a.length (val a / 2 ^ n)).map (.int .u32)))]:=by
 refine FnH.intro lay mixed Tryz.func282 (by kernel_rfl) rfl (by kernel_rfl) rfl fun hok=>?_
 have hw : Ws a:=Ws.ok hok.1.2
 conv=>whnf
 refine ⟨⟨by simp,by omega,by simp; omega,by simp; omega⟩,.wr ?_⟩
 conv=>whnf
 refine LoopE.of <| LoopSpec.inv (.refl _ _) (fun x : Nat × List Int=>x.1 ≤ a.length ∧ x.2.length = a.length ∧ ∀ k,k < x.1 → x.2.getD k 0 = ((val a / 2 ^ n / 4294967296 ^ k % 4294967296 : Nat) : Int))
  (fun | (i,_)=>[(12,.int .i64 i)]) (fun | (_,out)=>[(0,.arr 1 a.length (out.map (.int .u32)))]) (fun x=>a.length - x.1) (0,List.replicate a.length 0) ?_ (fun _=>rfl) ?_ ?_
 ·refine ⟨Nat.zero_le _,by simp,?_⟩
  intro k hk
  exact absurd hk (Nat.not_lt_zero _)
 ·refine ⟨?_,.mk ?_ ⟨by simp,trivial⟩⟩
  ·all_goals exact wk
  ·repeat' first|exact rfl|exact trivial|exact wR|exact lR _|apply aI
   all_goals first | (simp; done) | exact leRL_of (by simp)
 rintro ⟨i,out⟩ ⟨hi,ho,hz⟩ _
 simp only at hi ho hz
 conv=>whnf
 refine And.intro (fun h=>?_) (fun h=>?_)
 ·have hlt : i < a.length:=by simpa using h
  conv=>whnf
  refine .gen _ _ (FnH.frame [] (c_word a i) ⟨rfl,rfl,rfl,rfl⟩ trivial (leL_refl _)) fun _=>?_
  conv=>whnf
  refine zA ?_;conv=>whnf
  refine .gen _ _ (FnH.frame [] (c_word a (i + 1)) ⟨rfl,rfl,rfl,rfl⟩ trivial (leL_refl _)) fun _=>?_
  have hx:=hw.getD (i:=i)
  have hy:=hw.getD (i:=i + 1)
  have hrw:=right_word hw (i:=i) hn
  generalize a.getD i 0 = x0 at *
  generalize a.getD (i + 1) 0 = y0 at *
  obtain ⟨x,rfl⟩ : ∃ x : Nat,x0 = x:=⟨x0.toNat,by omega⟩
  obtain ⟨y,rfl⟩ : ∃ y : Nat,y0 = y:=⟨y0.toNat,by omega⟩
  simp only [Int.toNat_natCast] at hrw
  conv=>whnf
  refine ⟨by decide,?_⟩
  rw [shl_word (by omega)]
  conv=>whnf
  refine ⟨by omega,?_⟩
  rw [or_word' (by omega) (by omega),shr_u64 hn]
  conv=>whnf
  refine ⟨⟨by omega,by simp; omega⟩,?_⟩
  rw [wrapu32_mod,hrw]
  conv=>whnf
  refine ⟨by simp; omega,rfl,?_⟩
  conv=>whnf
  refine zA ?_;conv=>whnf
  refine ⟨(i + 1,out.set i ((val a / 2 ^ n / 4294967296 ^ i % 4294967296 : Nat) : Int)),?_,?_,?_⟩
  ·refine ⟨hlt,by simpa using ho,?_⟩
   intro k hk
   have hk : k < i + 1:=hk
   show (out.set i ((val a / 2 ^ n / 4294967296 ^ i % 4294967296 : Nat) : Int)).getD k 0 = _
   by_cases hki : k = i
   ·subst hki
    rw [getD_lt' (by simp; omega),List.getElem_set_self]
   ·rw [List.getD_eq_getElem?_getD,List.getElem?_set_ne (by omega),← List.getD_eq_getElem?_getD]
    exact hz k (by omega)
  ·refine ⟨?_,.mk ?_ ⟨by simp,trivial⟩⟩
   ·all_goals exact wk
   ·repeat' first|exact rfl|exact trivial|exact wR|exact lR _|apply aI
    refine leRL_of ?_
    rw [List.map_set]
    simp [strip]
  ·show a.length - (i + 1) < a.length - i
   omega
 ·have hia : i = a.length:=by have : ¬ i < a.length:=by simpa using h
                              omega
  subst hia
  conv=>whnf
  refine ⟨⟨_,_,.refl _ _,?_⟩⟩
  conv=>whnf
  refine ⟨?_,rfl,by simp [nextId],.mk ?_ ⟨by simp,trivial⟩⟩
  ·show AV.ms _ _ _ _ _ = _
   simp
   exact ⟨rfl,rfl⟩
  ·repeat' first|exact rfl|exact trivial|exact wR|exact lR _|apply aI
   refine leRL_of ?_
   rw [wdN_of ho hz]

def mid (us : List Int) (off : Nat) (s : List Int) : List Int:=us.take off ++ (s ++ us.drop (off + s.length))

theorem mid_len {us s : List Int} {off : Nat} (h : off + s.length ≤ us.length) : (mid us off s).length = us.length:=by
 simp only [mid,List.length_append,List.length_take,List.length_drop]; omega

theorem mid_nil {us : List Int} {off : Nat} : mid us off [] = us:=by simp [mid]

theorem mid_get {us s : List Int} {off : Nat} (h : off + s.length < us.length) : (mid us off s).getD (off + s.length) 0 = us.getD (off + s.length) 0:=by
 simp only [mid,List.getD_eq_getElem?_getD]
 rw [List.getElem?_append_right (by simp; omega),List.getElem?_append_right (by simp; omega),List.getElem?_drop]
 congr 2
 simp only [List.length_take]; omega

theorem mid_set {us s : List Int} {off : Nat} {y : Int} (h : off + s.length < us.length) : (mid us off s).set (off + s.length) y = mid us off (s ++ [y]):=by
 simp only [mid]
 have h1 : (us.take off).length = off:=by simp; omega
 rw [List.set_append_right _ _ (by omega),h1,show off + s.length - off = s.length by omega,List.set_append_right _ _ (by omega),Nat.sub_self,List.drop_eq_getElem_cons h]
 simp only [List.set_cons_zero,List.append_assoc,List.length_append,List.length_singleton]
 rfl

theorem mid_Ws {us s : List Int} {off : Nat} (hu : Ws us) (hs : Ws s) : Ws (mid us off s):=(hu.take _).append (hs.append (hu.drop _))

theorem sub_word {x low b : Nat} (hx : x < 4294967296) (hl : low < 4294967296) (hb : b ≤ 1) :
  ∃ D : Nat,IntKind.wrap .u64 (IntKind.wrap .u64 ((x : Int) - (low : Int)) - (b : Int)) = (D : Int) ∧ D < 18446744073709551616 ∧ D / 9223372036854775808 ≤ 1 ∧ x + 4294967296 * (D / 9223372036854775808) = D % 4294967296 + low + b:=by
 have hw : ∀ z : Int,IntKind.wrap .u64 z = z % 18446744073709551616:=by
  intro z; simp [IntKind.wrap,IntKind.bits,IntKind.signed]
 rw [hw,hw]
 refine ⟨((((x : Int) - (low : Int)) % 18446744073709551616 - (b : Int)) % 18446744073709551616).toNat,?_,?_,?_,?_⟩ <;> omega

theorem shr_63 {a : Nat} : shrR .u64 (a : Int) 63 = ((a / 9223372036854775808 : Nat) : Int):=by
 unfold shrR
 have h1 : min (63 : Int).toNat (IntKind.bits .u64) = 63:=by decide
 rw [h1]
 rw [Int.fdiv_eq_ediv_of_nonneg _ (by decide)]
 simp

theorem take_arith {p B n w x y c c' b b' low vs s nv : Nat} (h1 : x + B * b' = y + low + b) (h2 : c + n * w = low + B * c') (h : vs + p * (b + c) = s + nv) :
  vs + p * x + p * B * (b' + c') = s + p * y + (nv + p * (n * w)):=by
 have e1 : p * (x + B * b') = p * (y + low + b):=by rw [h1]
 have e2 : p * (c + n * w) = p * (low + B * c'):=by rw [h2]
 rw [Nat.mul_add,Nat.mul_add,Nat.mul_add,← Nat.mul_assoc] at e1
 rw [Nat.mul_add,Nat.mul_add p low,← Nat.mul_assoc p B] at e2
 rw [Nat.mul_add] at h
 rw [Nat.mul_add (p * B)]
 omega

theorem val_take_getD {l : List Int} {i : Nat} : val (l.take (i + 1)) = val (l.take i) + 4294967296 ^ i * (l.getD i 0).toNat:=by
 by_cases h : i < l.length
 ·rw [val_take_succ h,getD_lt' h]
 ·rw [List.take_of_length_le (by omega),List.take_of_length_le (by omega),List.getD_eq_getElem?_getD,List.getElem?_eq_none (by omega)]
  simp

theorem carry_step {p B a n w c : Nat} (hp : 0 < p) (h : c = a / p) : (c + n * w) / B = (a + p * (n * w)) / (p * B):=by
 rw [← Nat.div_div_eq_div_mul,Nat.add_mul_div_left _ _ hp,h]

theorem carry_lt {B n v p : Nat} (hn : n ≤ B) (hv : v < p) (hB : 0 < B) : n * v / p < B:=by
 rw [Nat.div_lt_iff_lt_mul (by omega)]
 have h1 : n * v ≤ B * v:=Nat.mul_le_mul_right _ hn
 have h2 : B * v < B * p:=Nat.mul_lt_mul_of_pos_left hv hB
 omega

def takeN (x y k : Nat) : Nat:=if x < y then x + 4294967296 ^ k - y else x - y

theorem c_take (us v : List Int) (off cap n : Nat) (hus : Ws us) (ho : off + v.length + 1 ≤ us.length) (hn : n ≤ 4294967296) (hsz : us.length ≤ 2000000)
  (hlim : n * val v < 4294967296 ^ (v.length + 1)) :
  FnH Tryz.prog 280 [.ms 0 off (v.length + 1) cap 1,wL v,.int .u64 n] [(0,.arr 1 us.length (us.map (.int .u32)))]
   (.dec (val ((us.drop off).take (v.length + 1)) < n * val v))
   [(0,.arr 1 us.length ((mid us off (wdN (v.length + 1) (takeN (val ((us.drop off).take (v.length + 1))) (n * val v) (v.length + 1)))).map (.int .u32)))]:=by
 refine FnH.intro lay mixed Tryz.func280 (by kernel_rfl) rfl (by kernel_rfl) rfl fun hok=>?_
 have hw : Ws v:=Ws.ok hok.2.1.2
 conv=>whnf
 refine LoopE.of <| LoopSpec.inv (.refl _ _) (fun x : Nat × Nat × Nat × List Int × List Int=>x.1 ≤ v.length + 1 ∧ x.2.2.1 ≤ 1 ∧ x.2.1 = n * val (v.take x.1) / 4294967296 ^ x.1 ∧ Ws x.2.2.2.1 ∧ x.2.2.2.1.length = x.1 ∧ x.2.2.2.2 = mid us off x.2.2.2.1 ∧
   val ((us.drop off).take x.1) + 4294967296 ^ x.1 * (x.2.2.1 + x.2.1) = val x.2.2.2.1 + n * val (v.take x.1))
  (fun | (i,c,b,_)=>[(13,.int .i64 i),(8,.int .u64 b),(7,.int .u64 c)]) (fun | (_,_,_,_,M)=>[(0,.arr 1 us.length (M.map (.int .u32)))])
  (fun x=>v.length + 1 - x.1) (0,0,0,[],us) ?_ (fun _=>rfl) ?_ ?_
 ·refine ⟨Nat.zero_le _,by simp,?_,Ws.nil,rfl,?_,?_⟩
  ·simp [val]
  ·simp [mid_nil]
  ·simp [val]
 ·refine ⟨?_,.mk ?_ ⟨by simp,trivial⟩⟩
  ·all_goals exact wk
  ·repeat' first|exact rfl|exact trivial|exact wR|exact lR _|apply aI
   all_goals first | (simp; done) | exact leRL_of (by simp)
 rintro ⟨i,c,b,s,M⟩ ⟨hi,hb,hc,hws,hsl,hM,hv⟩ _
 simp only at hi hb hc hws hsl hM hv
 conv=>whnf
 refine And.intro (fun h=>?_) (fun h=>?_)
 ·have hlt : i < v.length + 1:=by omega
  have hML : M.length = us.length:=by rw [hM,mid_len (by omega)]
  conv=>whnf
  refine .gen _ _ (FnH.frame [] (c_word v i) ⟨rfl,rfl,rfl,rfl⟩ trivial (leL_refl _)) fun _=>?_
  have hwd:=hw.getD (i:=i)
  have hvt:=val_take_getD (l:=v) (i:=i)
  generalize v.getD i 0 = w0 at *
  obtain ⟨w,rfl⟩ : ∃ w : Nat,w0 = w:=⟨w0.toNat,by omega⟩
  rw [Int.toNat_natCast] at hvt
  have hlow : val (v.take i) < 4294967296 ^ i:=by
   have h1:=val_lt (hw.take i)
   have h2 : 4294967296 ^ (v.take i).length ≤ 4294967296 ^ i:=Nat.pow_le_pow_right (by omega) (by simp; omega)
   omega
  have hcl : c < 4294967296:=by rw [hc]; exact carry_lt hn hlow (by omega)
  have hnw : n * w ≤ 4294967296 * 4294967295:=Nat.mul_le_mul hn (by omega)
  have hi2 : off + i < M.length:=by omega
  have hg : M.getD (off + i) 0 = us.getD (off + i) 0:=by rw [hM,← hsl]; exact mid_get (by omega)
  have hx:=hus.getD (i:=off + i)
  have hut:=val_take_getD (l:=us.drop off) (i:=i)
  rw [show (us.drop off).getD i 0 = us.getD (off + i) 0 by simp only [List.getD_eq_getElem?_getD,List.getElem?_drop]] at hut
  generalize us.getD (off + i) 0 = x0 at *
  obtain ⟨x,rfl⟩ : ∃ x : Nat,x0 = x:=⟨x0.toNat,by omega⟩
  rw [Int.toNat_natCast] at hut
  conv=>whnf
  rw [show ((n : Int) * (w : Int)) = ((n * w : Nat) : Int) from (Int.natCast_mul n w).symm,wrap_u64 (n:=((n * w : Nat) : Int)) (by omega) (by omega)]
  rw [show ((c : Int) + ((n * w : Nat) : Int)) = ((c + n * w : Nat) : Int) from (Int.natCast_add c (n * w)).symm,wrap_u64 (n:=((c + n * w : Nat) : Int)) (by omega) (by omega)]
  generalize hC : c + n * w = C at *
  conv=>whnf
  refine ⟨⟨Int.natCast_nonneg _,Int.ofNat_lt.2 hlt⟩,?_⟩
  conv=>whnf
  refine aidxN' 0 (i:=off + i) (by omega) hi2 ?_
  rw [hg]
  refine ⟨rfl,?_⟩
  conv=>whnf
  rw [wrapu32_mod (a:=C),wrap_u64 (n:=(x : Int)) (by omega) (by omega)]
  have hCd:=Nat.mod_add_div C 4294967296
  have hlo : C % 4294967296 < 4294967296:=Nat.mod_lt _ (by decide)
  generalize C % 4294967296 = lo at *
  rw [wrap_u64 (n:=(lo : Int)) (by omega) (by omega)]
  obtain ⟨D,hD,hD1,hD2,hD3⟩:=sub_word (x:=x) (low:=lo) (b:=b) (by omega) (by omega) hb
  rw [hD,wrapu32_mod (a:=D)]
  have hy : D % 4294967296 < 4294967296:=Nat.mod_lt _ (by decide)
  generalize D % 4294967296 = y at *
  refine ⟨⟨Int.natCast_nonneg _,Int.ofNat_lt.2 hlt⟩,?_⟩
  dsimp only [putE]
  rw [aops]
  dsimp only [guardC]
  dsimp only [aopW,aop]
  conv=>whnf
  refine ⟨by rw [List.length_map]; omega,rfl,?_⟩
  conv=>whnf
  refine ⟨by decide,?_⟩
  rw [shr_63]
  conv=>whnf
  refine ⟨by decide,?_⟩
  rw [shr_word rfl]
  conv=>whnf
  refine zA ?_;conv=>whnf
  refine ⟨(i + 1,C / 4294967296,D / 9223372036854775808,s ++ [(y : Int)],M.set (off + i) (y : Int)),?_,?_,?_⟩
  ·refine ⟨hlt,hD2,?_,hws.append (Ws.cons (by omega) Ws.nil),by simp [hsl],?_,?_⟩
   ·show C / 4294967296 = n * val (v.take (i + 1)) / 4294967296 ^ (i + 1)
    rw [hvt,Nat.mul_add,Nat.mul_left_comm n,Nat.pow_succ,← hC]
    exact carry_step (Nat.pow_pos (by omega)) hc
   ·show M.set (off + i) (y : Int) = mid us off (s ++ [(y : Int)])
    rw [hM,← hsl]
    exact mid_set (by omega)
   ·show val ((us.drop off).take (i + 1)) + 4294967296 ^ (i + 1) * (D / 9223372036854775808 + C / 4294967296) = val (s ++ [(y : Int)]) + n * val (v.take (i + 1))
    have e1 : val (s ++ [(y : Int)]) = val s + 4294967296 ^ i * y:=by rw [val_append,hsl]; simp [val]
    rw [hut,hvt,e1,Nat.mul_add n,Nat.mul_left_comm n,Nat.pow_succ]
    exact take_arith hD3 (by omega) hv
  ·refine ⟨?_,.mk ?_ ⟨by simp,trivial⟩⟩
   ·all_goals exact wk
   ·repeat' first|exact rfl|exact trivial|exact wR|exact lR _|apply aI
    refine leRL_of ?_
    rw [List.map_set]
    simp [strip]
  ·show v.length + 1 - (i + 1) < v.length + 1 - i
   omega
 ·have hia : i = v.length + 1:=by omega
  subst hia
  rw [List.take_of_length_le (l:=v) (by omega)] at hc hv
  rw [Nat.div_eq_of_lt hlim] at hc
  subst hc
  have hsg:=val_lt ((hus.drop off).take (v.length + 1))
  rw [List.length_take,List.length_drop,Nat.min_eq_left (by omega)] at hsg
  have hvs:=val_lt hws
  rw [hsl] at hvs
  have hfin : (((b : Int) = 1) = (val ((us.drop off).take (v.length + 1)) < n * val v)) ∧ val s = takeN (val ((us.drop off).take (v.length + 1))) (n * val v) (v.length + 1):=by
   unfold takeN
   generalize val ((us.drop off).take (v.length + 1)) = sg at *
   generalize 4294967296 ^ (v.length + 1) = P at *
   generalize n * val v = nv at *
   have hb2 : b = 0 ∨ b = 1:=by omega
   rcases hb2 with rfl | rfl
   ·rw [Nat.add_zero,Nat.mul_zero] at hv
    refine ⟨?_,?_⟩
    ·exact propext ⟨fun h=>by omega,fun h=>by omega⟩
    ·split <;> omega
   ·rw [Nat.add_zero,Nat.mul_one] at hv
    refine ⟨?_,?_⟩
    ·exact propext ⟨fun h=>by omega,fun h=>by omega⟩
    ·split <;> omega
  have hse:=wdN_eq hws hsl hfin.2
  conv=>whnf
  refine ⟨⟨_,_,.refl _ _,?_⟩⟩
  conv=>whnf
  refine ⟨?_,rfl,by simp [nextId],.mk ?_ ⟨by simp,trivial⟩⟩
  ·rw [hfin.1]
   exact le_refl _
  ·repeat' first|exact rfl|exact trivial|exact wR|exact lR _|apply aI
   refine leRL_of ?_
   rw [hM,hse]

theorem give_arith {p B c c' x w y vs s nv : Nat} (h1 : c + (x + w) = y + B * c') (h : vs + nv = s + p * c) :
  vs + p * x + (nv + p * w) = s + p * y + p * B * c':=by
 have e1 : p * (c + (x + w)) = p * (y + B * c'):=by rw [h1]
 rw [Nat.mul_add,Nat.mul_add,Nat.mul_add,← Nat.mul_assoc] at e1
 omega

theorem c_give (us v : List Int) (off cap : Nat) (hus : Ws us) (ho : off + v.length + 1 ≤ us.length) (hsz : us.length ≤ 2000000) :
  FnH Tryz.prog 281 [.ms 0 off (v.length + 1) cap 1,wL v] [(0,.arr 1 us.length (us.map (.int .u32)))]
   (.tup [])
   [(0,.arr 1 us.length ((mid us off (wdN (v.length + 1) ((val ((us.drop off).take (v.length + 1)) + val v) % 4294967296 ^ (v.length + 1)))).map (.int .u32)))]:=by
 refine FnH.intro lay mixed Tryz.func281 (by kernel_rfl) rfl (by kernel_rfl) rfl fun hok=>?_
 have hw : Ws v:=Ws.ok hok.2.1.2
 conv=>whnf
 refine LoopE.of <| LoopSpec.inv (.refl _ _) (fun x : Nat × Nat × List Int × List Int=>x.1 ≤ v.length + 1 ∧ x.2.1 ≤ 1 ∧ Ws x.2.2.1 ∧ x.2.2.1.length = x.1 ∧ x.2.2.2 = mid us off x.2.2.1 ∧
   val ((us.drop off).take x.1) + val (v.take x.1) = val x.2.2.1 + 4294967296 ^ x.1 * x.2.1)
  (fun | (i,c,_)=>[(8,.int .i64 i),(4,.int .u64 c)]) (fun | (_,_,_,M)=>[(0,.arr 1 us.length (M.map (.int .u32)))])
  (fun x=>v.length + 1 - x.1) (0,0,[],us) ?_ (fun _=>rfl) ?_ ?_
 ·refine ⟨Nat.zero_le _,by simp,Ws.nil,rfl,?_,?_⟩
  ·simp [mid_nil]
  ·simp [val]
 ·refine ⟨?_,.mk ?_ ⟨by simp,trivial⟩⟩
  ·all_goals exact wk
  ·repeat' first|exact rfl|exact trivial|exact wR|exact lR _|apply aI
   all_goals first | (simp; done) | exact leRL_of (by simp)
 rintro ⟨i,c,s,M⟩ ⟨hi,hb,hws,hsl,hM,hv⟩ _
 simp only at hi hb hws hsl hM hv
 conv=>whnf
 refine And.intro (fun h=>?_) (fun h=>?_)
 ·have hlt : i < v.length + 1:=by omega
  have hML : M.length = us.length:=by rw [hM,mid_len (by omega)]
  have hwd:=hw.getD (i:=i)
  have hvt:=val_take_getD (l:=v) (i:=i)
  have cw:=c_word v i
  generalize v.getD i 0 = w0 at *
  obtain ⟨w,rfl⟩ : ∃ w : Nat,w0 = w:=⟨w0.toNat,by omega⟩
  rw [Int.toNat_natCast] at hvt
  have hi2 : off + i < M.length:=by omega
  have hg : M.getD (off + i) 0 = us.getD (off + i) 0:=by rw [hM,← hsl]; exact mid_get (by omega)
  have hx:=hus.getD (i:=off + i)
  have hut:=val_take_getD (l:=us.drop off) (i:=i)
  rw [show (us.drop off).getD i 0 = us.getD (off + i) 0 by simp only [List.getD_eq_getElem?_getD,List.getElem?_drop]] at hut
  generalize us.getD (off + i) 0 = x0 at *
  obtain ⟨x,rfl⟩ : ∃ x : Nat,x0 = x:=⟨x0.toNat,by omega⟩
  rw [Int.toNat_natCast] at hut
  conv=>whnf
  refine ADraw.auto (by kernel_rfl) ?_;conv=>whnf
  refine ⟨⟨Int.natCast_nonneg _,Int.ofNat_lt.2 hlt⟩,?_⟩
  conv=>whnf
  refine aidxN' 0 (i:=off + i) (by omega) hi2 ?_
  rw [hg]
  refine ⟨rfl,?_⟩
  conv=>whnf
  refine ACallP.pure _ _ ?_ ⟨rfl,rfl⟩ cw ?_
  ·exact leL_refl _
  conv=>whnf
  rw [wrap_u64 (n:=(x : Int)) (by omega) (by omega)]
  rw [show ((x : Int) + (w : Int)) = ((x + w : Nat) : Int) from (Int.natCast_add x w).symm,wrap_u64 (n:=((x + w : Nat) : Int)) (by omega) (by omega)]
  rw [show ((c : Int) + ((x + w : Nat) : Int)) = ((c + (x + w) : Nat) : Int) from (Int.natCast_add c (x + w)).symm,wrap_u64 (n:=((c + (x + w) : Nat) : Int)) (by omega) (by omega)]
  generalize hC : c + (x + w) = C at *
  conv=>whnf
  rw [wrapu32_mod (a:=C)]
  have hCd:=Nat.mod_add_div C 4294967296
  have hlo : C % 4294967296 < 4294967296:=Nat.mod_lt _ (by decide)
  generalize C % 4294967296 = y at *
  refine ⟨⟨Int.natCast_nonneg _,Int.ofNat_lt.2 hlt⟩,?_⟩
  dsimp only [putE]
  rw [aops]
  dsimp only [guardC]
  dsimp only [aopW,aop]
  conv=>whnf
  refine ⟨by rw [List.length_map]; omega,rfl,?_⟩
  conv=>whnf
  refine ⟨by decide,?_⟩
  rw [shr_word rfl]
  conv=>whnf
  refine zA ?_;conv=>whnf
  refine ⟨(i + 1,C / 4294967296,s ++ [(y : Int)],M.set (off + i) (y : Int)),?_,?_,?_⟩
  ·refine ⟨hlt,(by omega : C / 4294967296 ≤ 1),hws.append (Ws.cons (by omega) Ws.nil),by simp [hsl],?_,?_⟩
   ·show M.set (off + i) (y : Int) = mid us off (s ++ [(y : Int)])
    rw [hM,← hsl]
    exact mid_set (by omega)
   ·show val ((us.drop off).take (i + 1)) + val (v.take (i + 1)) = val (s ++ [(y : Int)]) + 4294967296 ^ (i + 1) * (C / 4294967296)
    have e1 : val (s ++ [(y : Int)]) = val s + 4294967296 ^ i * y:=by rw [val_append,hsl]; simp [val]
    rw [hut,hvt,e1,Nat.pow_succ]
    exact give_arith (by omega) hv
  ·refine ⟨?_,.mk ?_ ⟨by simp,trivial⟩⟩
   ·all_goals exact wk
   ·repeat' first|exact rfl|exact trivial|exact wR|exact lR _|apply aI
    refine leRL_of ?_
    rw [List.map_set]
    simp [strip]
  ·show v.length + 1 - (i + 1) < v.length + 1 - i
   omega
 ·have hia : i = v.length + 1:=by omega
  subst hia
  rw [List.take_of_length_le (l:=v) (by omega)] at hv
  have hvs:=val_lt hws
  rw [hsl] at hvs
  have hfin : val s = (val ((us.drop off).take (v.length + 1)) + val v) % 4294967296 ^ (v.length + 1):=by
   rw [hv,Nat.add_mul_mod_self_left,Nat.mod_eq_of_lt hvs]
  have hse:=wdN_eq hws hsl hfin
  conv=>whnf
  refine ⟨⟨_,_,.refl _ _,?_⟩⟩
  conv=>whnf
  refine ⟨trivial,rfl,by simp [nextId],.mk ?_ ⟨by simp,trivial⟩⟩
  repeat' first|exact rfl|exact trivial|exact wR|exact lR _|apply aI
  refine leRL_of ?_
  rw [hM,hse]

theorem guess_gt {B p V s top next head u2 guess rest : Nat} (hV : (top * B + next) * p ≤ V) (hs : s < (head * B + u2 + 1) * p)
  (hg : guess * top + rest = head) (hc : rest * B + u2 < guess * next) : s / V < guess:=by
 apply Classical.byContradiction
 intro hn
 have h1 : guess * V ≤ s:=by
  have : guess * V ≤ (s / V) * V:=Nat.mul_le_mul_right _ (by omega)
  exact Nat.le_trans this (Nat.div_mul_le_self s V)
 have h2 : guess * ((top * B + next) * p) < (head * B + u2 + 1) * p:=Nat.lt_of_le_of_lt (Nat.le_trans (Nat.mul_le_mul_left _ hV) h1) hs
 rw [← Nat.mul_assoc] at h2
 have h3:=Nat.lt_of_mul_lt_mul_right h2
 have h4 : guess * (top * B + next) = guess * top * B + guess * next:=by rw [Nat.mul_add,Nat.mul_assoc]
 have h5 : head * B = guess * top * B + rest * B:=by rw [← hg,Nat.add_mul]
 omega

theorem guess_ge {p V s top head : Nat} (ht : 0 < top) (hV : top * p ≤ V) (hs : s < (head + 1) * p) : s / V ≤ head / top:=by
 rw [Nat.le_div_iff_mul_le ht]
 apply Classical.byContradiction
 intro hn
 have h1 : (head + 1) * p ≤ s / V * top * p:=Nat.mul_le_mul_right _ (by omega)
 have h2 : s / V * top * p ≤ s / V * V:=by rw [Nat.mul_assoc]; exact Nat.mul_le_mul_left _ hV
 have h3:=Nat.div_mul_le_self s V
 omega

theorem guess_le {B p V s top next head u2 guess rest : Nat} (hB : 0 < B) (hp : 0 < p) (ht : 0 < top) (hV1 : (top * B + next) * p ≤ V) (hV : V < (top * B + next + 1) * p) (hs : (head * B + u2) * p ≤ s)
  (hg : guess * top + rest = head) (hc : guess * next ≤ rest * B + u2) (hgB : guess < B) : guess ≤ s / V + 1:=by
 have hV0 : 0 < V:=by
  have : 0 < (top * B + next) * p:=Nat.mul_pos (by have:=Nat.mul_pos ht hB; omega) hp
  omega
 have h1 : guess * (top * B + next) ≤ head * B + u2:=by
  have h4 : guess * (top * B + next) = guess * top * B + guess * next:=by rw [Nat.mul_add,Nat.mul_assoc]
  have h5 : head * B = guess * top * B + rest * B:=by rw [← hg,Nat.add_mul]
  omega
 have h2 : guess * (top * B + next) * p ≤ s:=Nat.le_trans (Nat.mul_le_mul_right _ h1) hs
 have h3 : guess * V ≤ guess * ((top * B + next + 1) * p):=Nat.mul_le_mul_left _ (by omega)
 have h4 : guess * ((top * B + next + 1) * p) = guess * (top * B + next) * p + guess * p:=by
  rw [← Nat.mul_assoc,Nat.mul_add guess _ 1,Nat.mul_one,Nat.add_mul]
 have h5 : guess * p < V:=by
  have h6 : guess * p < B * p:=Nat.mul_lt_mul_of_pos_right hgB hp
  have h7 : B * p ≤ (top * B + next) * p:=Nat.mul_le_mul_right _ (by have:=Nat.le_mul_of_pos_left B ht; omega)
  omega
 have h6 : guess * V < s + V:=by omega
 have h8 : guess < s / V + 1 + 1:=by
  have h9:=Nat.lt_div_mul_add (a:=s) hV0
  have h10 : guess * V < (s / V + 1 + 1) * V:=by
   rw [Nat.add_mul,Nat.add_mul,Nat.one_mul]; omega
  exact Nat.lt_of_mul_lt_mul_right h10
 omega

theorem guess_small {B top head guess rest : Nat} (hg : guess * top + rest = head) (hh : head < (top + 1) * B) (hr : B ≤ rest) : guess < B:=by
 have h1 : guess * top < top * B:=by rw [Nat.add_mul,Nat.one_mul] at hh; omega
 rw [Nat.mul_comm top] at h1
 exact Nat.lt_of_mul_lt_mul_right h1

theorem take_fix {V s g q : Nat} (hV : 0 < V) (hq : q = s / V) (h1 : q ≤ g) (h2 : g ≤ q + 1) : (s < g * V) = (g = q + 1):=by
 subst hq
 have h3:=Nat.div_mul_le_self s V
 have h4:=Nat.lt_div_mul_add (a:=s) hV
 refine propext ⟨fun h=>?_,fun h=>?_⟩
 ·apply Classical.byContradiction
  intro hn
  have : g = s / V:=by omega
  rw [this] at h; omega
 ·rw [h,Nat.add_mul,Nat.one_mul]; omega

theorem take_rest {V s q k : Nat} (hq : q = s / V) : takeN s (q * V) k = s % V:=by
 subst hq
 have h3:=Nat.div_mul_le_self s V
 have h4:=Nat.div_add_mod s V
 rw [Nat.mul_comm] at h4
 unfold takeN
 rw [if_neg (by omega)]
 omega

theorem give_rest {V s q k : Nat} (hV : 0 < V) (hq : q = s / V) (hs : V < 4294967296 ^ k) : (takeN s ((q + 1) * V) k + V) % 4294967296 ^ k = s % V:=by
 subst hq
 have h3:=Nat.div_mul_le_self s V
 have h4:=Nat.div_add_mod s V
 have h5:=Nat.lt_div_mul_add (a:=s) hV
 rw [Nat.mul_comm] at h4
 have hm:=Nat.mod_lt s hV
 unfold takeN
 rw [Nat.add_mul,Nat.one_mul,if_pos (by omega)]
 generalize s / V * V = x at *
 generalize s % V = r at *
 generalize 4294967296 ^ k = P at *
 rw [show s + P - (x + V) + V = r + P by omega,Nat.add_mod_right,Nat.mod_eq_of_lt (by omega)]

theorem mid_drop {us s : List Int} {off : Nat} (h : off + s.length ≤ us.length) : (mid us off s).drop off = s ++ us.drop (off + s.length):=by
 simp only [mid]
 rw [List.drop_append_of_le_length (by simp; omega),List.drop_eq_nil_of_le (by simp; omega),List.nil_append]

theorem mid_val {us s : List Int} {off : Nat} (h : off + s.length ≤ us.length) :
  val (mid us off s) + 4294967296 ^ off * val ((us.drop off).take s.length) = val us + 4294967296 ^ off * val s:=by
 have e1 : val us = val (us.take off) + 4294967296 ^ off * val (us.drop off):=val_take_drop off (by omega)
 have e2 : val (us.drop off) = val ((us.drop off).take s.length) + 4294967296 ^ s.length * val ((us.drop off).drop s.length):=val_take_drop s.length (by simp; omega)
 have e3 : val (mid us off s) = val (us.take off) + 4294967296 ^ off * (val s + 4294967296 ^ s.length * val ((us.drop off).drop s.length)):=by
  simp only [mid]
  rw [val_append,val_append,List.drop_drop,List.length_take,Nat.min_eq_left (by omega)]
 rw [e3,e1,e2,Nat.mul_add,Nat.mul_add]
 omega

theorem val_three {l : List Int} {n : Nat} (hl : l.length = n + 3) : val l = val (l.take n) + 4294967296 ^ n * ((l.getD n 0).toNat + 4294967296 * ((l.getD (n + 1) 0).toNat + 4294967296 * (l.getD (n + 2) 0).toNat)):=by
 rw [val_take_drop n (by omega),val_hd l n,val_hd l (n + 1),val_hd l (n + 1 + 1),List.drop_eq_nil_of_le (by omega : l.length ≤ n + 1 + 1 + 1)]
 rfl

theorem val_two {l : List Int} {n : Nat} (hl : l.length = n + 2) : val l = val (l.take n) + 4294967296 ^ n * ((l.getD n 0).toNat + 4294967296 * (l.getD (n + 1) 0).toNat):=by
 rw [val_take_drop n (by omega),val_hd l n,val_hd l (n + 1),List.drop_eq_nil_of_le (by omega : l.length ≤ n + 1 + 1)]
 rfl

theorem take_lt {l : List Int} (hw : Ws l) (n : Nat) : val (l.take n) < 4294967296 ^ n:=by
 have h1:=val_lt (hw.take n)
 have h2 : 4294967296 ^ (l.take n).length ≤ 4294967296 ^ n:=Nat.pow_le_pow_right (by omega) (by simp; omega)
 omega

theorem between {r p x : Nat} (h : r < p) : x * p ≤ r + p * x ∧ r + p * x < (x + 1) * p:=by
 rw [Nat.mul_comm x p,Nat.add_mul,Nat.one_mul,Nat.mul_comm x p]; omega

structure DivInv (U V n L : Nat) (j : Nat) (M Q : List Int) : Prop where
 jle : j ≤ L - n
 wm : Ws M
 lm : M.length = L
 wq : Ws Q
 lq : Q.length = L - n
 lt : val (M.drop j) < V
 eq : val M + V * val Q = U
 z : ∀ k,k < j → Q.getD k 0 = 0

theorem DivInv.seg {U V n L j : Nat} {M Q : List Int} (h : DivInv U V n L (j + 1) M Q) (hn : n ≤ L) (hV : V < 4294967296 ^ n) :
  val ((M.drop j).take (n + 1)) = val (M.drop j) ∧ val (M.drop j) < 4294967296 * V ∧ val (M.drop (j + (n + 1))) = 0:=by
 have h1:=val_hd M j
 have h2:=h.wm.getD (i:=j)
 have h3:=h.lt
 have hj:=h.jle
 have hlt : val (M.drop j) < 4294967296 * V:=by omega
 have h4 : val (M.drop j) < 4294967296 ^ (n + 1):=by
  rw [Nat.pow_succ]
  have : V * 4294967296 < 4294967296 ^ n * 4294967296:=Nat.mul_lt_mul_of_pos_right hV (by omega)
  omega
 have h5:=val_take_drop (l:=M.drop j) (n + 1) (by rw [List.length_drop,h.lm]; omega)
 rw [List.drop_drop] at h5
 have h6 : val (M.drop (j + (n + 1))) = 0:=by
  apply Classical.byContradiction
  intro hne
  have : 4294967296 ^ (n + 1) * 1 ≤ 4294967296 ^ (n + 1) * val (M.drop (j + (n + 1))):=Nat.mul_le_mul_left _ (by omega)
  omega
 rw [h6,Nat.mul_zero,Nat.add_zero] at h5
 exact ⟨h5.symm,hlt,h6⟩

theorem DivInv.step {U V n L j : Nat} {M Q : List Int} (h : DivInv U V n L (j + 1) M Q) (hn : n ≤ L) (hV0 : 0 < V) (hV : V < 4294967296 ^ n) :
  DivInv U V n L j (mid M j (wdN (n + 1) (val (M.drop j) % V))) (Q.set j ((val (M.drop j) / V : Nat) : Int)):=by
 obtain ⟨h1,h2,h3⟩:=h.seg hn hV
 have hj:=h.jle
 have hq : val (M.drop j) / V < 4294967296:=by rw [Nat.div_lt_iff_lt_mul hV0]; omega
 have hr : val (M.drop j) % V < V:=Nat.mod_lt _ hV0
 have hdm:=Nat.div_add_mod (val (M.drop j)) V
 generalize hs : val (M.drop j) = s at *
 generalize s / V = q at *
 generalize s % V = r at *
 have hwl : (wdN (n + 1) r).length = n + 1:=wdN_len _ _
 have hwv : val (wdN (n + 1) r) = r:=val_wdN (by rw [Nat.pow_succ]; omega)
 have hml : j + (wdN (n + 1) r).length ≤ M.length:=by rw [hwl,h.lm]; omega
 have hjq : j < Q.length:=by rw [h.lq]; omega
 refine ⟨by omega,mid_Ws h.wm (wdN_Ws _ _),by rw [mid_len hml,h.lm],h.wq.set (by omega),by simpa using h.lq,?_,?_,?_⟩
 ·rw [mid_drop hml,val_append,hwv,hwl,h3,Nat.mul_zero]; omega
 ·have e1:=mid_val hml
  rw [hwl,h1,hwv] at e1
  have e2:=val_set (x:=(q : Int)) hjq
  have e3:=h.z j (by omega)
  rw [getD_lt' hjq] at e3
  rw [e3] at e2
  have e4:=h.eq
  have e5 : V * val (Q.set j (q : Int)) = V * val Q + 4294967296 ^ j * (V * q):=by
   have : val (Q.set j (q : Int)) = val Q + 4294967296 ^ j * q:=by simpa using e2
   rw [this,Nat.mul_add,Nat.mul_left_comm]
  rw [e5]
  have e6 : 4294967296 ^ j * s = 4294967296 ^ j * (V * q) + 4294967296 ^ j * r:=by rw [← Nat.mul_add,hdm]
  omega
 ·intro k hk
  have:=h.z k (by omega)
  rw [List.getD_eq_getElem?_getD] at this ⊢
  rw [List.getElem?_set_ne (by omega)]
  exact this

theorem DivInv.fin {U V n L : Nat} {M Q : List Int} (h : DivInv U V n L 0 M Q) : val Q = U / V ∧ val M = U % V:=by
 have h1:=h.lt
 have h2:=h.eq
 rw [List.drop_zero] at h1
 have hV : 0 < V:=by omega
 rw [← h2]
 constructor
 ·rw [Nat.add_mul_div_left _ _ hV,Nat.div_eq_of_lt h1,Nat.zero_add]
 ·rw [Nat.add_mul_mod_self_left,Nat.mod_eq_of_lt h1]

theorem DivInv.init {x V n L : Nat} {k : Nat} (hx : x < 4294967296 ^ (L - 1) * 2 ^ k) (hn : n ≤ L) (hn1 : 1 ≤ n) (hk : k < 32) (hV : 4294967296 ^ (n - 1) * 2 ^ k ≤ V) :
  DivInv x V n L (L - n) (wdN L x) (List.replicate (L - n) 0):=by
 have hk2 : 2 ^ k ≤ 4294967296:=Nat.le_trans (Nat.pow_le_pow_right (by omega) (show k ≤ 32 by omega)) (by decide)
 have hxl : x < 4294967296 ^ L:=by
  have h1 : 4294967296 ^ (L - 1) * 2 ^ k ≤ 4294967296 ^ (L - 1) * 4294967296:=Nat.mul_le_mul_left _ hk2
  rw [← Nat.pow_succ,show (L - 1).succ = L by omega] at h1
  omega
 refine ⟨Nat.le_refl _,wdN_Ws _ _,wdN_len _ _,?_,by simp,?_,?_,?_⟩
 ·intro y hy
  rw [(List.mem_replicate.1 hy).2]; omega
 ·rw [← val_drop (wdN_Ws _ _),val_wdN hxl]
  have h2 : x < 4294967296 ^ (L - n) * V:=by
   have h3 : 4294967296 ^ (L - n) * (4294967296 ^ (n - 1) * 2 ^ k) ≤ 4294967296 ^ (L - n) * V:=Nat.mul_le_mul_left _ hV
   rw [← Nat.mul_assoc,← Nat.pow_add,show L - n + (n - 1) = L - 1 by omega] at h3
   omega
  rw [Nat.div_lt_iff_lt_mul (Nat.pow_pos (by omega)),Nat.mul_comm]
  exact h2
 ·rw [val_wdN hxl,val_zeros (fun y hy=>(List.mem_replicate.1 hy).2),Nat.mul_zero,Nat.add_zero]
 ·intro i _
  rw [List.getD_eq_getElem?_getD,List.getElem?_replicate]
  split <;> rfl

def blen (x : Nat) : Nat:=if x = 0 then 0 else x.log2 + 1

theorem blen_pow {x l : Nat} (h1 : 2 ^ l ≤ x) (h2 : x < 2 ^ (l + 1)) : blen x = l + 1:=by
 have hx : x ≠ 0:=by have:=Nat.two_pow_pos l; omega
 unfold blen
 rw [if_neg hx,(Nat.log2_eq_iff hx).2 ⟨h1,h2⟩]

theorem blen_spec {x : Nat} (hx : x ≠ 0) : ∃ l,blen x = l + 1 ∧ 2 ^ l ≤ x ∧ x < 2 ^ (l + 1):=by
 refine ⟨x.log2,by unfold blen; rw [if_neg hx],(Nat.log2_eq_iff hx).1 rfl⟩

theorem blen_div {x k : Nat} (h : 2 ^ k ≤ x) : blen x = blen (x / 2 ^ k) + k:=by
 have hk:=Nat.two_pow_pos k
 have h0 : x / 2 ^ k ≠ 0:=by
  have:=(Nat.le_div_iff_mul_le hk (x:=1) (y:=x)).2 (by omega)
  omega
 obtain ⟨l,h1,h2,h3⟩:=blen_spec h0
 have:=blen_pow (x:=x) (l:=l + k) (by
  rw [Nat.le_div_iff_mul_le hk] at h2
  rw [Nat.pow_add]; exact h2) (by
  rw [Nat.div_lt_iff_lt_mul hk] at h3
  rw [show l + k + 1 = l + 1 + k by omega,Nat.pow_add]; exact h3)
 rw [this,h1]; omega

theorem blen_lt {x n : Nat} (h : x < 2 ^ n) : blen x ≤ n:=by
 by_cases hx : x = 0
 ·subst hx; simp [blen]
 ·obtain ⟨l,h1,h2,_⟩:=blen_spec hx
  have : 2 ^ l < 2 ^ n:=by omega
  have:=(Nat.pow_lt_pow_iff_right (a:=2) (by omega)).1 this
  omega

theorem aidxT {T : List UInt8} {x : Nat} {n : Int} {k : UInt8 → Prop} (hT : ((List.range 256).all fun i=>T[i]? == some (UInt8.ofNat (blen i))) = true) (hn : n = x) (hx : x < 256) (hk : k (UInt8.ofNat (blen x))) : AIdx T n k:=by
 subst hn
 refine ⟨⟨_,⟨Int.natCast_nonneg _,?_⟩,hk⟩⟩
 have:=List.all_eq_true.1 hT x (by simpa using hx)
 simpa using this

theorem shr_u32 {a n : Nat} (hn : n < 32) : shrR .u32 (a : Int) (n : Int) = ((a / 2 ^ n : Nat) : Int):=by
 unfold shrR
 have h1 : min (n : Int).toNat (IntKind.bits .u32) = n:=by show min n 32 = n; omega
 rw [h1]
 rw [Int.fdiv_eq_ediv_of_nonneg _ (by have:=Int.pow_pos (n:=(2 : Int)) (m:=n) (by decide); omega)]
 simp

theorem c_len32 (x : Nat) (hx : x < 4294967296) : FnH Tryz.prog 290 [.int .u32 x] [] (.int .i64 (blen x)) []:=by
 refine FnH.intro lay mixed Tryz.func290 (by kernel_rfl) rfl (by kernel_rfl) rfl fun hok=>?_
 conv=>whnf
 refine And.intro (fun n1=>?_) (fun n1=>?_)
 ·have k1:=blen_div (x:=x) (k:=16) (by omega)
  conv=>whnf
  refine ⟨by decide,?_⟩
  rw [show shrR .u32 (x : Int) 16 = ((x / 2 ^ 16 : Nat) : Int) from shr_u32 (n:=16) (by omega)]
  generalize hz : x / 2 ^ 16 = z at *
  have hz : z < 65536:=by omega
  conv=>whnf
  refine And.intro (fun n2=>?_) (fun n2=>?_)
  ·have k2:=blen_div (x:=z) (k:=8) (by omega)
   conv=>whnf
   refine ⟨by decide,?_⟩
   rw [show shrR .u32 (z : Int) 8 = ((z / 2 ^ 8 : Nat) : Int) from shr_u32 (n:=8) (by omega)]
   generalize hy : z / 2 ^ 8 = y at *
   have hy : y < 256:=by omega
   conv=>whnf
   refine zA ?_;conv=>whnf
   conv=>whnf
   refine aidxT (x:=y) (by decide +kernel) ?_ hy ?_
   ·simp [IntKind.wrap,IntKind.bits,IntKind.signed]; omega
   have hb8:=blen_lt (x:=y) (n:=8) (by omega)
   rw [show ((UInt8.ofNat (blen y)).toNat : Int) = (blen y : Int) by rw [UInt8.toNat_ofNat']; omega]
   conv=>whnf
   rw [wrap64 (n:=(blen y : Int)) (by omega) (by omega)]
   refine zA ?_;conv=>whnf
   refine fM ?_;(conv=>whnf);refine ⟨?_,rfl⟩;conv=>whnf
   refine ⟨rfl,?_⟩
   omega
  ·conv=>whnf
   refine aidxT (x:=z) (by decide +kernel) ?_ (by omega) ?_
   ·simp [IntKind.wrap,IntKind.bits,IntKind.signed]; omega
   have hb8:=blen_lt (x:=z) (n:=8) (by omega)
   rw [show ((UInt8.ofNat (blen z)).toNat : Int) = (blen z : Int) by rw [UInt8.toNat_ofNat']; omega]
   conv=>whnf
   rw [wrap64 (n:=(blen z : Int)) (by omega) (by omega)]
   refine zA ?_;conv=>whnf
   refine fM ?_;(conv=>whnf);refine ⟨?_,rfl⟩;conv=>whnf
   refine ⟨rfl,?_⟩
   omega
 ·conv=>whnf
  refine And.intro (fun n2=>?_) (fun n2=>?_)
  ·have k2:=blen_div (x:=x) (k:=8) (by omega)
   conv=>whnf
   refine ⟨by decide,?_⟩
   rw [show shrR .u32 (x : Int) 8 = ((x / 2 ^ 8 : Nat) : Int) from shr_u32 (n:=8) (by omega)]
   generalize hy : x / 2 ^ 8 = y at *
   have hy : y < 256:=by omega
   conv=>whnf
   refine zA ?_;conv=>whnf
   conv=>whnf
   refine aidxT (x:=y) (by decide +kernel) ?_ hy ?_
   ·simp [IntKind.wrap,IntKind.bits,IntKind.signed]; omega
   have hb8:=blen_lt (x:=y) (n:=8) (by omega)
   rw [show ((UInt8.ofNat (blen y)).toNat : Int) = (blen y : Int) by rw [UInt8.toNat_ofNat']; omega]
   conv=>whnf
   rw [wrap64 (n:=(blen y : Int)) (by omega) (by omega)]
   refine zA ?_;conv=>whnf
   refine fM ?_;(conv=>whnf);refine ⟨?_,rfl⟩;conv=>whnf
   refine ⟨rfl,?_⟩
   omega
  ·conv=>whnf
   refine aidxT (x:=x) (by decide +kernel) ?_ (by omega) ?_
   ·simp [IntKind.wrap,IntKind.bits,IntKind.signed]; omega
   have hb8:=blen_lt (x:=x) (n:=8) (by omega)
   rw [show ((UInt8.ofNat (blen x)).toNat : Int) = (blen x : Int) by rw [UInt8.toNat_ofNat']; omega]
   conv=>whnf
   rw [wrap64 (n:=(blen x : Int)) (by omega) (by omega)]
   refine zA ?_;conv=>whnf
   refine fM ?_;(conv=>whnf);refine ⟨?_,rfl⟩;conv=>whnf
   refine ⟨rfl,?_⟩
   omega

theorem c_lz32 (x : Nat) (hx : x < 4294967296) : FnH Tryz.prog 278 [.int .u32 x] [] (.int .i64 ((32 - blen x : Nat) : Int)) []:=by
 have hb:=blen_lt (x:=x) (n:=32) (by omega)
 refine FnH.intro lay mixed Tryz.func278 (by kernel_rfl) rfl (by kernel_rfl) rfl fun hok=>?_
 conv=>whnf
 refine .pure _ _ ?_ ⟨rfl,rfl⟩ (c_len32 x hx) fun _=>?_
 ·exact leL_refl _
 conv=>whnf
 refine zA ?_;conv=>whnf
 refine fM ?_;(conv=>whnf);refine ⟨?_,rfl⟩;conv=>whnf
 refine ⟨rfl,?_⟩
 omega

theorem c_leftP (a : List Int) (n : Nat) (hn : n < 32) (hsz : a.length ≤ 1000000) :
  FnH Tryz.prog 279 [wL a,.int .i64 n] [] (wL (wdN (a.length + 1) (val a * 2 ^ n))) []:=by
 have h:=(c_left a n hn hsz).cv (.freeze 0 0 0 (a.length + 1) (a.length + 1) (a.length + 1) 1 _ rfl rfl (by simp [wdN_len]) (.refl _ _)) rfl
 refine (h.heap (G:=[]) (.mk trivial trivial) (Nat.zero_le _) rfl).weak ?_
 refine ⟨rfl,leRL_of ?_⟩
 rw [List.drop_zero,List.take_of_length_le (by simp [wdN_len])]

theorem c_rightP (a : List Int) (n : Nat) (hn : n < 32) (hsz : a.length ≤ 1000000) :
  FnH Tryz.prog 282 [wL a,.int .i64 n] [] (wL (wdN a.length (val a / 2 ^ n))) []:=by
 have h:=(c_right a n hn hsz).cv (.freeze 0 0 0 a.length a.length a.length 1 _ rfl rfl (by simp [wdN_len]) (.refl _ _)) rfl
 refine (h.heap (G:=[]) (.mk trivial trivial) (Nat.zero_le _) rfl).weak ?_
 refine ⟨rfl,leRL_of ?_⟩
 rw [List.drop_zero,List.take_of_length_le (by simp [wdN_len])]

theorem wd_len_two {y : Nat} (h : 4294967296 ≤ y) : 2 ≤ (wd y).length:=by
 rw [wd_pos (by omega),wd_pos (n:=y / 4294967296) (by omega)]
 simp

theorem wdN_take : ∀ {k m x : Nat},k ≤ m → (wdN m x).take k = wdN k x
 | 0,_,_,_=>by simp [wdN]
 | k + 1,0,_,h=>by omega
 | k + 1,m + 1,x,h=>by simp only [wdN,List.take_succ_cons,wdN_take (k:=k) (m:=m) (by omega)]

theorem digit_arith {B p s V r3 r2 w2 w1 w0 top next : Nat} (t3 : r3 < p) (t2 : r2 < p) (hw0 : w0 < B) (hnext : next < B) (e3 : s = r3 + p * (w0 + B * (w1 + B * w2))) (e2 : V = r2 + p * (next + B * top)) (hV1 : p * B ≤ V) (hs2 : s < B * V) :
  1 ≤ top ∧ ((w2 * B + w1) * B + w0) * p ≤ s ∧ s < ((w2 * B + w1) * B + w0 + 1) * p ∧ (top * B + next) * p ≤ V ∧ V < (top * B + next + 1) * p ∧ w2 * B + w1 < (top + 1) * B ∧ s / V ≤ (w2 * B + w1) / top:=by
 have f1 : w0 + B * (w1 + B * w2) = (w2 * B + w1) * B + w0:=by rw [Nat.mul_comm B (w1 + B * w2),Nat.mul_comm B w2,Nat.add_comm w1,Nat.add_comm]
 have f2 : next + B * top = top * B + next:=by rw [Nat.mul_comm,Nat.add_comm]
 rw [f1] at e3
 rw [f2] at e2
 generalize hh : w2 * B + w1 = head at *
 have b3:=between (r:=r3) (p:=p) (x:=head * B + w0) t3
 have b2:=between (r:=r2) (p:=p) (x:=top * B + next) t2
 rw [← e3] at b3
 rw [← e2] at b2
 have htop1 : 1 ≤ top:=by
  apply Classical.byContradiction
  intro h0
  have h0 : top = 0:=by omega
  subst h0
  have h1 : (0 * B + next + 1) * p ≤ B * p:=Nat.mul_le_mul_right _ (by omega)
  rw [Nat.mul_comm p] at hV1
  omega
 have k0 : (top * B + next + 1) * p ≤ (top + 1) * B * p:=Nat.mul_le_mul_right _ (by rw [Nat.add_mul]; omega)
 have hhead : head < (top + 1) * B:=by
  have k1 : head * B * p ≤ (head * B + w0) * p:=Nat.mul_le_mul_right _ (by omega)
  have k2 : B * V ≤ B * ((top + 1) * B * p):=Nat.mul_le_mul_left _ (by omega)
  have h1 : head * B * p < B * ((top + 1) * B * p):=by omega
  have h2 : B * ((top + 1) * B * p) = (top + 1) * B * B * p:=by rw [Nat.mul_comm B,Nat.mul_assoc _ p B,Nat.mul_comm p B,← Nat.mul_assoc]
  rw [h2] at h1
  exact Nat.lt_of_mul_lt_mul_right (Nat.lt_of_mul_lt_mul_right h1)
 refine ⟨htop1,b3.1,b3.2,b2.1,b2.2,hhead,?_⟩
 refine guess_ge (p:=B * p) htop1 ?_ ?_
 ·have : top * (B * p) ≤ (top * B + next) * p:=by rw [← Nat.mul_assoc]; exact Nat.mul_le_mul_right _ (by omega)
  omega
 ·have : (head * B + w0 + 1) * p ≤ (head + 1) * (B * p):=by rw [← Nat.mul_assoc]; exact Nat.mul_le_mul_right _ (by rw [Nat.add_mul]; omega)
  omega

theorem digit_facts {U V n L k w2 w1 w0 top next : Nat} {M Q v : List Int} (hI : DivInv U V n L (k + 1) M Q) (hn2 : 2 ≤ n) (hnL : n + 1 ≤ L) (hk : k + 1 ≤ L - n) (hvl : v.length = n) (hvw : Ws v) (hvv : val v = V) (hV1 : 4294967296 ^ (n - 1) ≤ V)
  (ew2 : M.getD (k + n) 0 = (w2 : Int)) (ew1 : M.getD (k + n - 1) 0 = (w1 : Int)) (ew0 : M.getD (k + n - 2) 0 = (w0 : Int)) (htp : v.getD (n - 1) 0 = (top : Int)) (hnx : v.getD (n - 2) 0 = (next : Int)) :
  ∃ p,0 < p ∧ 1 ≤ top ∧ ((w2 * 4294967296 + w1) * 4294967296 + w0) * p ≤ val (M.drop k) ∧ val (M.drop k) < ((w2 * 4294967296 + w1) * 4294967296 + w0 + 1) * p ∧
    (top * 4294967296 + next) * p ≤ V ∧ V < (top * 4294967296 + next + 1) * p ∧ w2 * 4294967296 + w1 < (top + 1) * 4294967296 ∧ val (M.drop k) / V ≤ (w2 * 4294967296 + w1) / top:=by
 have hV2 : V < 4294967296 ^ n:=by rw [← hvv,← hvl]; exact val_lt hvw
 have hseg:=hI.seg (by omega) hV2
 have hML:=hI.lm
 have hwM:=hI.wm
 have htop:=hvw.getD (i:=n - 1)
 have hnext:=hvw.getD (i:=n - 2)
 have hw2:=hwM.getD (i:=k + n)
 have hw1:=hwM.getD (i:=k + n - 1)
 have hw0:=hwM.getD (i:=k + n - 2)
 rw [htp] at htop
 rw [hnx] at hnext
 rw [ew2] at hw2
 rw [ew1] at hw1
 rw [ew0] at hw0
 have e3:=val_three (l:=(M.drop k).take (n + 1)) (n:=n - 2) (by rw [List.length_take,List.length_drop,hML]; omega)
 have e2:=val_two (l:=v) (n:=n - 2) (by omega)
 have gt : ∀ i,i < n + 1 → ((M.drop k).take (n + 1)).getD i 0 = M.getD (k + i) 0:=by
  intro i hi
  rw [List.getD_eq_getElem?_getD,List.getElem?_take,if_pos hi,List.getElem?_drop,← List.getD_eq_getElem?_getD]
 rw [gt _ (by omega),gt _ (by omega),gt _ (by omega),show k + (n - 2) = k + n - 2 by omega,show k + (n - 2 + 1) = k + n - 1 by omega,show k + (n - 2 + 2) = k + n by omega,ew2,ew1,ew0,hseg.1] at e3
 rw [show n - 2 + 1 = n - 1 by omega,hnx,htp,hvv] at e2
 simp only [Int.toNat_natCast] at e3 e2
 have t3:=take_lt (l:=(M.drop k).take (n + 1)) ((hwM.drop _).take _) (n - 2)
 have t2:=take_lt hvw (n - 2)
 have hpp : 0 < 4294967296 ^ (n - 2):=Nat.pow_pos (by omega)
 have ep : 4294967296 ^ (n - 1) = 4294967296 ^ (n - 2) * 4294967296:=by rw [← Nat.pow_succ,show (n - 2).succ = n - 1 by omega]
 have hs2:=hseg.2.1
 rw [ep] at hV1
 generalize val (M.drop k) = s at *
 generalize val (((M.drop k).take (n + 1)).take (n - 2)) = r3 at *
 generalize val (v.take (n - 2)) = r2 at *
 generalize 4294967296 ^ (n - 2) = p at *
 exact ⟨p,hpp,digit_arith (B:=4294967296) t3 t2 (by omega) (by omega) e3 e2 hV1 hs2⟩

theorem mid_mid {us s t : List Int} {off : Nat} (h : off + s.length ≤ us.length) (hl : s.length = t.length) : mid (mid us off s) off t = mid us off t:=by
 have h1 : (mid us off s).take off = us.take off:=by
  simp only [mid]
  rw [List.take_append_of_le_length (by simp; omega),List.take_take,Nat.min_self]
 have h2 : (mid us off s).drop (off + t.length) = us.drop (off + t.length):=by
  rw [← List.drop_drop,mid_drop h,← hl,List.drop_left]
 have h3 : mid (mid us off s) off t = (mid us off s).take off ++ (t ++ (mid us off s).drop (off + t.length)):=rfl
 rw [h3,h1,h2]; rfl

theorem mid_part {us s : List Int} {off : Nat} (h : off + s.length ≤ us.length) : ((mid us off s).drop off).take s.length = s:=by
 rw [mid_drop h,List.take_left]

set_option maxHeartbeats 2000000 in
theorem div_large (x y : Nat) (hx : (wd x).length ≤ 999999) (hyl : (wd y).length ≤ 1000000) (hy : 4294967296 ≤ y) : DivC x y:=by
 unfold DivC
 have hyx : y ≤ x → (wd y).length ≤ (wd x).length:=wd_len_mono
 have hn2:=wd_len_two hy
 have c1:=c_trim (wd x) (by omega)
 rw [val_wd] at c1
 have c2:=c_trim (wd y) hyl
 rw [val_wd] at c2
 have c3:=c_Cmp (wd x) (wd y) (by omega) hyl
 rw [val_wd,val_wd] at c3
 have hwx:=wd_Ws x
 have hwy:=wd_Ws y
 have hvx:=val_wd x
 have hvy:=val_wd y
 have hpy:=wd_Pl y
 generalize ha : wd x = a at *
 generalize hb : wd y = b at *
 refine FnH.intro lay mixed Tryz.func248 (by kernel_rfl) rfl (by kernel_rfl) rfl fun hok=>?_
 conv=>whnf
 refine .pure _ _ ?_ ⟨rfl,rfl⟩ c1 fun _=>?_
 ·exact leL_refl _
 conv=>whnf
 refine .pure _ _ ?_ ⟨rfl,rfl⟩ c2 fun _=>?_
 ·exact leL_refl _
 conv=>whnf
 refine And.intro (fun h=>?_) (fun _=>?_)
 ·exfalso
  simp only [List.length_map] at h; omega
 conv=>whnf
 refine .pure _ _ ?_ ⟨rfl,rfl⟩ c3 fun _=>?_
 ·exact leL_refl _
 conv=>whnf
 refine And.intro (fun h=>?_) (fun h=>?_)
 ·have hlt : x < y:=by
   unfold cmpN at h
   split at h
   ·assumption
   ·split at h <;> omega
  conv=>whnf
  refine fM ?_;(conv=>whnf);refine ⟨?_,rfl⟩;conv=>whnf
  refine ⟨?_,?_,rfl,trivial⟩
  ·rw [Nat.div_eq_of_lt hlt,wd_zero]; rfl
  ·rw [Nat.mod_eq_of_lt hlt,ha]; exact le0_refl _
 have hxy : ¬ x < y:=by
  intro hlt
  unfold cmpN at h
  rw [if_pos hlt] at h
  omega
 have hle : y ≤ x:=by omega
 have hyx:=hyx hle
 conv=>whnf
 refine And.intro (fun h=>?_) (fun _=>?_)
 ·exfalso
  simp only [List.length_map] at h; omega
 conv=>whnf
 refine ⟨inr64 (by simp; omega) (by simp; omega),?_⟩
 conv=>whnf
 refine aidxN' 0 (i:=b.length - 1) (by simp; omega) (by omega) ?_
 have htb:=hwy.getD (i:=b.length - 1)
 have htn : b.getD (b.length - 1) 0 ≠ 0:=by
  rcases hpy with h | h
  ·rw [h] at hn2; simp at hn2
  ·rw [List.getLastD_eq_getLast?,List.getLast?_eq_getElem?] at h
   rw [List.getD_eq_getElem?_getD]; exact h
 generalize htt : b.getD (b.length - 1) 0 = tb0 at *
 obtain ⟨tb,rfl⟩ : ∃ tb : Nat,tb0 = tb:=⟨tb0.toNat,by omega⟩
 conv=>whnf
 refine .pure _ _ ?_ ⟨rfl,rfl⟩ (c_lz32 tb (by omega)) fun _=>?_
 ·exact leL_refl _
 obtain ⟨l,hl1,hl2,hl3⟩:=blen_spec (x:=tb) (by omega)
 have hl4:=blen_lt (x:=tb) (n:=32) (by omega)
 obtain ⟨sh,hsh⟩ : ∃ sh,32 - blen tb = sh:=⟨_,rfl⟩
 rw [hsh]
 conv=>whnf
 refine .pure _ _ ?_ ⟨rfl,rfl⟩ (c_leftP b sh (by omega) (by omega)) fun _=>?_
 ·exact leL_refl _
 rw [hvy]
 conv=>whnf
 refine ⟨⟨by omega,by simp,by simp [wdN_len]; omega⟩,?_⟩
 -- the divisor, shifted
 have hV1 : 4294967296 ^ (b.length - 1) * 2 ^ sh ≤ y * 2 ^ sh:=Nat.mul_le_mul_right _ (by rw [← hvy]; exact val_pos_of_len hpy (by intro e; rw [e] at hn2; simp at hn2) hwy)
 have hp2:=Nat.two_pow_pos sh
 have hV2 : y * 2 ^ sh < 4294967296 ^ b.length:=by
  have e1:=val_take_drop (l:=b) (b.length - 1) (by omega)
  rw [val_hd b (b.length - 1),List.drop_eq_nil_of_le (by omega : b.length ≤ b.length - 1 + 1),htt,hvy] at e1
  have e2:=take_lt hwy (b.length - 1)
  have e3 : y < 4294967296 ^ (b.length - 1) * (tb + 1):=by
   rw [Nat.mul_add]
   simp only [Int.toNat_natCast,val,Nat.mul_zero,Nat.add_zero] at e1
   omega
  have e4 : (tb + 1) * 2 ^ sh ≤ 4294967296:=by
   have : (tb + 1) * 2 ^ sh ≤ 2 ^ (l + 1) * 2 ^ sh:=Nat.mul_le_mul_right _ (by omega)
   rw [← Nat.pow_add,show l + 1 + sh = 32 by omega] at this
   exact this
  have e5 : y * 2 ^ sh < 4294967296 ^ (b.length - 1) * (tb + 1) * 2 ^ sh:=Nat.mul_lt_mul_of_pos_right e3 hp2
  have e6 : 4294967296 ^ (b.length - 1) * ((tb + 1) * 2 ^ sh) ≤ 4294967296 ^ (b.length - 1) * 4294967296:=Nat.mul_le_mul_left _ e4
  rw [← Nat.pow_succ,show (b.length - 1).succ = b.length by omega,← Nat.mul_assoc] at e6
  omega
 have hcut : ((List.map (AV.int .u32) (wdN (b.length + 1) (y * 2 ^ sh))).drop (0 : Int).toNat).take ((((b.map (AV.int .u32)).length : Nat) : Int).toNat - (0 : Int).toNat) = (wdN b.length (y * 2 ^ sh)).map (AV.int .u32):=by
  simp only [List.length_map,Int.toNat_natCast,Int.toNat_zero,List.drop_zero,Nat.sub_zero,← List.map_take]
  rw [wdN_take (by omega)]
 rw [hcut]
 have hvw:=wdN_Ws b.length (y * 2 ^ sh)
 have hvl:=wdN_len b.length (y * 2 ^ sh)
 have hvv:=val_wdN hV2
 generalize wdN b.length (y * 2 ^ sh) = v at *
 have hxl:=val_lt hwx
 rw [hvx] at hxl
 have hinit:=DivInv.init (x:=x * 2 ^ sh) (V:=y * 2 ^ sh) (n:=b.length) (L:=a.length + 1) (k:=sh) (Nat.mul_lt_mul_of_pos_right hxl hp2) (by omega) (by omega) (by omega) hV1
 have hVpos : 4294967296 ^ (b.length - 1) ≤ y * 2 ^ sh:=Nat.le_trans (Nat.le_mul_of_pos_right _ hp2) hV1
 have hres : x * 2 ^ sh / (y * 2 ^ sh) = x / y ∧ x * 2 ^ sh % (y * 2 ^ sh) / 2 ^ sh = x % y:=by
  refine ⟨Nat.mul_div_mul_right _ _ hp2,?_⟩
  rw [Nat.mul_mod_mul_right,Nat.mul_div_cancel _ hp2]
 conv=>whnf
 refine .gen _ _ (c_left a sh (by omega) (by omega)) fun _=>?_
 rw [hvx]
 generalize hU : x * 2 ^ sh = U at *
 generalize hV : y * 2 ^ sh = V at *
 conv=>whnf
 refine ADraw.auto (by kernel_rfl) ?_;conv=>whnf
 refine ⟨inr64 (by simp; omega) (by simp; omega),?_⟩
 conv=>whnf
 refine aidxN' 0 (i:=b.length - 1) (by simp; omega) (by omega) ?_
 conv=>whnf
 refine ⟨inr64 (by simp; omega) (by simp; omega),?_⟩
 conv=>whnf
 refine aidxN' 0 (i:=b.length - 2) (by simp; omega) (by omega) ?_
 have htop:=hvw.getD (i:=b.length - 1)
 have hnext:=hvw.getD (i:=b.length - 2)
 generalize htp : v.getD (b.length - 1) 0 = top0 at *
 generalize hnx : v.getD (b.length - 2) 0 = next0 at *
 obtain ⟨top,rfl⟩ : ∃ top : Nat,top0 = top:=⟨top0.toNat,by omega⟩
 obtain ⟨next,rfl⟩ : ∃ next : Nat,next0 = next:=⟨next0.toNat,by omega⟩
 conv=>whnf
 rw [wrap_u64 (n:=(top : Int)) (by omega) (by omega),wrap_u64 (n:=(next : Int)) (by omega) (by omega)]
 refine ⟨inr64 (by simp; omega) (by simp; omega),?_⟩
 obtain ⟨m,hm⟩ : ∃ m,a.length + 1 - b.length = m:=⟨_,rfl⟩
 rw [show (((a.length + 1 : Nat) : Int) - (((v.map (AV.int .u32)).length : Nat) : Int)) = (m : Int) by simp; omega]
 conv=>whnf
 refine ⟨⟨by omega,by omega,by simp; omega,by omega⟩,.wr ?_⟩
 conv=>whnf
 refine ⟨inr64 (by simp; omega) (by simp; omega),?_⟩
 rw [hm] at hinit
 conv=>whnf
 refine LoopE.of <| LoopSpec.inv (.refl _ _) (fun x : Nat × List Int × List Int=>DivInv U V b.length (a.length + 1) x.1 x.2.1 x.2.2)
  (fun | (j,_)=>[(14,.int .i64 ((j : Int) - 1))]) (fun | (_,M,Q)=>[(1,.arr 1 m (Q.map (.int .u32))),(0,.arr 1 (a.length + 1) (M.map (.int .u32)))])
  (fun x=>x.1) (m,wdN (a.length + 1) U,List.replicate m 0) hinit (fun _=>rfl) ?_ ?_
 ·refine ⟨?_,.mk ?_ ⟨by simp,by simp,trivial⟩⟩
  ·all_goals exact wk
  ·repeat' first|exact rfl|exact trivial|exact wR|exact lR _|apply aI
   all_goals first | (simp; done) | exact leRL_of (by simp)
 rintro ⟨j,M,Q⟩ hI _
 simp only at hI
 have hjl:=hI.jle
 conv=>whnf
 refine And.intro (fun h=>?_) (fun h=>?_)
 ·obtain ⟨k,rfl⟩ : ∃ k,j = k + 1:=⟨j - 1,by omega⟩
  have hseg:=hI.seg (by omega) hV2
  have hML:=hI.lm
  have hQL:=hI.lq
  have hwM:=hI.wm
  have e14 : (((k + 1 : Nat) : Int) - 1) = (k : Int):=by omega
  have elv : (((v.map (AV.int .u32)).length : Nat) : Int) = (b.length : Int):=by simp; omega
  rw [e14,elv]
  have hw2:=hwM.getD (i:=k + b.length)
  have hw1:=hwM.getD (i:=k + b.length - 1)
  have hw0:=hwM.getD (i:=k + b.length - 2)
  obtain ⟨w2,ew2⟩ : ∃ w : Nat,M.getD (k + b.length) 0 = w:=⟨(M.getD (k + b.length) 0).toNat,by omega⟩
  obtain ⟨w1,ew1⟩ : ∃ w : Nat,M.getD (k + b.length - 1) 0 = w:=⟨(M.getD (k + b.length - 1) 0).toNat,by omega⟩
  obtain ⟨w0,ew0⟩ : ∃ w : Nat,M.getD (k + b.length - 2) 0 = w:=⟨(M.getD (k + b.length - 2) 0).toNat,by omega⟩
  rw [ew2] at hw2
  rw [ew1] at hw1
  rw [ew0] at hw0
  obtain ⟨p,hp0,htop1,b3,b3',b2,b2',hhead,hge⟩:=digit_facts hI hn2 (by omega) (by omega) (by omega) hvw hvv hVpos ew2 ew1 ew0 htp hnx
  have hdst:=hI.step (by omega) (by omega) hV2
  obtain ⟨s,hs⟩ : ∃ s,val (M.drop k) = s:=⟨_,rfl⟩
  rw [hs] at b3 b3' hge hdst hseg
  have hVp : 0 < V:=by have:=Nat.pow_pos (n:=b.length - 1) (show 0 < 4294967296 by omega); omega
  have hqB : s / V < 4294967296:=by rw [Nat.div_lt_iff_lt_mul hVp]; exact hseg.2.1
  obtain ⟨q,hq⟩ : ∃ q,s / V = q:=⟨_,rfl⟩
  rw [hq] at hge hqB hdst
  have hrest : takeN s (q * V) (b.length + 1) = s % V:=take_rest hq.symm
  have hVB : V < 4294967296 ^ (b.length + 1):=by
   rw [Nat.pow_succ]
   have : 4294967296 ^ b.length * 1 ≤ 4294967296 ^ b.length * 4294967296:=Nat.mul_le_mul_left _ (by omega)
   omega
  have hsB : s < 4294967296 ^ (b.length + 1):=by
   rw [Nat.pow_succ,Nat.mul_comm]
   have : 4294967296 * V ≤ 4294967296 * 4294967296 ^ b.length:=Nat.mul_le_mul_left _ (by omega)
   omega
  have hmidL : ∀ z,(mid M k (wdN (b.length + 1) z)).length = a.length + 1:=fun z=>by rw [mid_len (by rw [wdN_len,hML]; omega),hML]
  have htl : takeN s ((q + 1) * V) (b.length + 1) < 4294967296 ^ (b.length + 1):=by
   have h1:=Nat.lt_div_mul_add (a:=s) hVp
   rw [hq] at h1
   unfold takeN
   rw [Nat.add_mul,Nat.one_mul,if_pos h1]
   have h2:=Nat.div_mul_le_self s V
   rw [hq] at h2
   omega
  have hgive : mid (mid M k (wdN (b.length + 1) (takeN s ((q + 1) * V) (b.length + 1)))) k (wdN (b.length + 1) ((val (((mid M k (wdN (b.length + 1) (takeN s ((q + 1) * V) (b.length + 1)))).drop k).take (b.length + 1)) + V) % 4294967296 ^ (b.length + 1))) = mid M k (wdN (b.length + 1) (s % V)):=by
   have e1:=mid_part (us:=M) (s:=wdN (b.length + 1) (takeN s ((q + 1) * V) (b.length + 1))) (off:=k) (by rw [wdN_len,hML]; omega)
   rw [wdN_len] at e1
   rw [e1,val_wdN htl,give_rest hVp hq.symm hVB,mid_mid (by rw [wdN_len,hML]; omega) (by rw [wdN_len,wdN_len])]
  conv=>whnf
  refine ADraw.auto (by kernel_rfl) ?_;conv=>whnf
  refine zA ?_;conv=>whnf
  refine ⟨⟨by omega,by simp; omega⟩,?_⟩
  conv=>whnf
  refine aidxN' 0 (i:=k + b.length) (by simp; omega) (by omega) ?_
  refine ⟨by simp,?_⟩
  rw [ew2]
  conv=>whnf
  refine ⟨by decide,?_⟩
  rw [wrap_u64 (n:=(w2 : Int)) (by omega) (by omega),shl_word (by omega)]
  refine zA ?_;conv=>whnf
  refine zA ?_;conv=>whnf
  refine ⟨⟨by omega,by simp; omega⟩,?_⟩
  conv=>whnf
  refine aidxN' 0 (i:=k + b.length - 1) (by simp; omega) (by omega) ?_
  refine ⟨by simp,?_⟩
  rw [ew1]
  conv=>whnf
  rw [wrap_u64 (n:=(w1 : Int)) (by omega) (by omega),or_word (by omega) (by omega)]
  obtain ⟨head,hhd⟩ : ∃ head,w2 * 4294967296 + w1 = head:=⟨_,rfl⟩
  rw [hhd]
  rw [hhd] at b3 b3' hhead hge
  have hhl : head < 18446744073709551616:=by omega
  clear hcut
  refine ADraw.auto (by kernel_rfl) ?_;conv=>whnf
  refine ⟨by omega,?_⟩
  rw [tdiv_nat]
  have hg0 : head / top * top + head % top = head:=by rw [Nat.mul_comm]; exact Nat.div_add_mod _ _
  have hr0 : head % top < top:=Nat.mod_lt _ (by omega)
  have hg1 : head / top ≤ head:=Nat.div_le_self _ _
  have hg2 : head / top * top ≤ head:=by omega
  generalize head / top = g0 at *
  conv=>whnf
  refine ⟨by omega,?_⟩
  rw [tmod_nat]
  generalize head % top = r0 at *
  rw [wrap_u64 (n:=(g0 : Int)) (by omega) (by omega)]
  conv=>whnf
  refine LoopE.of <| LoopSpec.inv (.refl _ _) (fun (x : Nat × Nat)=>x.1 * top + x.2 = head ∧ q ≤ x.1 ∧ x.2 < 4294967296 ∧ x.1 ≤ g0) (fun (x : Nat × Nat)=>[(16,.int .u64 (x.1 : Nat)),(17,.int .u64 (x.2 : Nat))]) (fun _=>_) (fun (x : Nat × Nat)=>x.1) (g0,r0) ?_ (fun _=>rfl) ?_ ?_
  ·exact ⟨hg0,hge,(by omega : r0 < 4294967296),Nat.le_refl _⟩
  ·refine ⟨?_,.refl rfl⟩
   all_goals exact wk
  rintro ⟨g,r⟩ ⟨hgr,hgq,hr,hgg⟩ _
  simp only at hgr hgq hr hgg
  dsimp only [awp]
  conv=>whnf
  refine And.intro (fun hc1=>?_) (fun hc1=>?_)
  ·have hgt : q < g:=by omega
   conv=>whnf
   conv=>whnf
   rw [show ((g : Int) - 1) = ((g - 1 : Nat) : Int) by omega,wrap_u64 (n:=((g - 1 : Nat) : Int)) (by omega) (by omega)]
   conv=>whnf
   rw [show ((r : Int) + (top : Int)) = ((r + top : Nat) : Int) from (Int.natCast_add r top).symm,wrap_u64 (n:=((r + top : Nat) : Int)) (by omega) (by omega)]
   have hgr' : (g - 1) * top + (r + top) = head:=by
    have h1 : (g - 1 + 1) * top = g * top:=by rw [show g - 1 + 1 = g by omega]
    rw [Nat.add_mul,Nat.one_mul] at h1
    omega
   conv=>whnf
   refine And.intro (fun hc3=>?_) (fun hc3=>?_)
   ·have hgB' : g - 1 < 4294967296:=guess_small hgr' hhead (by omega)
    have hG : g - 1 ≤ q + 1:=by
     rw [← hq]
     refine guess_le (B:=4294967296) (p:=p) (by omega) hp0 htop1 b2 b2' b3 hgr' ?_ hgB'
     have h1 : (g - 1) * next ≤ 4294967295 * 4294967295:=Nat.mul_le_mul (by omega) (by omega)
     have h2 : 4294967296 * 4294967296 ≤ (r + top) * 4294967296:=Nat.mul_le_mul_right _ (by omega)
     omega
    conv=>whnf
    rw [elv]
    refine zA ?_;conv=>whnf
    refine zA ?_;conv=>whnf
    refine ⟨⟨by omega,by omega,by omega⟩,by omega,?_⟩
    have ct:=c_take M v k (a.length + 1 - k) (g - 1) hwM (by omega) (by omega) (by omega) (by
     rw [hvv,hvl,Nat.pow_succ,Nat.mul_comm (4294967296 ^ b.length)]
     exact Nat.mul_lt_mul_of_le_of_lt (by omega) hV2 (by omega))
    rw [hML,hvv,hvl,hseg.1,take_fix hVp hq.symm (by omega) hG] at ct
    conv=>whnf
    refine .gen _ _ (FnH.frame [0] ct ⟨rfl,rfl,rfl,rfl⟩ ?_ ?_) fun _=>?_
    ·all_goals exact wk
    ·repeat' first|exact rfl|exact trivial|exact wR|exact lR _|apply aI
     all_goals (show AV.ms 0 _ _ _ 1 = AV.ms 0 _ _ _ 1; congr 1 <;> omega)
    conv=>whnf
    refine And.intro (fun hGq=>?_) (fun hGq=>?_)
    ·conv=>whnf
     rw [show (((g - 1 : Nat) : Int) - 1) = (q : Int) by omega,wrap_u64 (n:=(q : Int)) (by omega) (by omega)]
     conv=>whnf
     rw [elv]
     refine zA ?_;conv=>whnf
     refine zA ?_;conv=>whnf
     refine ⟨⟨by omega,by omega,by omega⟩,by omega,?_⟩
     have cg:=c_give (mid M k (wdN (b.length + 1) (takeN s ((g - 1) * V) (b.length + 1)))) v k (a.length + 1 - k) (mid_Ws hwM (wdN_Ws _ _)) (by rw [hmidL]; omega) (by rw [hmidL]; omega)
     rw [hmidL,hvv,hvl,hGq,hgive] at cg
     rw [hGq]
     conv=>whnf
     refine .gen _ _ (FnH.frame [0] cg ⟨rfl,rfl,rfl,rfl⟩ ?_ ?_) fun _=>?_
     ·all_goals exact wk
     ·repeat' first|exact rfl|exact trivial|exact wR|exact lR _|apply aI
      all_goals (show AV.ms 0 _ _ _ 1 = AV.ms 0 _ _ _ 1; congr 1 <;> omega)
     conv=>whnf
     rw [wrap_u32 (n:=(q : Int)) (by omega) (by omega)]
     refine ⟨⟨by omega,by omega⟩,?_⟩
     dsimp only [putE]
     rw [aops]
     dsimp only [guardC]
     dsimp only [aopW,aop]
     conv=>whnf
     refine ⟨by rw [List.length_map,hQL]; omega,rfl,?_⟩
     conv=>whnf
     refine zA ?_;conv=>whnf
     refine ⟨(k,mid M k (wdN (b.length + 1) (s % V)),Q.set k (q : Int)),?_,?_,?_⟩
     ·exact hdst
     ·refine ⟨?_,.mk ?_ ⟨by simp,by simp,trivial⟩⟩
      ·all_goals exact wk
      ·repeat' first|exact rfl|exact trivial|exact wR|exact lR _|apply aI
       all_goals first | exact leRL_refl _ | (refine leRL_of ?_; rw [List.map_set]; simp [strip])
     ·show k < k + 1
      omega
    ·have hGq' : g - 1 = q:=by omega
     rw [hGq',hrest]
     conv=>whnf
     rw [wrap_u32 (n:=(q : Int)) (by omega) (by omega)]
     refine ⟨⟨by omega,by omega⟩,?_⟩
     dsimp only [putE]
     rw [aops]
     dsimp only [guardC]
     dsimp only [aopW,aop]
     conv=>whnf
     refine ⟨by rw [List.length_map,hQL]; omega,rfl,?_⟩
     conv=>whnf
     refine zA ?_;conv=>whnf
     refine ⟨(k,mid M k (wdN (b.length + 1) (s % V)),Q.set k (q : Int)),?_,?_,?_⟩
     ·exact hdst
     ·refine ⟨?_,.mk ?_ ⟨by simp,by simp,trivial⟩⟩
      ·all_goals exact wk
      ·repeat' first|exact rfl|exact trivial|exact wR|exact lR _|apply aI
       all_goals first | exact leRL_refl _ | (refine leRL_of ?_; rw [List.map_set]; simp [strip])
     ·show k < k + 1
      omega
   ·conv=>whnf
    refine ⟨(g - 1,r + top),?_,?_,?_⟩
    ·exact ⟨hgr',(by omega : q ≤ g - 1),(by omega : r + top < 4294967296),(by omega : g - 1 ≤ g0)⟩
    ·refine ⟨?_,.refl rfl⟩
     all_goals exact wk
    ·show g - 1 < g
     omega
  ·have hgB : g < 4294967296:=by omega
   have hgn : g * next ≤ 4294967295 * 4294967295:=Nat.mul_le_mul (by omega) (by omega)
   conv=>whnf
   rw [show ((g : Int) * (next : Int)) = ((g * next : Nat) : Int) from (Int.natCast_mul g next).symm,wrap_u64 (n:=((g * next : Nat) : Int)) (by omega) (by omega)]
   refine ⟨by decide,?_⟩
   rw [shl_word (by omega)]
   conv=>whnf
   rw [elv]
   refine zA ?_;conv=>whnf
   refine zA ?_;conv=>whnf
   refine ⟨⟨by omega,by simp; omega⟩,?_⟩
   conv=>whnf
   refine aidxN' 0 (i:=k + b.length - 2) (by simp; omega) (by omega) ?_
   refine ⟨by simp,?_⟩
   rw [ew0]
   conv=>whnf
   rw [wrap_u64 (n:=(w0 : Int)) (by omega) (by omega),or_word (by omega) (by omega)]
   conv=>whnf
   refine And.intro (fun hc2=>?_) (fun hc2=>?_)
   ·have hgt : q < g:=hq ▸ guess_gt b2 b3' hgr (by omega)
    conv=>whnf
    rw [show ((g : Int) - 1) = ((g - 1 : Nat) : Int) by omega,wrap_u64 (n:=((g - 1 : Nat) : Int)) (by omega) (by omega)]
    conv=>whnf
    rw [show ((r : Int) + (top : Int)) = ((r + top : Nat) : Int) from (Int.natCast_add r top).symm,wrap_u64 (n:=((r + top : Nat) : Int)) (by omega) (by omega)]
    have hgr' : (g - 1) * top + (r + top) = head:=by
     have h1 : (g - 1 + 1) * top = g * top:=by rw [show g - 1 + 1 = g by omega]
     rw [Nat.add_mul,Nat.one_mul] at h1
     omega
    conv=>whnf
    refine And.intro (fun hc3=>?_) (fun hc3=>?_)
    ·have hgB' : g - 1 < 4294967296:=guess_small hgr' hhead (by omega)
     have hG : g - 1 ≤ q + 1:=by
      rw [← hq]
      refine guess_le (B:=4294967296) (p:=p) (by omega) hp0 htop1 b2 b2' b3 hgr' ?_ hgB'
      have h1 : (g - 1) * next ≤ 4294967295 * 4294967295:=Nat.mul_le_mul (by omega) (by omega)
      have h2 : 4294967296 * 4294967296 ≤ (r + top) * 4294967296:=Nat.mul_le_mul_right _ (by omega)
      omega
     conv=>whnf
     rw [elv]
     refine zA ?_;conv=>whnf
     refine zA ?_;conv=>whnf
     refine ⟨⟨by omega,by omega,by omega⟩,by omega,?_⟩
     have ct:=c_take M v k (a.length + 1 - k) (g - 1) hwM (by omega) (by omega) (by omega) (by
      rw [hvv,hvl,Nat.pow_succ,Nat.mul_comm (4294967296 ^ b.length)]
      exact Nat.mul_lt_mul_of_le_of_lt (by omega) hV2 (by omega))
     rw [hML,hvv,hvl,hseg.1,take_fix hVp hq.symm (by omega) hG] at ct
     conv=>whnf
     refine .gen _ _ (FnH.frame [0] ct ⟨rfl,rfl,rfl,rfl⟩ ?_ ?_) fun _=>?_
     ·all_goals exact wk
     ·repeat' first|exact rfl|exact trivial|exact wR|exact lR _|apply aI
      all_goals (show AV.ms 0 _ _ _ 1 = AV.ms 0 _ _ _ 1; congr 1 <;> omega)
     conv=>whnf
     refine And.intro (fun hGq=>?_) (fun hGq=>?_)
     ·conv=>whnf
      rw [show (((g - 1 : Nat) : Int) - 1) = (q : Int) by omega,wrap_u64 (n:=(q : Int)) (by omega) (by omega)]
      conv=>whnf
      rw [elv]
      refine zA ?_;conv=>whnf
      refine zA ?_;conv=>whnf
      refine ⟨⟨by omega,by omega,by omega⟩,by omega,?_⟩
      have cg:=c_give (mid M k (wdN (b.length + 1) (takeN s ((g - 1) * V) (b.length + 1)))) v k (a.length + 1 - k) (mid_Ws hwM (wdN_Ws _ _)) (by rw [hmidL]; omega) (by rw [hmidL]; omega)
      rw [hmidL,hvv,hvl,hGq,hgive] at cg
      rw [hGq]
      conv=>whnf
      refine .gen _ _ (FnH.frame [0] cg ⟨rfl,rfl,rfl,rfl⟩ ?_ ?_) fun _=>?_
      ·all_goals exact wk
      ·repeat' first|exact rfl|exact trivial|exact wR|exact lR _|apply aI
       all_goals (show AV.ms 0 _ _ _ 1 = AV.ms 0 _ _ _ 1; congr 1 <;> omega)
      conv=>whnf
      rw [wrap_u32 (n:=(q : Int)) (by omega) (by omega)]
      refine ⟨⟨by omega,by omega⟩,?_⟩
      dsimp only [putE]
      rw [aops]
      dsimp only [guardC]
      dsimp only [aopW,aop]
      conv=>whnf
      refine ⟨by rw [List.length_map,hQL]; omega,rfl,?_⟩
      conv=>whnf
      refine zA ?_;conv=>whnf
      refine ⟨(k,mid M k (wdN (b.length + 1) (s % V)),Q.set k (q : Int)),?_,?_,?_⟩
      ·exact hdst
      ·refine ⟨?_,.mk ?_ ⟨by simp,by simp,trivial⟩⟩
       ·all_goals exact wk
       ·repeat' first|exact rfl|exact trivial|exact wR|exact lR _|apply aI
        all_goals first | exact leRL_refl _ | (refine leRL_of ?_; rw [List.map_set]; simp [strip])
      ·show k < k + 1
       omega
     ·have hGq' : g - 1 = q:=by omega
      rw [hGq',hrest]
      conv=>whnf
      rw [wrap_u32 (n:=(q : Int)) (by omega) (by omega)]
      refine ⟨⟨by omega,by omega⟩,?_⟩
      dsimp only [putE]
      rw [aops]
      dsimp only [guardC]
      dsimp only [aopW,aop]
      conv=>whnf
      refine ⟨by rw [List.length_map,hQL]; omega,rfl,?_⟩
      conv=>whnf
      refine zA ?_;conv=>whnf
      refine ⟨(k,mid M k (wdN (b.length + 1) (s % V)),Q.set k (q : Int)),?_,?_,?_⟩
      ·exact hdst
      ·refine ⟨?_,.mk ?_ ⟨by simp,by simp,trivial⟩⟩
       ·all_goals exact wk
       ·repeat' first|exact rfl|exact trivial|exact wR|exact lR _|apply aI
        all_goals first | exact leRL_refl _ | (refine leRL_of ?_; rw [List.map_set]; simp [strip])
      ·show k < k + 1
       omega
    ·conv=>whnf
     refine ⟨(g - 1,r + top),?_,?_,?_⟩
     ·exact ⟨hgr',(by omega : q ≤ g - 1),(by omega : r + top < 4294967296),(by omega : g - 1 ≤ g0)⟩
     ·refine ⟨?_,.refl rfl⟩
      all_goals exact wk
     ·show g - 1 < g
      omega
   ·have hG : g ≤ q + 1:=hq ▸ guess_le (B:=4294967296) (p:=p) (by omega) hp0 htop1 b2 b2' b3 hgr (by omega) hgB
    conv=>whnf
    rw [elv]
    refine zA ?_;conv=>whnf
    refine zA ?_;conv=>whnf
    refine ⟨⟨by omega,by omega,by omega⟩,by omega,?_⟩
    have ct:=c_take M v k (a.length + 1 - k) (g) hwM (by omega) (by omega) (by omega) (by
     rw [hvv,hvl,Nat.pow_succ,Nat.mul_comm (4294967296 ^ b.length)]
     exact Nat.mul_lt_mul_of_le_of_lt (by omega) hV2 (by omega))
    rw [hML,hvv,hvl,hseg.1,take_fix hVp hq.symm (by omega) hG] at ct
    conv=>whnf
    refine .gen _ _ (FnH.frame [0] ct ⟨rfl,rfl,rfl,rfl⟩ ?_ ?_) fun _=>?_
    ·all_goals exact wk
    ·repeat' first|exact rfl|exact trivial|exact wR|exact lR _|apply aI
     all_goals (show AV.ms 0 _ _ _ 1 = AV.ms 0 _ _ _ 1; congr 1 <;> omega)
    conv=>whnf
    refine And.intro (fun hGq=>?_) (fun hGq=>?_)
    ·conv=>whnf
     rw [show (((g : Nat) : Int) - 1) = (q : Int) by omega,wrap_u64 (n:=(q : Int)) (by omega) (by omega)]
     conv=>whnf
     rw [elv]
     refine zA ?_;conv=>whnf
     refine zA ?_;conv=>whnf
     refine ⟨⟨by omega,by omega,by omega⟩,by omega,?_⟩
     have cg:=c_give (mid M k (wdN (b.length + 1) (takeN s ((g) * V) (b.length + 1)))) v k (a.length + 1 - k) (mid_Ws hwM (wdN_Ws _ _)) (by rw [hmidL]; omega) (by rw [hmidL]; omega)
     rw [hmidL,hvv,hvl,hGq,hgive] at cg
     rw [hGq]
     conv=>whnf
     refine .gen _ _ (FnH.frame [0] cg ⟨rfl,rfl,rfl,rfl⟩ ?_ ?_) fun _=>?_
     ·all_goals exact wk
     ·repeat' first|exact rfl|exact trivial|exact wR|exact lR _|apply aI
      all_goals (show AV.ms 0 _ _ _ 1 = AV.ms 0 _ _ _ 1; congr 1 <;> omega)
     conv=>whnf
     rw [wrap_u32 (n:=(q : Int)) (by omega) (by omega)]
     refine ⟨⟨by omega,by omega⟩,?_⟩
     dsimp only [putE]
     rw [aops]
     dsimp only [guardC]
     dsimp only [aopW,aop]
     conv=>whnf
     refine ⟨by rw [List.length_map,hQL]; omega,rfl,?_⟩
     conv=>whnf
     refine zA ?_;conv=>whnf
     refine ⟨(k,mid M k (wdN (b.length + 1) (s % V)),Q.set k (q : Int)),?_,?_,?_⟩
     ·exact hdst
     ·refine ⟨?_,.mk ?_ ⟨by simp,by simp,trivial⟩⟩
      ·all_goals exact wk
      ·repeat' first|exact rfl|exact trivial|exact wR|exact lR _|apply aI
       all_goals first | exact leRL_refl _ | (refine leRL_of ?_; rw [List.map_set]; simp [strip])
     ·show k < k + 1
      omega
    ·have hGq' : g = q:=by omega
     rw [hGq',hrest]
     conv=>whnf
     rw [wrap_u32 (n:=(q : Int)) (by omega) (by omega)]
     refine ⟨⟨by omega,by omega⟩,?_⟩
     dsimp only [putE]
     rw [aops]
     dsimp only [guardC]
     dsimp only [aopW,aop]
     conv=>whnf
     refine ⟨by rw [List.length_map,hQL]; omega,rfl,?_⟩
     conv=>whnf
     refine zA ?_;conv=>whnf
     refine ⟨(k,mid M k (wdN (b.length + 1) (s % V)),Q.set k (q : Int)),?_,?_,?_⟩
     ·exact hdst
     ·refine ⟨?_,.mk ?_ ⟨by simp,by simp,trivial⟩⟩
      ·all_goals exact wk
      ·repeat' first|exact rfl|exact trivial|exact wR|exact lR _|apply aI
       all_goals first | exact leRL_refl _ | (refine leRL_of ?_; rw [List.map_set]; simp [strip])
     ·show k < k + 1
      omega
 ·have hj0 : j = 0:=by omega
  subst hj0
  obtain ⟨f1,f2⟩:=hI.fin
  have hQL:=hI.lq
  have hML:=hI.lm
  have hcq:=c_trim Q (by omega)
  rw [f1,hres.1] at hcq
  have hcr:=c_rightP M sh (by omega) (by omega)
  rw [f2,hres.2] at hcr
  have hrl : x % y < 4294967296 ^ M.length:=by
   have h1:=Nat.mod_lt x (show 0 < y by omega)
   have h2 : 4294967296 ^ b.length ≤ 4294967296 ^ M.length:=Nat.pow_le_pow_right (by omega) (by omega)
   have h3:=val_lt hwy
   omega
  have hct:=c_trim (wdN M.length (x % y)) (by rw [wdN_len]; omega)
  rw [val_wdN hrl] at hct
  conv=>whnf
  refine .gen _ _ (FnH.frz 0 rfl rfl (by simp; omega) (FnH.ofPure hcq ?_ ⟨rfl,rfl⟩)) fun _=>?_
  ·repeat' first|exact rfl|exact trivial|exact wR|exact lR _|apply aI
   refine leRL_of ?_
   simp
   rw [List.take_of_length_le (by simp; omega)]
  conv=>whnf
  refine .gen _ _ (FnH.frz 0 rfl rfl (by simp; omega) (FnH.ofPure hcr ?_ ⟨rfl,rfl⟩)) fun _=>?_
  ·repeat' first|exact rfl|exact trivial|exact wR|exact lR _|apply aI
   refine leRL_of ?_
   simp
   rw [List.take_of_length_le (by simp; omega)]
  conv=>whnf
  refine .pure _ _ ?_ ⟨rfl,rfl⟩ hct fun _=>?_
  ·exact leL_refl _
  conv=>whnf
  refine fM ?_;(conv=>whnf);refine ⟨?_,rfl⟩;conv=>whnf
  all_goals exact wk

theorem divC (x y : Nat) (hx : (wd x).length ≤ 999999) (hy : (wd y).length ≤ 1000000) (h0 : y ≠ 0) : DivC x y:=by
 by_cases h : y < 4294967296
 ·exact div_small x y (by omega) h0 h
 ·exact div_large x y hx hy (by omega)

theorem wd_len_max {a b : List Int} (ha : Ws a) (hb : Ws b) (la : a.length ≤ 999999) (lb : b.length ≤ 999999) {x : Nat} (h : x ≤ max (val a) (val b)) : (wd x).length ≤ 999999:=by
 have h1:=wd_len_le ha
 have h2:=wd_len_le hb
 rcases Nat.le_total (val a) (val b) with hab | hab
 ·rw [Nat.max_eq_right hab] at h; have:=wd_len_mono h; omega
 ·rw [Nat.max_eq_left hab] at h; have:=wd_len_mono h; omega

theorem FnH.ok {P : Program} {f : Nat} {args : List AV} {H : Heap} {R : AV} {H' : Heap} (hf : ∃ fn,P.funcs[f]? = some fn ∧ (fn.name == "runtime.NumGoroutine") = false ∧ fn.body.isSome = true) (h : OkL args → FnH P f args H R H') : FnH P f args H R H' :=
 ⟨hf,fun c vs hr hv=>(h (EVL_ok hv)).2 c vs hr hv⟩

theorem ratAll (r : Rat) (h1 : r.num.length ≤ 999999) (h2 : r.den.length ≤ 999999) : RatC r:=by
 have key : OkL [r.av] → RatC r:=by
  intro hok
  have w1 : Ws r.num:=Ws.ok hok.1.2.1.2
  have w2 : Ws r.den:=Ws.ok hok.1.2.2.1.2
  refine ratC r (by omega) (by omega) fun _ x y hy hx hy'=>?_
  have l1:=wd_len_max w1 w2 h1 h2 hx
  have l2:=wd_len_max w1 w2 h1 h2 hy'
  exact divC x y l1 (by omega) hy
 exact ⟨FnH.ok ratC_zero.v.1 fun h=>(key h).v,FnH.ok ratC_zero.s.1 fun h=>(key h).s,FnH.ok ratC_zero.p.1 fun h=>(key h).p⟩

end S
