/-
  Contracts of functions of the program, over the logic of the texts before. Nothing is assumed.
-/
import Derived.Test.YtkbjecdpgbnkdaaGreatT3
import Derived.Test.YtkbjecdpgbnkdaaGreatRows

namespace Go.AL

section
variable {P : Program}

theorem aA.growD {f : Nat} {args : List AV} {R : AV} {H G : Heap} {l : List AV} {A : AV} (i sz : Nat) (h1 : args[i]? = some A) (hA : (A = .aG /\ l = []) \/ A = .sl sz l .full)
  (h : aA P f (args.set i (.sl sz l (.own (nextId H)))) ((nextId H,.tok sz l.length) :: H) R G) : aA P f args H R G:=by
 refine ⟨h.1,fun c vs hr hv=>?_⟩
 obtain ⟨v,hvi,hAv⟩:=Ht hv h1
 have ha : rY 1 c [(0,A)] { tmps:=#[v],defers:=[] }:=by
  refine ⟨fun t A hA'=>?_,rfl,rfl⟩
  simp only [dP] at hA'
  cases hb : Nat.beq 0 t with
  | true =>
    rw [hb] at hA'
    obtain rfl:=Nat.eq_of_beq_eq_true hb
    obtain rfl:=Option.some.inj hA'
    exact hAv
  | false=>rw [hb] at hA'; cases hA'
 obtain ⟨d,g1,g2,g3⟩:=pX (.grow 0 sz l A rfl hA (.refl _ _)) hr ha
 have hd : EV d (.sl sz l (.own (nextId H))) v:=g3.env 0 _ rfl
 have:=h.2 d vs g2.hr (DX g2.le hv hvi hd)
 rw [g1] at this
 refine this.mono ?_
 rintro e w' ⟨v',d',k1,k2,k3,k4⟩
 exact ⟨v',d',k1,k2,g2.trans k3,k4⟩

theorem aA.ren1 {f : Nat} {args : List AV} {sz n k : Nat} {l : List AV} (h : aA P f args [] (.sl sz l (.own k)) [(k,.tok sz n)]) : aA P f args [] (.sl sz l (.own 0)) [(0,.tok sz n)]:=by
 refine ⟨h.1,fun c vs hr hv=>(h.2 c vs hr hv).mono ?_⟩
 rintro e w' ⟨v,d,h1,h2,h3,h4⟩
 have hb : ∀ (k : Nat),Nat.beq k k = true:=fun k=>by simp
 have hcx : c.nx = 0:=hr.nx
 let d' : Cx:={ d with nx:=1,tk:=fun _=>d.tk k,tp:=dA [(0,.tok sz n)] }
 have hok : (HO.tok sz n).Ok d k:=h3.hr.ok (k,.tok sz n) (by simp)
 have hblk : ∀ b,aO d' (0,.tok sz n) = some b -> aO d (k,.tok sz n) = some b:=fun b hb=>hb
 refine ⟨v,d',h1,h2,⟨⟨rfl,rfl,⟨by simp,trivial⟩,h3.hr.im,fun x hx=>?_,by simp⟩,⟨h3.le.im,by rw [hcx]; exact Nat.zero_le _,fun j hj=>by rw [hcx] at hj; omega,fun j n hj=>by rw [hcx] at hj; omega⟩,h3.os,h3.tape,h3.output,h3.size,h3.fr,fun y hy b hb=>?_,h3.YK⟩,?_⟩
 ·obtain rfl:=List.mem_singleton.1 hx
  exact hok
 ·obtain rfl:=List.mem_singleton.1 hy
  exact h3.own (k,.tok sz n) (by simp) b (hblk b hb)
 ·have h4 : VV d (.sl sz l (.own k)) v:=h4
  refine bg (A:=.sl sz l (.own 0)) ⟨⟨(fun h=>by cases h),(fun _=>h4.1.2 rfl)⟩,?_⟩
  have h5:=h4.2
  simp only [VR] at h5 ⊢
  obtain ⟨g1,g2,g3⟩:=h5
  refine ⟨Nat.zero_lt_one,g2,fun m hm=>?_⟩
  refine g3 m ?_
  have : d.tp k = some n:=by rw [h3.hr.tp]; simp [dA,hget]
  rw [this]
  have hm : dA [(0,.tok sz n)] 0 = some m:=hm
  simpa [dA,hget] using hm
end
end Go.AL

open Go Go.AL Go.Proofs
namespace S
abbrev pz : TI:=⟨.aQ,8,.aH,none,false⟩
abbrev lf (n : Nat) (t : TI) : Lay:=.node .nil n t .nil
def L : Lay:=.node (.node (.node (.node (.node (.node (.node (.node (lf 1 pz) 2 ⟨.int .i64,8,.int .i64 0,none,false⟩ .nil) 3 ⟨.int .i64,8,.int .i64 0,none,false⟩ (.node (lf 4 ⟨.bool,1,.ff,none,false⟩) 5 ⟨.int .u8,1,.int .u8 0,none,false⟩ .nil)) 6 ⟨.int .u8,1,.int .u8 0,none,false⟩ (.node (.node (lf 7 ⟨.struct [(0,1,2),(1,1,3),(2,1,4),(3,1,6)],24,.ag [.int .i64 0,.int .i64 0,.ff,.int .u8 0],none,false⟩) 8 ⟨.struct [(0,1,2),(1,1,3),(2,1,4),(3,1,6)],24,.ag [.int .i64 0,.int .i64 0,.ff,.int .u8 0],none,false⟩ .nil) 9 ⟨.str,16,.str [],none,false⟩ (lf 10 ⟨.str,16,.str [],none,false⟩))) 11 ⟨.str,16,.str [],none,false⟩ (.node (.node (.node (lf 12 ⟨.int .u64,8,.int .u64 0,none,false⟩) 13 ⟨.struct [(0,1,9),(1,1,12)],24,.ag [.str [],.int .u64 0],none,false⟩ .nil) 14 ⟨.struct [(0,1,9),(1,1,12)],24,.ag [.str [],.int .u64 0],none,false⟩ (lf 15 ⟨.ptr 344,8,.gK,none,false⟩)) 16 ⟨.ptr 347,8,.gK,none,false⟩ (.node (.node (lf 17 ⟨.ptr 356,8,.gK,none,false⟩) 18 ⟨.struct [(0,1,17)],8,.ag [.gK],none,false⟩ .nil) 19 ⟨.struct [(0,1,17)],8,.ag [.gK],none,false⟩ (lf 20 ⟨.iface,16,.eP,none,false⟩)))) 21 ⟨.int .i32,4,.int .i32 0,none,false⟩ (.node (.node (.node (.node (lf 22 ⟨.slice 212,24,.aG,none,false⟩) 23 ⟨.struct [(0,1,3),(1,1,22),(2,1,3)],40,.ag [.int .i64 0,.aG,.int .i64 0],none,false⟩ .nil) 24 ⟨.struct [(0,1,3),(1,1,22),(2,1,3)],40,.ag [.int .i64 0,.aG,.int .i64 0],none,false⟩ (lf 25 pz)) 26 pz (.node (.node (lf 27 ⟨.struct [(0,1,4),(1,1,3),(2,1,3),(3,1,3),(4,1,3)],40,.ag [.ff,.int .i64 0,.int .i64 0,.int .i64 0,.int .i64 0],none,true⟩) 28 ⟨.struct [(0,1,4),(1,1,3),(2,1,3),(3,1,3),(4,1,3)],40,.ag [.ff,.int .i64 0,.int .i64 0,.int .i64 0,.int .i64 0],none,true⟩ .nil) 29 ⟨.iface,16,.eP,none,false⟩ (lf 30 ⟨.iface,16,.eP,none,false⟩))) 32 pz (.node (.node (.node (lf 33 pz) 34 pz .nil) 35 pz (lf 36 ⟨.slice 39,24,.aG,none,false⟩)) 37 ⟨.slice 238,24,.aG,none,false⟩ (.node (.node (lf 38 ⟨.struct [(0,1,4),(1,1,37),(2,1,37)],56,.ag [.ff,.aG,.aG],none,false⟩) 39 ⟨.struct [(0,1,4),(1,1,37),(2,1,37)],56,.ag [.ff,.aG,.aG],none,false⟩ .nil) 41 pz (lf 42 pz))))) 43 pz (.node (.node (.node (.node (.node (lf 44 pz) 45 pz .nil) 47 pz (lf 48 pz)) 49 pz (.node (.node (lf 50 pz) 51 ⟨.slice 142,24,.aG,none,false⟩ .nil) 52 ⟨.slice 247,24,.aG,none,false⟩ (lf 53 ⟨.slice 163,24,.aG,none,false⟩))) 54 ⟨.slice 144,24,.aG,none,false⟩ (.node (.node (.node (lf 55 ⟨.slice 147,24,.aG,none,false⟩) 56 ⟨.slice 150,24,.aG,none,false⟩ .nil) 57 ⟨.struct [(0,1,9),(1,1,9),(2,1,51),(3,1,52),(4,1,53),(5,1,54),(6,1,55),(7,1,56)],176,.ag [.str [],.str [],.aG,.aG,.aG,.aG,.aG,.aG],none,false⟩ (lf 58 ⟨.struct [(0,1,9),(1,1,9),(2,1,51),(3,1,52),(4,1,53),(5,1,54),(6,1,55),(7,1,56)],176,.ag [.str [],.str [],.aG,.aG,.aG,.aG,.aG,.aG],none,false⟩)) 59 pz (.node (.node (lf 60 ⟨.slice 168,24,.aG,none,false⟩) 61 ⟨.struct [(0,1,3),(1,1,60),(2,1,3),(3,1,36),(4,1,36)],88,.ag [.int .i64 0,.aG,.int .i64 0,.aG,.aG],none,false⟩ .nil) 62 ⟨.struct [(0,1,3),(1,1,60),(2,1,3),(3,1,36),(4,1,36)],88,.ag [.int .i64 0,.aG,.int .i64 0,.aG,.aG],none,false⟩ (lf 64 pz)))) 65 pz (.node (.node (.node (.node (lf 66 pz) 68 pz .nil) 69 pz (lf 71 pz)) 72 ⟨.slice 74,24,.aG,none,false⟩ (.node (.node (lf 73 ⟨.struct [(0,1,3),(1,1,72),(2,1,3)],40,.ag [.int .i64 0,.aG,.int .i64 0],none,false⟩) 74 ⟨.struct [(0,1,3),(1,1,72),(2,1,3)],40,.ag [.int .i64 0,.aG,.int .i64 0],none,false⟩ .nil) 76 pz (lf 77 pz))) 78 pz (.node (.node (.node (lf 79 pz) 80 pz .nil) 81 pz (lf 82 ⟨.slice 5,24,.aG,none,false⟩)) 83 pz (.node (.node (lf 85 pz) 86 ⟨.slice 3,24,.aG,none,false⟩ .nil) 87 ⟨.struct [(0,1,3),(1,1,86)],32,.ag [.int .i64 0,.aG],none,false⟩ (lf 88 ⟨.struct [(0,1,3),(1,1,86)],32,.ag [.int .i64 0,.aG],none,false⟩)))))) 90 pz (.node (.node (.node (.node (.node (.node (lf 91 pz) 92 pz .nil) 94 pz (.node (lf 95 pz) 96 pz .nil)) 98 pz (.node (.node (lf 99 ⟨.ptr 218,8,.gK,none,false⟩) 100 pz .nil) 101 ⟨.arr 2 3,16,.ag [.int .i64 0,.int .i64 0],none,true⟩ (lf 102 ⟨.slice 24,24,.aG,none,false⟩))) 103 ⟨.slice 226,24,.aG,none,false⟩ (.node (.node (.node (lf 104 ⟨.struct [(0,1,86),(1,1,103),(2,1,3)],56,.ag [.aG,.aG,.int .i64 0],none,false⟩) 105 ⟨.struct [(0,1,86),(1,1,103),(2,1,3)],56,.ag [.aG,.aG,.int .i64 0],none,false⟩ .nil) 107 pz (lf 108 pz)) 109 pz (.node (.node (lf 110 pz) 111 ⟨.int .i64,8,.int .i64 0,none,false⟩ .nil) 112 pz (lf 113 pz)))) 114 pz (.node (.node (.node (.node (lf 116 ⟨.slice 4,24,.aG,none,false⟩) 117 pz .nil) 118 pz (lf 119 pz)) 120 pz (.node (.node (lf 121 pz) 122 pz .nil) 123 pz (lf 124 pz))) 126 pz (.node (.node (.node (lf 127 pz) 128 pz .nil) 129 pz (lf 131 pz)) 132 pz (.node (.node (lf 133 ⟨.struct [(0,1,3),(1,1,3)],16,.ag [.int .i64 0,.int .i64 0],none,true⟩) 134 ⟨.struct [(0,1,3),(1,1,3)],16,.ag [.int .i64 0,.int .i64 0],none,true⟩ .nil) 135 pz (lf 136 pz))))) 137 pz (.node (.node (.node (.node (.node (lf 138 pz) 139 pz .nil) 140 pz (lf 141 ⟨.struct [(0,1,9),(1,3,39),(4,3,39),(7,3,39),(10,1,3)],192,.ag [.str [],.ag [.ff,.aG,.aG],.ag [.ff,.aG,.aG],.ag [.ff,.aG,.aG],.int .i64 0],none,false⟩)) 142 ⟨.struct [(0,1,9),(1,3,39),(4,3,39),(7,3,39),(10,1,3)],192,.ag [.str [],.ag [.ff,.aG,.aG],.ag [.ff,.aG,.aG],.ag [.ff,.aG,.aG],.int .i64 0],none,false⟩ (.node (.node (lf 143 ⟨.struct [(0,1,9),(1,1,9),(2,1,53)],56,.ag [.str [],.str [],.aG],none,false⟩) 144 ⟨.struct [(0,1,9),(1,1,9),(2,1,53)],56,.ag [.str [],.str [],.aG],none,false⟩ .nil) 145 ⟨.slice 9,24,.aG,none,false⟩ (lf 146 ⟨.struct [(0,1,9),(1,1,3),(2,1,145),(3,1,36)],72,.ag [.str [],.int .i64 0,.aG,.aG],none,false⟩))) 147 ⟨.struct [(0,1,9),(1,1,3),(2,1,145),(3,1,36)],72,.ag [.str [],.int .i64 0,.aG,.aG],none,false⟩ (.node (.node (.node (lf 148 ⟨.slice 152,24,.aG,none,false⟩) 149 ⟨.struct [(0,1,9),(1,1,9),(2,1,148)],56,.ag [.str [],.str [],.aG],none,false⟩ .nil) 150 ⟨.struct [(0,1,9),(1,1,9),(2,1,148)],56,.ag [.str [],.str [],.aG],none,false⟩ (lf 151 ⟨.struct [(0,1,9),(1,3,39)],72,.ag [.str [],.ag [.ff,.aG,.aG]],none,false⟩)) 152 ⟨.struct [(0,1,9),(1,3,39)],72,.ag [.str [],.ag [.ff,.aG,.aG]],none,false⟩ (.node (.node (lf 153 ⟨.ptr 156,8,.gK,none,false⟩) 154 ⟨.map 159 3,8,.iT,(some (.ag [.int .i64 0,.int .i64 0,.int .i64 0])),false⟩ .nil) 155 ⟨.struct [(0,8,58),(8,5,62),(13,1,154)],272,.ag [.ag [.str [],.str [],.aG,.aG,.aG,.aG,.aG,.aG],.ag [.int .i64 0,.aG,.int .i64 0,.aG,.aG],.iT],none,false⟩ (lf 156 ⟨.struct [(0,8,58),(8,5,62),(13,1,154)],272,.ag [.ag [.str [],.str [],.aG,.aG,.aG,.aG,.aG,.aG],.ag [.int .i64 0,.aG,.int .i64 0,.aG,.aG],.iT],none,false⟩)))) 157 pz (.node (.node (.node (.node (lf 158 ⟨.struct [(0,1,3),(1,1,3),(2,1,3)],24,.ag [.int .i64 0,.int .i64 0,.int .i64 0],none,true⟩) 159 ⟨.struct [(0,1,3),(1,1,3),(2,1,3)],24,.ag [.int .i64 0,.int .i64 0,.int .i64 0],none,true⟩ .nil) 160 pz (lf 161 pz)) 162 ⟨.struct [(0,1,9),(1,1,3),(2,1,3),(3,1,145),(4,3,39)],112,.ag [.str [],.int .i64 0,.int .i64 0,.aG,.ag [.ff,.aG,.aG]],none,false⟩ (.node (.node (lf 163 ⟨.struct [(0,1,9),(1,1,3),(2,1,3),(3,1,145),(4,3,39)],112,.ag [.str [],.int .i64 0,.int .i64 0,.aG,.ag [.ff,.aG,.aG]],none,false⟩) 164 pz .nil) 165 pz (lf 166 pz))) 167 ⟨.struct [(0,1,3),(1,1,3),(2,1,86),(3,3,39)],96,.ag [.int .i64 0,.int .i64 0,.aG,.ag [.ff,.aG,.aG]],none,false⟩ (.node (.node (.node (lf 168 ⟨.struct [(0,1,3),(1,1,3),(2,1,86),(3,3,39)],96,.ag [.int .i64 0,.int .i64 0,.aG,.ag [.ff,.aG,.aG]],none,false⟩) 169 ⟨.slice 264,24,.aG,none,false⟩ .nil) 170 ⟨.struct [(0,5,62),(5,1,169),(6,1,86)],136,.ag [.ag [.int .i64 0,.aG,.int .i64 0,.aG,.aG],.aG,.aG],none,false⟩ (lf 171 ⟨.struct [(0,5,62),(5,1,169),(6,1,86)],136,.ag [.ag [.int .i64 0,.aG,.int .i64 0,.aG,.aG],.aG,.aG],none,false⟩)) 173 pz (.node (.node (lf 174 ⟨.slice 36,24,.aG,none,false⟩) 175 pz .nil) 176 pz (lf 178 pz))))))) 179 ⟨.ptr 181,8,.gK,none,false⟩ (.node (.node (.node (.node (.node (.node (.node (lf 180 ⟨.struct [(0,3,24),(3,3,24),(6,1,86),(7,1,3)],112,.ag [.ag [.int .i64 0,.aG,.int .i64 0],.ag [.int .i64 0,.aG,.int .i64 0],.aG,.int .i64 0],none,false⟩) 181 ⟨.struct [(0,3,24),(3,3,24),(6,1,86),(7,1,3)],112,.ag [.ag [.int .i64 0,.aG,.int .i64 0],.ag [.int .i64 0,.aG,.int .i64 0],.aG,.int .i64 0],none,false⟩ .nil) 183 pz (.node (lf 184 pz) 185 pz .nil)) 186 ⟨.slice 190,24,.aG,none,false⟩ (.node (.node (lf 188 pz) 189 ⟨.struct [(0,2,134),(2,1,3)],24,.ag [.ag [.int .i64 0,.int .i64 0],.int .i64 0],none,false⟩ .nil) 190 ⟨.struct [(0,2,134),(2,1,3)],24,.ag [.ag [.int .i64 0,.int .i64 0],.int .i64 0],none,false⟩ (lf 192 pz))) 194 pz (.node (.node (.node (lf 196 pz) 197 pz .nil) 198 pz (lf 199 pz)) 201 pz (.node (.node (lf 202 pz) 203 pz .nil) 205 pz (lf 206 pz)))) 207 pz (.node (.node (.node (.node (lf 208 pz) 209 pz .nil) 210 pz (lf 211 ⟨.struct [(0,1,3),(1,1,3),(2,1,86)],40,.ag [.int .i64 0,.int .i64 0,.aG],none,false⟩)) 212 ⟨.struct [(0,1,3),(1,1,3),(2,1,86)],40,.ag [.int .i64 0,.int .i64 0,.aG],none,false⟩ (.node (.node (lf 214 pz) 215 ⟨.map 226 3,8,.iT,(some (.ag [.int .i64 0,.int .i64 0,.int .i64 0])),false⟩ .nil) 216 ⟨.map 264 3,8,.iT,(some (.ag [.int .i64 0,.int .i64 0,.int .i64 0])),false⟩ (lf 217 ⟨.struct [(0,1,86),(1,1,86),(2,1,103),(3,1,215),(4,1,216)],88,.ag [.aG,.aG,.aG,.iT,.iT],none,false⟩))) 218 ⟨.struct [(0,1,86),(1,1,86),(2,1,103),(3,1,215),(4,1,216)],88,.ag [.aG,.aG,.aG,.iT,.iT],none,false⟩ (.node (.node (.node (lf 220 pz) 221 pz .nil) 222 pz (lf 223 pz)) 224 pz (.node (.node (lf 225 ⟨.struct [(0,1,3),(1,1,3),(2,1,3)],24,.ag [.int .i64 0,.int .i64 0,.int .i64 0],none,true⟩) 226 ⟨.struct [(0,1,3),(1,1,3),(2,1,3)],24,.ag [.int .i64 0,.int .i64 0,.int .i64 0],none,true⟩ .nil) 227 pz (lf 228 ⟨.map 3 4,8,.iT,(some (.int .i64 0)),false⟩))))) 229 pz (.node (.node (.node (.node (.node (lf 230 pz) 231 ⟨.map 3 3,8,.iT,(some (.int .i64 0)),false⟩ .nil) 233 pz (lf 234 pz)) 235 pz (.node (.node (lf 236 pz) 237 pz .nil) 238 ⟨.int .u32,4,.int .u32 0,none,false⟩ (lf 239 ⟨.int .u64,8,.int .u64 0,none,false⟩))) 240 pz (.node (.node (.node (lf 241 ⟨.int .u64,8,.int .u64 0,none,false⟩) 242 pz .nil) 243 pz (lf 245 pz)) 246 ⟨.struct [(0,1,9),(1,1,4)],24,.ag [.str [],.ff],none,true⟩ (.node (.node (lf 247 ⟨.struct [(0,1,9),(1,1,4)],24,.ag [.str [],.ff],none,true⟩) 248 pz .nil) 249 pz (lf 250 pz)))) 251 pz (.node (.node (.node (.node (lf 252 pz) 253 pz .nil) 254 pz (lf 255 pz)) 256 pz (.node (.node (lf 257 pz) 258 pz .nil) 259 pz (lf 260 ⟨.slice 86,24,.aG,none,false⟩))) 261 pz (.node (.node (.node (lf 263 pz) 264 ⟨.arr 3 3,24,.ag [.int .i64 0,.int .i64 0,.int .i64 0],none,true⟩ .nil) 265 pz (lf 266 pz)) 267 pz (.node (.node (lf 268 pz) 269 pz .nil) 270 pz (lf 271 pz)))))) 272 pz (.node (.node (.node (.node (.node (.node (lf 273 pz) 274 pz .nil) 275 pz (.node (lf 276 pz) 277 pz .nil)) 278 pz (.node (.node (lf 279 pz) 280 pz .nil) 281 pz (lf 282 pz))) 283 pz (.node (.node (.node (lf 284 pz) 285 pz .nil) 286 pz (lf 287 pz)) 288 ⟨.map 291 3,8,.iT,(some (.ag [.int .i64 0,.int .i64 0,.int .i64 0])),false⟩ (.node (.node (lf 289 pz) 290 ⟨.struct [(0,1,3),(1,1,3),(2,1,3)],24,.ag [.int .i64 0,.int .i64 0,.int .i64 0],none,true⟩ .nil) 291 ⟨.struct [(0,1,3),(1,1,3),(2,1,3)],24,.ag [.int .i64 0,.int .i64 0,.int .i64 0],none,true⟩ (lf 292 pz)))) 294 pz (.node (.node (.node (.node (lf 295 ⟨.ptr 298,8,.gK,none,false⟩) 296 ⟨.map 326 3,8,.iT,(some (.ag [.int .i64 0,.int .i64 0,.int .i64 0])),false⟩ .nil) 297 ⟨.struct [(0,8,58),(8,3,24),(11,1,296)],224,.ag [.ag [.str [],.str [],.aG,.aG,.aG,.aG,.aG,.aG],.ag [.int .i64 0,.aG,.int .i64 0],.iT],none,false⟩ (lf 298 ⟨.struct [(0,8,58),(8,3,24),(11,1,296)],224,.ag [.ag [.str [],.str [],.aG,.aG,.aG,.aG,.aG,.aG],.ag [.int .i64 0,.aG,.int .i64 0],.iT],none,false⟩)) 299 pz (.node (.node (lf 300 pz) 301 pz .nil) 302 pz (lf 303 pz))) 304 ⟨.ptr 306,8,.gK,none,false⟩ (.node (.node (.node (lf 305 ⟨.struct [(0,3,24),(3,1,86),(4,1,116)],88,.ag [.ag [.int .i64 0,.aG,.int .i64 0],.aG,.aG],none,false⟩) 306 ⟨.struct [(0,3,24),(3,1,86),(4,1,116)],88,.ag [.ag [.int .i64 0,.aG,.int .i64 0],.aG,.aG],none,false⟩ .nil) 307 pz (lf 308 pz)) 309 pz (.node (.node (lf 310 pz) 311 pz .nil) 312 pz (lf 313 pz))))) 315 pz (.node (.node (.node (.node (.node (lf 316 pz) 318 pz .nil) 319 ⟨.struct [(0,1,3),(1,1,3)],16,.ag [.int .i64 0,.int .i64 0],none,true⟩ (lf 320 ⟨.struct [(0,1,3),(1,1,3)],16,.ag [.int .i64 0,.int .i64 0],none,true⟩)) 321 pz (.node (.node (lf 322 pz) 323 pz .nil) 324 pz (lf 325 ⟨.struct [(0,1,3),(1,1,3),(2,1,3)],24,.ag [.int .i64 0,.int .i64 0,.int .i64 0],none,true⟩))) 326 ⟨.struct [(0,1,3),(1,1,3),(2,1,3)],24,.ag [.int .i64 0,.int .i64 0,.int .i64 0],none,true⟩ (.node (.node (.node (lf 327 pz) 328 pz .nil) 329 pz (lf 330 pz)) 331 pz (.node (.node (lf 333 pz) 334 pz .nil) 335 pz (lf 336 pz)))) 337 ⟨.ptr 320,8,.gK,none,false⟩ (.node (.node (.node (.node (lf 338 pz) 339 pz .nil) 340 pz (lf 341 pz)) 342 pz (.node (.node (lf 343 ⟨.struct [(0,1,17),(1,1,17),(2,1,17),(3,1,9)],40,.ag [.gK,.gK,.gK,.str []],none,false⟩) 344 ⟨.struct [(0,1,17),(1,1,17),(2,1,17),(3,1,9)],40,.ag [.gK,.gK,.gK,.str []],none,false⟩ .nil) 345 ⟨.arr 0 16,0,.ag [],none,false⟩ (lf 346 ⟨.struct [(0,0,345)],0,.ag [.ag []],none,false⟩))) 347 ⟨.struct [(0,0,345)],0,.ag [.ag []],none,false⟩ (.node (.node (.node (lf 348 pz) 349 ⟨.int .u8,1,.int .u8 0,none,false⟩ .nil) 350 ⟨.int .u8,1,.int .u8 0,none,false⟩ (lf 351 pz)) 352 ⟨.ptr 5,8,.gK,none,false⟩ (.node (.node (lf 353 ⟨.int .i32,4,.int .i32 0,none,false⟩) 354 ⟨.int .i32,4,.int .i32 0,none,false⟩ .nil) 355 ⟨.struct [(0,1,12),(1,1,12),(2,1,238),(3,1,349),(4,1,5),(5,1,5),(6,1,350),(7,1,351),(8,1,352),(9,1,353),(10,1,354)],48,.ag [.int .u64 0,.int .u64 0,.int .u32 0,.int .u8 0,.int .u8 0,.int .u8 0,.int .u8 0,.aH,.gK,.int .i32 0,.int .i32 0],none,false⟩ (lf 356 ⟨.struct [(0,1,12),(1,1,12),(2,1,238),(3,1,349),(4,1,5),(5,1,5),(6,1,350),(7,1,351),(8,1,352),(9,1,353),(10,1,354)],48,.ag [.int .u64 0,.int .u64 0,.int .u32 0,.int .u8 0,.int .u8 0,.int .u8 0,.int .u8 0,.aH,.gK,.int .i32 0,.int .i32 0],none,false⟩)))))))
theorem lay : dR Tryz.prog L:=yw (by kernel_rfl)
theorem mixed : Tryz.prog.follows .mixedOrders = true:=by kernel_rfl

abbrev iL (l : List Int) : AV:=.sl 1 (l.map (.int .i64)) .no
abbrev wL (l : List Int) : AV:=.sl 1 (l.map (.int .u32)) .no
structure Rat where
 neg : Bool
 num : List Int
 den : List Int
 deriving DecidableEq,Inhabited

abbrev Rat.av (r : Rat) : AV:=.ag [.bool r.neg,wL r.num,wL r.den]

structure Gate where
 kind : Int
 k : Int
 args : List Int
 Uk : Rat
 deriving DecidableEq,Inhabited

structure Dyn where
 vars : Int
 gates : List Gate
 top : Int
 fail : List Rat
 repair : List Rat
 deriving DecidableEq,Inhabited

structure St where
 failed : Int
 memo : List Int
 deriving DecidableEq,Inhabited

theorem Ld {α : Type} {f : α -> AV} : ∀ {l : List α},yR (l.map f) -> ∀ x ∈ l,Ok (f x)
 | [],_,x,hx=>by simp at hx
 | y :: l,h,x,hx=>by
   simp only [List.map_cons,yR] at h
   rcases List.mem_cons.1 hx with rfl | hx
   ·exact h.1
   ·exact Ld h.2 x hx

theorem aY {l m : List AV} (h : l = m) : dK l m:=h ▸ aB l

set_option maxRecDepth 100000

def count (v : List Bool) : List Int -> Int
 | []=>0
 | a :: l=>(if v.getD a.toNat false then 1 else 0) + count v l

def gval (g : Gate) (v : List Bool) (memo : Int) : Bool :=
 let n:=count v g.args
 if g.kind = 1 then decide (n > 0)
 else if g.kind = 2 then decide (n ≥ g.k)
 else if g.kind = 3 then decide (n = 0)
 else if g.kind = 4 then decide (n % 2 = 1)
 else if g.kind = 6 then decide (n = g.args.length /\ memo = 0)
 else if g.kind = 8 then v.getD (g.args.getD 0 0).toNat false
 else decide (n = g.args.length)

def evs (n : Nat) (f : Nat) : List Bool:=(List.range n).map f.testBit


def yA {α : Type} (p : α -> Bool) : List α -> Int
 | []=>-1
 | x :: l=>if p x then 0 else (match yA p l with | -1=>-1 | n=>n + 1)

theorem sW {α : Type} (p : α -> Bool) : ∀ l : List α,(yA p l = -1 /\ ∀ x ∈ l,p x = false) \/ ∃ (i : Nat) (h : i < l.length),yA p l = i /\ p l[i] = true /\ ∀ (j : Nat) (hj : j < i),p l[j] = false
 | []=>.inl ⟨rfl,by simp⟩
 | x :: l=>by
   simp only [yA]
   cases hx : p x with
   | true=>exact .inr ⟨0,by simp,by simp,by simpa using hx,by simp⟩
   | false =>
     rcases sW p l with ⟨h1,h2⟩ | ⟨i,h,h1,h2,h3⟩
     ·refine .inl ⟨by simp [h1],?_⟩
      intro y hy
      rcases List.mem_cons.1 hy with rfl | hy
      ·exact hx
      ·exact h2 y hy
     ·refine .inr ⟨i + 1,by simpa using h,?_,by simpa using h2,?_⟩
      ·simp only [Bool.false_eq_true,if_false]
       rw [h1]
       split
       ·rename_i h4; omega
       ·simp
      ·intro j hj
       cases j with
       | zero=>simpa using hx
       | succ j=>simpa using h3 j (by omega)

theorem TW {α : Type} {p : α -> Bool} {l : List α} {i : Nat} (h : i < l.length) (hp : p l[i] = true) (hn : ∀ (j : Nat) (hj : j < i),p l[j] = false) : yA p l = i:=by
 rcases sW p l with ⟨_,h2⟩ | ⟨k,hk,h1,h2,h3⟩
 ·rw [h2 _ (List.getElem_mem h)] at hp; cases hp
 ·rcases Nat.lt_trichotomy i k with hik | rfl | hik
  ·rw [h3 i hik] at hp; cases hp
  ·exact h1
  ·rw [hn k hik] at h2; cases h2

theorem TY {α : Type} {p : α -> Bool} {l : List α} (hn : ∀ (j : Nat) (hj : j < l.length),p l[j] = false) : yA p l = -1:=by
 rcases sW p l with ⟨h1,_⟩ | ⟨k,hk,_,h2,_⟩
 ·exact h1
 ·rw [hn k hk] at h2; cases h2


structure TreeOk (d : Dyn) : Prop where
 vars : 1 <= d.vars /\ d.vars <= 24
 gates : d.gates.length <= 64
 args : ∀ (i : Nat) (h : i < d.gates.length),∀ a ∈ (d.gates[i]).args,0 <= a /\ a < d.vars + i
 two : ∀ (i : Nat) (h : i < d.gates.length),(d.gates[i]).kind = 8 -> 2 <= (d.gates[i]).args.length
 dep : ∀ (i : Nat) (h : i < d.gates.length),(d.gates[i]).kind = 8 -> ∀ a ∈ (d.gates[i]).args.drop 1,a < d.vars
 sp : ∀ (i : Nat) (h : i < d.gates.length),(d.gates[i]).kind = 7 -> 2 <= (d.gates[i]).args.length
 spl : ∀ (i : Nat) (h : i < d.gates.length),(d.gates[i]).kind = 7 -> ∀ a ∈ (d.gates[i]).args,a < d.vars
 top : 0 <= d.top /\ d.top < d.vars + d.gates.length

structure MemoOk (d : Dyn) (memo : List Int) : Prop where
 len : memo.length = d.gates.length
 sp : ∀ (i : Nat) (h : i < d.gates.length),(d.gates[i]).kind = 7 -> memo.getD i 0 < (d.gates[i]).args.length



theorem MX {α : Type} (p : α -> Bool) (l : List α) : (0 <= yA p l) ↔ l.any p = true:=by
 rcases sW p l with ⟨h1,h2⟩ | ⟨i,h,h1,h2,h3⟩
 ·rw [h1]
  constructor
  ·intro h; omega
  ·intro h
   obtain ⟨x,hx,hp⟩:=List.any_eq_true.1 h
   rw [h2 x hx] at hp; cases hp
 ·rw [h1]
  exact ⟨fun _=>List.any_eq_true.2 ⟨_,List.getElem_mem h,h2⟩,fun _=>by omega⟩

def holds (v : List Bool) (i : Int) (g : Gate) : Bool :=
 decide (g.kind = 8) && v.getD (g.args.getD 0 0).toNat false && (g.args.drop 1).any fun y=>decide (i = y)

def vstep (n : Nat) (memo : List Int) (v : List Bool) (g : Gate) : List Bool:=v ++ [gval g v (memo.getD (v.length - n) 0)]

def YQ (d : Dyn) (f : Nat) (memo : List Int) : List Bool:=d.gates.foldl (vstep d.vars.toNat memo) (evs d.vars.toNat f)


def val : List Int -> Nat
 | []=>0
 | x :: l=>x.toNat + 4294967296 * val l

def Ws (l : List Int) : Prop:=∀ x ∈ l,0 <= x /\ x < 4294967296

def wd (n : Nat) : List Int:=if h : n = 0 then [] else ((n % 4294967296 : Nat) : Int) :: wd (n / 4294967296)
termination_by n
decreasing_by exact Nat.div_lt_self (by omega) (by omega)

theorem iC : wd 0 = []:=by rw [wd]; simp
theorem kM {n : Nat} (h : n ≠ 0) : wd n = ((n % 4294967296 : Nat) : Int) :: wd (n / 4294967296):=by rw [wd]; simp [h]

theorem Ws.nil : Ws []:=by intro x hx; simp at hx
theorem Ws.cons {x : Int} {l : List Int} (hx : 0 <= x /\ x < 4294967296) (hl : Ws l) : Ws (x :: l):=by
 intro y hy
 rcases List.mem_cons.1 hy with rfl | hy
 ·exact hx
 ·exact hl y hy
theorem Ws.tail {x : Int} {l : List Int} (h : Ws (x :: l)) : Ws l:=fun y hy=>h y (by simp [hy])
theorem Ws.head {x : Int} {l : List Int} (h : Ws (x :: l)) : 0 <= x /\ x < 4294967296:=h x (by simp)
theorem Ws.append {l m : List Int} (h : Ws l) (g : Ws m) : Ws (l ++ m):=by
 intro x hx
 rcases List.mem_append.1 hx with hx | hx
 ·exact h x hx
 ·exact g x hx
theorem Ws.take {l : List Int} (h : Ws l) (n : Nat) : Ws (l.take n):=fun x hx=>h x (List.mem_of_mem_take hx)
theorem Ws.drop {l : List Int} (h : Ws l) (n : Nat) : Ws (l.drop n):=fun x hx=>h x (List.mem_of_mem_drop hx)
theorem Ws.get {l : List Int} (h : Ws l) {i : Nat} (hi : i < l.length) : 0 <= l[i] /\ l[i] < 4294967296:=h _ (List.getElem_mem hi)
theorem Ws.getD {l : List Int} (h : Ws l) {i : Nat} : 0 <= l.getD i 0 /\ l.getD i 0 < 4294967296:=by
 rw [List.getD_eq_getElem?_getD]
 cases hi : l[i]? with
 | none=>exact ⟨Int.le_refl _,by show (0 : Int) < _; omega⟩
 | some x=>exact h x (List.mem_of_getElem? hi)
theorem Ws.ok {l : List Int} (h : yR (l.map (AV.int .u32))) : Ws l:=by
 intro x hx
 have:=Ld h x hx
 simp [Ok,uN,IntKind.min,IntKind.max,IntKind.signed,IntKind.bits] at this
 omega

theorem mJ (n : Nat) : Ws (wd n):=by
 induction n using Nat.strongRecOn with
 | _ n ih =>
   by_cases h : n = 0
   ·subst h; rw [iC]; exact Ws.nil
   ·rw [kM h]
    exact Ws.cons (by omega) (ih _ (Nat.div_lt_self (by omega) (by omega)))

theorem bD (n : Nat) : val (wd n) = n:=by
 induction n using Nat.strongRecOn with
 | _ n ih =>
   by_cases h : n = 0
   ·subst h; rw [iC]; rfl
   ·rw [kM h,val,ih _ (Nat.div_lt_self (by omega) (by omega))]
    omega

theorem val_append : ∀ (l m : List Int),val (l ++ m) = val l + 4294967296 ^ l.length * val m
 | [],m=>by simp [val]
 | x :: l,m=>by
   simp only [List.cons_append,val,val_append l m,List.length_cons,Nat.pow_succ]
   rw [Nat.mul_add,<- Nat.mul_assoc,Nat.mul_comm 4294967296 (4294967296 ^ l.length)]; omega

theorem fF : ∀ {l : List Int},Ws l -> val l < 4294967296 ^ l.length
 | [],_=>by simp [val]
 | x :: l,h=>by
   have:=fF h.tail
   have hx:=h.head
   simp only [val,List.length_cons,Nat.pow_succ]
   have : 4294967296 * (val l + 1) <= 4294967296 * 4294967296 ^ l.length:=Nat.mul_le_mul_left _ (by omega)
   rw [Nat.mul_comm (4294967296 ^ l.length)]
   omega

def Pl (l : List Int) : Prop:=l = [] \/ l.getLastD 0 ≠ 0

theorem OU : ∀ {l : List Int},Ws l -> Pl l -> wd (val l) = l
 | [],_,_=>by rw [val,iC]
 | [x],h,hp=>by
   have hx:=h.head
   have h0 : x ≠ 0:=by
    rcases hp with hp | hp
    ·cases hp
    ·simpa using hp
   simp only [val]
   rw [kM (by omega)]
   have e1 : (x.toNat + 4294967296 * 0) % 4294967296 = x.toNat:=by omega
   have e2 : (x.toNat + 4294967296 * 0) / 4294967296 = 0:=by omega
   rw [e1,e2,iC]
   simp; omega
 | x :: y :: l,h,hp=>by
   have hx:=h.head
   have hp' : Pl (y :: l):=by
    rcases hp with hp | hp
    ·cases hp
    ·exact .inr (by simpa using hp)
   have ih:=OU h.tail hp'
   have hv : val (y :: l) ≠ 0:=by
    intro e
    rw [e,iC] at ih; cases ih
   rw [val]
   generalize val (y :: l) = n at *
   rw [kM (by omega)]
   have e1 : (x.toNat + 4294967296 * n) % 4294967296 = x.toNat:=by omega
   have e2 : (x.toNat + 4294967296 * n) / 4294967296 = n:=by omega
   rw [e1,e2,ih]
   congr 1
   omega

theorem LD (n : Nat) : Pl (wd n):=by
 induction n using Nat.strongRecOn with
 | _ n ih =>
   by_cases h : n = 0
   ·subst h; rw [iC]; exact .inl rfl
   ·rw [kM h]
    refine .inr ?_
    by_cases h2 : n / 4294967296 = 0
    ·rw [h2,iC]
     show ((n % 4294967296 : Nat) : Int) ≠ 0
     omega
    ·have:=ih (n / 4294967296) (Nat.div_lt_self (by omega) (by omega))
     rcases this with hn | hn
     ·rw [kM h2] at hn; cases hn
     ·rw [kM h2] at hn ⊢
      simpa using hn

theorem kX : ∀ {l : List Int},(∀ x ∈ l,x = 0) -> val l = 0
 | [],_=>rfl
 | x :: l,h=>by
   have h1:=h x (by simp)
   have h2:=kX (l:=l) fun y hy=>h y (by simp [hy])
   simp [val,h1,h2]

theorem JG {l : List Int} (hl : Ws l) {n : Nat} (hn : n <= l.length) (hz : ∀ k,n <= k -> l.getD k 0 = 0) (hp : n = 0 \/ l.getD (n - 1) 0 ≠ 0) : l.take n = wd (val l):=by
 have h1 : val l = val (l.take n):=by
  conv=>lhs; rw [<- List.take_append_drop n l]
  rw [val_append,kX (l:=l.drop n),Nat.mul_zero,Nat.add_zero]
  intro x hx
  obtain ⟨k,hk,rfl⟩:=List.getElem_of_mem hx
  have:=hz (n + k) (by omega)
  simp only [List.length_drop] at hk
  rw [List.getD_eq_getElem?_getD,List.getElem?_eq_getElem (by omega)] at this
  simpa [List.getElem_drop] using this
 rw [h1]
 refine (OU (hl.take n) ?_).symm
 rcases hp with rfl | hp
 ·exact .inl (by simp)
 ·by_cases h0 : n = 0
  ·subst h0; exact .inl (by simp)
  ·refine .inr ?_
   rw [List.getLastD_eq_getLast?,List.getLast?_eq_getElem?]
   have e : (l.take n).length = n:=by simp; omega
   rw [e,List.getElem?_take,if_pos (by omega)]
   rw [List.getD_eq_getElem?_getD] at hp
   exact hp

theorem iY {l : List Int} (hl : Ws l) : (wd (val l)).length <= l.length:=by
 -- by the greatest place that is not 0
 have : ∀ n,n <= l.length -> (∀ k,n <= k -> l.getD k 0 = 0) -> ∃ m,m <= n /\ (∀ k,m <= k -> l.getD k 0 = 0) /\ (m = 0 \/ l.getD (m - 1) 0 ≠ 0):=by
  intro n
  induction n with
  | zero=>intro _ h; exact ⟨0,Nat.le_refl _,h,.inl rfl⟩
  | succ n ih =>
    intro hn h
    by_cases h0 : l.getD n 0 = 0
    ·obtain ⟨m,h1,h2,h3⟩:=ih (by omega) fun k hk=>by
      by_cases hkn : k = n
      ·subst hkn; exact h0
      ·exact h k (by omega)
     exact ⟨m,by omega,h2,h3⟩
    ·exact ⟨n + 1,Nat.le_refl _,h,.inr (by simpa using h0)⟩
 obtain ⟨m,h1,h2,h3⟩:=this l.length (Nat.le_refl _) fun k hk=>by
  rw [List.getD_eq_getElem?_getD,List.getElem?_eq_none hk]; rfl
 rw [<- JG hl h1 h2 h3,List.length_take]
 omega

theorem dh {l : List Int} (n : Nat) (h : n <= l.length) : val l = val (l.take n) + 4294967296 ^ n * val (l.drop n):=by
 conv=>lhs; rw [<- List.take_append_drop n l]
 rw [val_append]
 congr 3
 simp; omega

theorem oN {l : List Int} (hp : Pl l) (h : l ≠ []) (hl : Ws l) : 4294967296 ^ (l.length - 1) <= val l:=by
 have hlen : 0 < l.length:=List.length_pos_iff.2 h
 rw [dh (l.length - 1) (by omega)]
 rcases hp with hp | hp
 ·exact absurd hp h
 ·have hd : l.drop (l.length - 1) = [l[l.length - 1]'(by omega)]:=by
   rw [List.drop_eq_getElem_cons (by omega)]
   congr 1
   exact List.drop_eq_nil_of_le (by omega)
  rw [hd]
  have h1 : l[l.length - 1]'(by omega) ≠ 0:=by
   rw [List.getLastD_eq_getLast?,List.getLast?_eq_getElem?,List.getElem?_eq_getElem (by omega)] at hp
   exact hp
  have h2:=hl.get (i:=l.length - 1) (by omega)
  simp only [val]
  have : 4294967296 ^ (l.length - 1) * 1 <= 4294967296 ^ (l.length - 1) * ((l[l.length - 1]'(by omega)).toNat + 4294967296 * 0):=Nat.mul_le_mul_left _ (by omega)
  omega


def argsR (kind n : Int) : Bool :=
 if kind = 3 then decide (n = 1) else if kind = 5 then decide (n = 2)
 else if kind = 6 \/ kind = 7 \/ kind = 8 then decide (2 <= n /\ n <= 16) else decide (1 <= n /\ n <= 16)

def zeroR (r : Rat) : Bool:=!r.neg && decide (r.num.length = 0) && decide (r.den.length = 0)

def lI (l : List Int) : Bool:=decide (l ≠ []) && decide (l.getLastD 0 ≠ 0)

def valid (r : Rat) : Bool :=
 if r.num = [] /\ r.den = [] then !r.neg else lI r.num && lI r.den && decide (Nat.gcd (val r.num) (val r.den) = 1)

def sign (r : Rat) : Int:=if valid r = true /\ r.num ≠ [] then (if r.neg then -1 else 1) else 0

def xC (r : Rat) : Bool:=valid r && !r.neg && decide (val r.num <= val r.den)

structure Au (r : Rat) : Prop where
 v : aA Tryz.prog 95 [r.av] [] (.bool (valid r)) []
 s : aA Tryz.prog 96 [r.av] [] (.int .i64 (sign r)) []
 p : aA Tryz.prog 143 [r.av] [] (.bool (xC r)) []


def rF (e : Int) : AV:=if e = 0 then .eP else .jm 111 (.int .i64 e)

structure DynC (d : Dyn) : Prop where
 fail : ∀ x ∈ d.fail,Au x
 repair : ∀ x ∈ d.repair,Au x
 Uk : ∀ g ∈ d.gates,Au g.Uk


def loG (g : Gate) : Int:=if g.kind = 7 then -1 else 0
def hiG (g : Gate) : Int:=if g.kind = 6 then 1 else if g.kind = 7 then (g.args.length : Int) - 1 else 0

structure StOk (d : Dyn) (s : St) : Prop where
 len : s.memo.length = d.gates.length
 pos : 0 <= s.failed
 lt : s.failed < (2 ^ d.vars.toNat : Nat)
 memo : ∀ (k : Nat) (h : k < d.gates.length),loG d.gates[k] <= s.memo.getD k 0 /\ s.memo.getD k 0 <= hiG d.gates[k]


abbrev z0 : St:=⟨0,[]⟩

theorem eU : rF 0 = .eP:=rfl
theorem gq {e : Int} (h : e ≠ 0) : rF e = .jm 111 (.int .i64 e):=if_neg h


theorem gV {α : Type} {l : List α} {i : Nat} {x : α} (h : i < l.length) : l.getD i x = l[i]:=by
 rw [List.getD_eq_getElem?_getD,List.getElem?_eq_getElem h]; rfl

theorem fC {α : Type} (d : α) {f : α -> AV} {l : List α} {i : Nat} {n : Int} {k : AV -> Prop} (hn : n = i) (h : i < l.length) (hk : k (f (l.getD i d))) : bZ (l.map f) n k:=by
 subst hn
 refine jq h ?_
 rw [gV h] at hk; exact hk

theorem kU (a : List Int) (hsz : a.length <= 1000000) : aA Tryz.prog 247 [wL a] [] (wL (wd (val a))) []:=by
 refine aA.intro lay mixed Tryz.func247 (by kernel_rfl) rfl (by kernel_rfl) rfl fun hok=>?_
 have hl : a.length <= 9223372036854775807:=by simpa [yR,Ok,maxL] using hok.1.1
 have hw : Ws a:=Ws.ok hok.1.2
 conv=>whnf
 refine aK.of <| aC.inv (.refl _ _) (fun (n : Nat)=>n <= a.length /\ ∀ k,n <= k -> a.getD k 0 = 0) (fun (n : Nat)=>[(3,.int .i64 n)]) (fun _=>_) (fun (n : Nat)=>n) a.length ?_ (fun _=>rfl) ?_ ?_
 ·exact ⟨Nat.le_refl _,fun k hk=>by rw [List.getD_eq_getElem?_getD,List.getElem?_eq_none hk]; rfl⟩
 ·repeat' first|exact rfl|exact trivial|exact wR|exact lR _|apply aI
  simp
 rintro n ⟨hn,hz⟩ _
 have fin : (n = 0 \/ a.getD (n - 1) 0 ≠ 0) -> a.take n = wd (val a):=JG hw hn hz
 conv=>whnf
 refine And.intro (fun h=>?_) (fun h=>?_)
 ·conv=>whnf
  refine zA ?_;conv=>whnf
  refine fC 0 (i:=n - 1) (by omega) (by omega) ?_
  conv=>whnf
  refine And.intro (fun h0=>?_) (fun h0=>?_)
  ·conv=>whnf
   refine zA ?_;conv=>whnf
   refine ⟨n - 1,?_,?_,?_⟩
   ·refine ⟨by omega,fun k hk=>?_⟩
    by_cases hkn : k = n - 1
    ·subst hkn; exact h0
    ·exact hz k (by omega)
   ·repeat' first|exact rfl|exact trivial|exact wR|exact lR _|apply aI
    omega
   ·omega
  ·have e:=fin (.inr h0)
   conv=>whnf
   refine And.intro (fun hh=>?_) (fun hh=>?_)
   ·exfalso; omega
   conv=>whnf
   refine ⟨⟨by omega,by omega,by simp; omega⟩,?_⟩
   have hcut : ((a.map (AV.int .u32)).drop (0 : Int).toNat).take ((n : Int).toNat - (0 : Int).toNat) = (wd (val a)).map (AV.int .u32):=by
    rw [<- e]; simp [List.map_take]
   rw [hcut]
   have hll : (wd (val a)).length <= a.length:=by rw [<- e]; simp; omega
   conv=>whnf
   refine .tok (by simp [maxL]; omega) (by simp; omega) ?_
   conv=>whnf
   refine fM ?_;(conv=>whnf);refine ⟨?_,rfl⟩;conv=>whnf
   exact ⟨rfl,aY (by simp)⟩
 ·have e:=fin (.inl (by omega))
  conv=>whnf
  refine And.intro (fun hh=>?_) (fun hh=>by exfalso; omega)
  conv=>whnf
  refine fM ?_;(conv=>whnf);refine ⟨?_,rfl⟩;conv=>whnf
  rw [<- e,show n = 0 by omega]
  rfl
def oh (a b : Nat) : Int:=if a < b then -1 else if b < a then 1 else 0

theorem qM {a b : List Int} (ha : Ws a) (hb : Ws b) (hp : Pl b) (h : a.length < b.length) : val a < val b:=by
 have h1:=fF ha
 have h2:=oN hp (by intro e; subst e; simp at h) hb
 have h3 : 4294967296 ^ a.length <= 4294967296 ^ (b.length - 1):=Nat.pow_le_pow_right (by omega) (by omega)
 omega

theorem Iq {a b : List Int} (ha : Ws a) (hb : Ws b) {i : Nat} (h1 : i < a.length) (h2 : i < b.length) (hd : a.drop (i + 1) = b.drop (i + 1)) (h : a[i] < b[i]) : val a < val b:=by
 rw [dh i (by omega : i <= a.length),dh i (by omega : i <= b.length),List.drop_eq_getElem_cons h1,List.drop_eq_getElem_cons h2]
 simp only [val]
 rw [hd]
 have h3:=fF (ha.take i)
 have e : (a.take i).length = i:=by rw [List.length_take]; omega
 rw [e] at h3
 have h4:=ha.get h1
 have h5:=hb.get h2
 generalize 4294967296 * val (List.drop (i + 1) b) = w
 have : 4294967296 ^ i * (a[i].toNat + w + 1) <= 4294967296 ^ i * (b[i].toNat + w):=Nat.mul_le_mul_left _ (by omega)
 rw [Nat.mul_add _ _ 1] at this
 omega

theorem Jp (a b : List Int) (ha : a.length <= 1000000) (hb : b.length <= 1000000) : aA Tryz.prog 179 [wL a,wL b] [] (.int .i64 (oh (val a) (val b))) []:=by
 refine aA.intro lay mixed Tryz.func179 (by kernel_rfl) rfl (by kernel_rfl) rfl fun hok=>?_
 have wa : Ws a:=Ws.ok hok.1.2
 have wb : Ws b:=Ws.ok hok.2.1.2
 have la:=iY wa
 have lb:=iY wb
 conv=>whnf
 refine .pure _ _ ?_ ⟨rfl,rfl⟩ (kU a ha) fun _=>?_
 ·exact ak _
 conv=>whnf
 refine .pure _ _ ?_ ⟨rfl,rfl⟩ (kU b hb) fun _=>?_
 ·exact ak _
 have e1:=bD (val a)
 have e2:=bD (val b)
 have pa:=LD (val a)
 have pb:=LD (val b)
 have ua:=mJ (val a)
 have ub:=mJ (val b)
 rw [<- e1,<- e2]
 rw [e1,e2]
 generalize hA : wd (val a) = A at *
 generalize hB : wd (val b) = B at *
 rw [<- e1,<- e2]
 conv=>whnf
 refine And.intro (fun h=>?_) (fun h=>?_)
 ·have h : A.length ≠ B.length:=by simp only [List.length_map] at h; omega
  conv=>whnf
  refine And.intro (fun h1=>?_) (fun h1=>?_)
  ·have h1 : A.length < B.length:=by simp only [List.length_map] at h1; omega
   conv=>whnf
   refine fM ?_;(conv=>whnf);refine ⟨?_,rfl⟩;conv=>whnf
   refine ⟨rfl,?_⟩
   rw [oh,if_pos (qM ua ub pb h1)]
  ·have h1 : B.length < A.length:=by simp only [List.length_map] at h1; omega
   have:=qM ub ua pa h1
   conv=>whnf
   refine fM ?_;(conv=>whnf);refine ⟨?_,rfl⟩;conv=>whnf
   refine ⟨rfl,?_⟩
   rw [oh,if_neg (by omega),if_pos this]
 have h : A.length = B.length:=by simp only [List.length_map] at h; omega
 conv=>whnf
 refine ⟨bC (by simp; omega) (by simp; omega),?_⟩
 conv=>whnf
 refine aK.of <| aC.inv (.refl _ _) (fun (n : Nat)=>n <= A.length /\ A.drop n = B.drop n) (fun (n : Nat)=>[(5,.int .i64 ((n : Int) - 1))]) (fun _=>_) (fun (n : Nat)=>n) A.length ?_ (fun _=>rfl) ?_ ?_
 ·exact ⟨Nat.le_refl _,by rw [List.drop_length,h,List.drop_length]⟩
 ·repeat' first|exact rfl|exact trivial|exact wR|exact lR _|apply aI
  simp
 rintro n ⟨hn,hd⟩ _
 conv=>whnf
 refine And.intro (fun h0=>?_) (fun h0=>?_)
 ·have h1 : n - 1 < A.length:=by omega
  have h2 : n - 1 < B.length:=by omega
  conv=>whnf
  refine aS.auto (by kernel_rfl) ?_;conv=>whnf
  refine fC 0 (i:=n - 1) (by omega) h1 ?_
  conv=>whnf
  refine fC 0 (i:=n - 1) (by omega) h2 ?_
  rw [gV h1,gV h2]
  conv=>whnf
  have hd' : A.drop (n - 1 + 1) = B.drop (n - 1 + 1):=by rw [show n - 1 + 1 = n by omega]; exact hd
  refine And.intro (fun h3=>?_) (fun h3=>?_)
  ·conv=>whnf
   refine fM ?_;(conv=>whnf);refine ⟨?_,rfl⟩;conv=>whnf
   refine ⟨rfl,?_⟩
   rw [oh,if_pos (Iq ua ub h1 h2 hd' h3)]
  conv=>whnf
  refine aS.auto (by kernel_rfl) ?_;conv=>whnf
  refine fC 0 (i:=n - 1) (by omega) h1 ?_
  conv=>whnf
  refine fC 0 (i:=n - 1) (by omega) h2 ?_
  rw [gV h1,gV h2]
  conv=>whnf
  refine And.intro (fun h4=>?_) (fun h4=>?_)
  ·have:=Iq ub ua h2 h1 hd'.symm h4
   conv=>whnf
   refine fM ?_;(conv=>whnf);refine ⟨?_,rfl⟩;conv=>whnf
   refine ⟨rfl,?_⟩
   rw [oh,if_neg (by omega),if_pos this]
  conv=>whnf
  refine zA ?_;conv=>whnf
  refine ⟨n - 1,?_,?_,?_⟩
  ·refine ⟨by omega,?_⟩
   rw [List.drop_eq_getElem_cons h1,List.drop_eq_getElem_cons h2,hd']
   congr 1
   omega
  ·repeat' first|exact rfl|exact trivial|exact wR|exact lR _|apply aI
   omega
  ·omega
 ·have hn0 : n = 0:=by omega
  subst hn0
  have hAB : A = B:=by simpa using hd
  conv=>whnf
  refine fM ?_;(conv=>whnf);refine ⟨?_,rfl⟩;conv=>whnf
  refine ⟨rfl,?_⟩
  rw [oh,hAB,if_neg (by omega),if_neg (by omega)]

theorem RX (n : Nat) (h : n < 2 ^ 63) : aA Tryz.prog 277 [.int .i64 n] [] (wL (wd n)) []:=by
 refine aA.intro lay mixed Tryz.func277 (by kernel_rfl) rfl (by kernel_rfl) rfl fun hok=>?_
 conv=>whnf
 refine And.intro (fun h0=>?_) (fun h0=>?_)
 ·have hn : n = 0:=by omega
  subst hn
  conv=>whnf
  refine fM ?_;(conv=>whnf);refine ⟨?_,rfl⟩;conv=>whnf
  rw [iC]; rfl
 conv=>whnf
 refine ⟨by decide,?_⟩
 rw [mM rfl]
 conv=>whnf
 rw [dW,dW]
 have hw : Ws [((n % 4294967296 : Nat) : Int),((n / 4294967296 % 4294967296 : Nat) : Int)]:=Ws.cons (by omega) (Ws.cons (by omega) Ws.nil)
 have hv : val [((n % 4294967296 : Nat) : Int),((n / 4294967296 % 4294967296 : Nat) : Int)] = n:=by
  simp only [val]; omega
 have hc:=kU [((n % 4294967296 : Nat) : Int),((n / 4294967296 % 4294967296 : Nat) : Int)] (by simp)
 rw [hv] at hc
 refine .pure _ _ ?_ ⟨rfl,rfl⟩ hc fun _=>?_
 ·all_goals exact wk
 conv=>whnf
 refine fM ?_;(conv=>whnf);refine ⟨?_,rfl⟩;conv=>whnf
 all_goals exact wk

theorem Xq {r x b : Nat} (hr : r < b) (hx : x < 4294967296) : (r * 4294967296 + x) / b < 4294967296:=by
 rw [Nat.div_lt_iff_lt_mul (by omega)]
 have : (r + 1) * 4294967296 <= b * 4294967296:=Nat.mul_le_mul_right _ (by omega)
 rw [Nat.mul_comm 4294967296 b]
 omega

theorem ZT (a : List Int) (b : Nat) (hb : 0 < b /\ b < 4294967296) (hsz : a.length <= 1000000) :
  aA Tryz.prog 276 [wL a,.int .u32 b] [] (.eG [wL (wd (val a / b)),.int .u32 (val a % b : Nat)]) []:=by
 refine aA.intro lay mixed Tryz.func276 (by kernel_rfl) rfl (by kernel_rfl) rfl fun hok=>?_
 have hw : Ws a:=Ws.ok hok.1.2
 conv=>whnf
 refine ⟨⟨by omega,by omega,by simp; omega,by simp; omega⟩,.wr ?_⟩
 conv=>whnf
 refine ⟨bC (by simp; omega) (by simp; omega),?_⟩
 conv=>whnf
 refine aK.of <| aC.inv (.refl _ _) (fun x : Nat × List Int=>x.1 <= a.length /\ x.2.length = a.length /\ Ws x.2 /\ val (x.2.drop x.1) = val (a.drop x.1) / b)
  (fun | (n,_)=>[(8,.int .i64 ((n : Int) - 1)),(7,.int .u64 (val (a.drop n) % b : Nat))]) (fun | (_,out)=>[(0,.arr 1 a.length (out.map (.int .u32)))]) (fun x=>x.1) (a.length,List.replicate a.length 0) ?_ (fun _=>rfl) ?_ ?_
 ·refine ⟨Nat.le_refl _,by simp,?_,?_⟩
  ·intro x hx
   rw [List.mem_replicate] at hx
   rw [hx.2]; omega
  ·simp [val]
 ·refine ⟨?_,.mk ?_ ⟨by simp,trivial⟩⟩
  ·repeat' first|exact rfl|exact trivial|exact wR|exact lR _|apply aI
   ·simp
   ·simp [val]
  ·repeat' first|exact rfl|exact trivial|exact wR|exact lR _|apply aI
   ·simp
   ·exact aY (by simp)
 rintro ⟨n,out⟩ ⟨hn,ho,hwo,hv⟩ _
 simp only at hn ho hwo hv
 have hr : val (a.drop n) % b < b:=Nat.mod_lt _ hb.1
 conv=>whnf
 refine And.intro (fun h=>?_) (fun h=>?_)
 ·have h1 : n - 1 < a.length:=by omega
  have hx:=hw.get h1
  have hda : a.drop (n - 1) = a[n - 1] :: a.drop n:=by
   rw [List.drop_eq_getElem_cons h1]; congr 2; omega
  obtain ⟨x,hxx⟩ : ∃ x : Nat,a[n - 1] = x:=⟨(a[n - 1]).toNat,by omega⟩
  have hval : val (a.drop (n - 1)) = x + 4294967296 * val (a.drop n):=by rw [hda,val,hxx]; simp
  generalize hV : val (a.drop n) = V at *
  generalize hR : V % b = r at *
  have hq : (r * 4294967296 + x) / b < 4294967296:=Xq hr (by omega)
  have key : x + 4294967296 * V = b * (4294967296 * (V / b)) + (r * 4294967296 + x):=by
   have:=Nat.div_add_mod V b
   rw [hR] at this
   conv=>lhs; rw [<- this]
   rw [Nat.mul_add,<- Nat.mul_assoc,Nat.mul_comm 4294967296 b,Nat.mul_assoc]; omega
  have kdiv : (x + 4294967296 * V) / b = (r * 4294967296 + x) / b + 4294967296 * (V / b):=by
   rw [key,Nat.mul_add_div hb.1]; omega
  have kmod : (x + 4294967296 * V) % b = (r * 4294967296 + x) % b:=by
   rw [key,Nat.mul_add_mod]
  obtain ⟨q,hqq⟩ : ∃ q,(r * 4294967296 + x) / b = q:=⟨_,rfl⟩
  obtain ⟨m,hmm⟩ : ∃ m,(r * 4294967296 + x) % b = m:=⟨_,rfl⟩
  have hm : m < b:=hmm ▸ Nat.mod_lt _ hb.1
  rw [hqq] at hq kdiv
  rw [hmm] at kmod
  have hdo : (out.set (n - 1) (q : Int)).drop (n - 1) = (q : Int) :: out.drop n:=by
   rw [List.drop_eq_getElem_cons (by rw [List.length_set]; omega)]
   rw [List.getElem_set_self]
   congr 1
   rw [List.drop_set_of_lt (by omega)]
   congr 1; omega
  conv=>whnf
  refine ⟨by decide,?_⟩
  rw [qU (by omega)]
  conv=>whnf
  refine fC 0 (i:=n - 1) (by omega) h1 ?_
  rw [gV h1,hxx]
  conv=>whnf
  rw [wrap_u64 (n:=(x : Int)) (by omega) (by omega),zo (by omega) (by omega)]
  conv=>whnf
  rw [wrap_u64 (n:=(b : Int)) (by omega) (by omega)]
  refine ⟨by omega,?_⟩
  rw [Ei,hqq]
  conv=>whnf
  rw [wrap_u64 (n:=(q : Int)) (by omega) (by omega),wrap_u32 (n:=(q : Int)) (by omega) (by omega)]
  refine ⟨⟨by omega,by simp; omega⟩,?_⟩
  conv=>whnf
  refine ⟨by simp; omega,rfl,?_⟩
  conv=>whnf
  rw [wrap_u64 (n:=(b : Int)) (by omega) (by omega)]
  refine ⟨by omega,?_⟩
  rw [uQ,hmm]
  conv=>whnf
  refine zA ?_;conv=>whnf
  refine ⟨(n - 1,out.set (n - 1) q),?_,?_,?_⟩
  ·refine ⟨by show n - 1 <= a.length; omega,by simpa using ho,?_,?_⟩
   ·intro y hy
    rcases List.mem_or_eq_of_mem_set hy with hy | rfl
    ·exact hwo y hy
    ·omega
   ·show val ((out.set (n - 1) (q : Int)).drop (n - 1)) = val (a.drop (n - 1)) / b
    rw [hdo,val,hval,kdiv,hv]; simp
  ·refine ⟨?_,.mk ?_ ⟨by simp,trivial⟩⟩
   ·repeat' first|exact rfl|exact trivial|exact wR|exact lR _|apply aI
    ·omega
    ·rw [hval,kmod]
   ·repeat' first|exact rfl|exact trivial|exact wR|exact lR _|apply aI
    refine aY ?_
    rw [List.map_set]
    simp [strip]
  ·show n - 1 < n
   omega
 ·have hn0 : n = 0:=by omega
  subst hn0
  simp only [List.drop_zero] at hv hr
  have hcc:=kU out (by omega)
  rw [hv] at hcc
  conv=>whnf
  refine .gen _ _ (aA.PU 0 rfl rfl (by simp; omega) (aA.fB hcc ?_ ⟨rfl,rfl⟩)) fun _=>?_
  ·repeat' first|exact rfl|exact trivial|exact wR|exact lR _|apply aI
   refine aY ?_
   simp
   rw [List.take_of_length_le (by simp [ho])]
  conv=>whnf
  rw [List.drop_zero,wrap_u32 (by omega) (by omega)]
  refine fM ?_;(conv=>whnf);refine ⟨?_,rfl⟩;conv=>whnf
  all_goals exact wk

def OI (x y : Nat) : Prop:=aA Tryz.prog 248 [wL (wd x),wL (wd y)] [] (.eG [wL (wd (x / y)),wL (wd (x % y)),.eP]) []

theorem oM {y : Nat} (h0 : y ≠ 0) (h : y < 4294967296) : wd y = [(y : Int)]:=by
 rw [kM h0,show y / 4294967296 = 0 by omega,iC,show y % 4294967296 = y by omega]

theorem Ul (x y : Nat) (hx : (wd x).length <= 1000000) (h0 : y ≠ 0) (hy : y < 4294967296) : OI x y:=by
 unfold OI
 have c1:=kU (wd x) hx
 rw [bD] at c1
 have hyl:=oM h0 hy
 have c2:=kU (wd y) (by rw [hyl]; simp)
 rw [bD] at c2
 have c3:=Jp (wd x) (wd y) hx (by rw [hyl]; simp)
 rw [bD,bD] at c3
 refine aA.intro lay mixed Tryz.func248 (by kernel_rfl) rfl (by kernel_rfl) rfl fun hok=>?_
 conv=>whnf
 refine .pure _ _ ?_ ⟨rfl,rfl⟩ c1 fun _=>?_
 ·exact ak _
 conv=>whnf
 refine .pure _ _ ?_ ⟨rfl,rfl⟩ c2 fun _=>?_
 ·exact ak _
 conv=>whnf
 refine And.intro (fun h=>?_) (fun _=>?_)
 ·exfalso
  rw [hyl] at h; simp at h
 conv=>whnf
 refine .pure _ _ ?_ ⟨rfl,rfl⟩ c3 fun _=>?_
 ·exact ak _
 conv=>whnf
 refine And.intro (fun h=>?_) (fun h=>?_)
 ·have hlt : x < y:=by
   unfold oh at h
   split at h
   ·assumption
   ·split at h <;> omega
  conv=>whnf
  refine fM ?_;(conv=>whnf);refine ⟨?_,rfl⟩;conv=>whnf
  refine ⟨?_,?_,rfl,trivial⟩
  ·rw [Nat.div_eq_of_lt hlt,iC]; rfl
  ·rw [Nat.mod_eq_of_lt hlt]; exact fG _
 rw [hyl]
 conv=>whnf
 refine And.intro (fun _=>?_) (fun h=>?_)
 ·conv=>whnf
  refine ⟨⟨.int .u32 y,⟨by decide,rfl⟩,?_⟩⟩
  have c4:=ZT (wd x) y ⟨by omega,hy⟩ hx
  rw [bD] at c4
  conv=>whnf
  refine .pure _ _ ?_ ⟨rfl,rfl⟩ c4 fun _=>?_
  ·exact ak _
  have hm : x % y < y:=Nat.mod_lt _ (by omega)
  conv=>whnf
  rw [wrap64 (n:=((x % y : Nat) : Int)) (by omega) (by omega)]
  refine .pure _ _ ?_ ⟨rfl,rfl⟩ (RX (x % y) (by omega)) fun _=>?_
  ·exact ak _
  conv=>whnf
  refine fM ?_;(conv=>whnf);refine ⟨?_,rfl⟩;conv=>whnf
  exact ⟨fG _,ak _⟩
 ·exfalso; simp at h

theorem dX {x y : Nat} (h : x <= y) : (wd x).length <= (wd y).length:=by
 apply Classical.byContradiction
 intro hn
 have:=qM (mJ y) (mJ x) (LD x) (by omega)
 rw [bD,bD] at this
 omega

theorem c_Gcd (a b : List Int) (ha : a.length <= 1000000) (hb : b.length <= 1000000) (hd : ∀ x y,y ≠ 0 -> x <= max (val a) (val b) -> y <= max (val a) (val b) -> OI x y) :
  aA Tryz.prog 180 [wL a,wL b] [] (wL (wd (Nat.gcd (val a) (val b)))) []:=by
 refine aA.intro lay mixed Tryz.func180 (by kernel_rfl) rfl (by kernel_rfl) rfl fun hok=>?_
 have wa : Ws a:=Ws.ok hok.1.2
 have wb : Ws b:=Ws.ok hok.2.1.2
 conv=>whnf
 refine .pure _ _ ?_ ⟨rfl,rfl⟩ (kU a ha) fun _=>?_
 ·exact ak _
 conv=>whnf
 refine .pure _ _ ?_ ⟨rfl,rfl⟩ (kU b hb) fun _=>?_
 ·exact ak _
 conv=>whnf
 refine aK.of <| aC.inv (.refl _ _) (fun (x : Nat × Nat)=>x.1 <= max (val a) (val b) /\ x.2 <= max (val a) (val b) /\ Nat.gcd x.1 x.2 = Nat.gcd (val a) (val b)) (fun (x : Nat × Nat)=>[(0,wL (wd x.1)),(1,wL (wd x.2))]) (fun _=>_) (fun (x : Nat × Nat)=>x.2) (val a,val b) ?_ (fun _=>rfl) ?_ ?_
 ·exact ⟨Nat.le_max_left _ _,Nat.le_max_right _ _,rfl⟩
 ·all_goals exact wk
 rintro ⟨x,y⟩ ⟨h1,h2,h3⟩ _
 simp only at h1 h2 h3
 conv=>whnf
 refine And.intro (fun h=>?_) (fun h=>?_)
 ·have h0 : y ≠ 0:=by
   intro e; subst e
   rw [show ((x,0) : Nat × Nat).2 = 0 from rfl,iC] at h
   simp at h
  conv=>whnf
  refine .pure _ _ ?_ ⟨rfl,rfl⟩ (hd x y h0 h1 h2) fun _=>?_
  ·exact ak _
  have hm : x % y < y:=Nat.mod_lt _ (by omega)
  conv=>whnf
  refine ⟨(y,x % y),?_,?_,?_⟩
  ·refine ⟨h2,by show x % y <= _; omega,?_⟩
   show Nat.gcd y (x % y) = _
   rw [<- h3,Nat.gcd_comm x y,Nat.gcd_rec y x]
   try exact Nat.gcd_comm _ _
  ·all_goals exact wk
  ·show x % y < y
   exact hm
 ·have h0 : y = 0:=by
   apply Classical.byContradiction
   intro hy
   apply h
   show (0 : Int) < ((wd y).map _).length
   rw [kM hy]; simp
  subst h0
  conv=>whnf
  refine fM ?_;(conv=>whnf);refine ⟨?_,rfl⟩;conv=>whnf
  refine ⟨rfl,aY ?_⟩
  rw [<- h3,Nat.gcd_zero_right]

theorem RV : aA Tryz.prog 181 [] [] (wL [1]) []:=by
 refine aA.intro lay mixed Tryz.func181 (by kernel_rfl) rfl (by kernel_rfl) rfl fun hok=>?_
 conv=>whnf
 refine fM ?_;(conv=>whnf);refine ⟨?_,rfl⟩;conv=>whnf
 all_goals exact wk

theorem RU (a : List Int) (ha : a.length <= 1000000) : aA Tryz.prog 178 [wL a] [] (.bool (lI a)) []:=by
 refine aA.intro lay mixed Tryz.func178 (by kernel_rfl) rfl (by kernel_rfl) rfl fun hok=>?_
 conv=>whnf
 refine And.intro (fun h=>?_) (fun h=>?_)
 ·have h : 0 < a.length:=by simp only [List.length_map] at h; omega
  conv=>whnf
  refine ⟨bC (by simp; omega) (by simp; omega),?_⟩
  conv=>whnf
  refine fC 0 (i:=a.length - 1) (by simp; omega) (by omega) ?_
  conv=>whnf
  refine fM ?_;(conv=>whnf);refine ⟨?_,rfl⟩;conv=>whnf
  have e : a.getD (a.length - 1) 0 = a.getLastD 0:=by
   rw [List.getLastD_eq_getLast?,List.getLast?_eq_getElem?,List.getD_eq_getElem?_getD]
  rw [e]
  have hne : a ≠ []:=List.length_pos_iff.1 h
  simp [lI,hne]
 ·have h : a = []:=by
   apply List.eq_nil_of_length_eq_zero
   simp only [List.length_map] at h; omega
  subst h
  conv=>whnf
  refine fM ?_;(conv=>whnf);refine ⟨?_,rfl⟩;conv=>whnf
  rfl

theorem c_Valid (r : Rat) (h1 : r.num.length <= 1000000) (h2 : r.den.length <= 1000000) (hg : ¬ (r.num = [] /\ r.den = []) -> aA Tryz.prog 180 [wL r.num,wL r.den] [] (wL (wd (Nat.gcd (val r.num) (val r.den)))) []) :
  aA Tryz.prog 95 [r.av] [] (.bool (valid r)) []:=by
 refine aA.intro lay mixed Tryz.func95 (by kernel_rfl) rfl (by kernel_rfl) rfl fun hok=>?_
 have hw1 : Ws r.num:=Ws.ok hok.1.2.1.2
 have hw2 : Ws r.den:=Ws.ok hok.1.2.2.1.2
 have lg : (wd (Nat.gcd (val r.num) (val r.den))).length <= 1000000:=by
  have l1:=iY hw1
  have l2:=iY hw2
  by_cases h0 : val r.num = 0
  ·rw [h0,Nat.gcd_zero_left]; omega
  ·have:=dX (Nat.gcd_le_left (val r.den) (by omega : 0 < val r.num))
   omega
 have tail : ∀ {e : Env} {H : Heap} {k : AV -> Heap -> Prop},True:=fun {_ _ _}=>trivial
 clear tail
 have c1:=RU r.num h1
 have c2:=RU r.den h2
 have c3:=Jp (wd (Nat.gcd (val r.num) (val r.den))) [1] lg (by simp)
 rw [bD] at c3
 have v1 : val [1] = 1:=rfl
 rw [v1] at c3
 have hcmp : (oh (Nat.gcd (val r.num) (val r.den)) 1 = 0) ↔ Nat.gcd (val r.num) (val r.den) = 1:=by
  unfold oh
  split
  ·omega
  ·split <;> omega
 conv=>whnf
 refine And.intro (fun n1=>?_) (fun n1=>?_)
 ·have n1 : r.num = []:=by
   apply List.eq_nil_of_length_eq_zero
   simpa using n1
  conv=>whnf
  refine And.intro (fun n2=>?_) (fun n2=>?_)
  ·have n2 : r.den = []:=by
    apply List.eq_nil_of_length_eq_zero
    simpa using n2
   conv=>whnf
   refine fM ?_;(conv=>whnf);refine ⟨?_,rfl⟩;conv=>whnf
   simp [valid,n1,n2]
  ·have n2 : ¬ r.den = []:=fun e=>n2 (by rw [e]; rfl)
   have hval : valid r = false:=by simp [valid,n1,n2,lI]
   have p1 : lI r.num = false:=by simp [n1,lI]
   rw [hval]
   rw [p1] at c1
   conv=>whnf
   refine .pure _ _ ?_ ⟨rfl,rfl⟩ c1 fun _=>?_
   ·exact ak _
   conv=>whnf
   refine And.intro (fun h=>?_) (fun h=>?_)
   ·cases h
   ·conv=>whnf
    refine fM ?_;(conv=>whnf);refine ⟨?_,rfl⟩;conv=>whnf
 ·have n1 : ¬ r.num = []:=fun e=>n1 (by rw [e]; rfl)
  have hgc:=hg (fun h=>n1 h.1)
  have hval : valid r = (lI r.num && lI r.den && decide (Nat.gcd (val r.num) (val r.den) = 1)):=by simp [valid,n1]
  rw [hval]
  conv=>whnf
  refine .pure _ _ ?_ ⟨rfl,rfl⟩ c1 fun _=>?_
  ·exact ak _
  conv=>whnf
  refine And.intro (fun p1=>?_) (fun p1=>?_)
  ·conv=>whnf
   refine .pure _ _ ?_ ⟨rfl,rfl⟩ c2 fun _=>?_
   ·exact ak _
   conv=>whnf
   refine And.intro (fun p2=>?_) (fun p2=>?_)
   ·conv=>whnf
    refine .pure _ _ ?_ ⟨rfl,rfl⟩ hgc fun _=>?_
    ·exact ak _
    conv=>whnf
    refine .pure _ _ ?_ ⟨rfl,rfl⟩ RV fun _=>?_
    ·exact ak _
    conv=>whnf
    refine .pure _ _ ?_ ⟨rfl,rfl⟩ c3 fun _=>?_
    ·exact ak _
    conv=>whnf
    refine fM ?_;(conv=>whnf);refine ⟨?_,rfl⟩;conv=>whnf
    rw [p1,p2]
    show _ ↔ _
    rw [hcmp]; simp
   ·conv=>whnf
    refine fM ?_;(conv=>whnf);refine ⟨?_,rfl⟩;conv=>whnf
    simp [p1,p2]
  ·conv=>whnf
   refine fM ?_;(conv=>whnf);refine ⟨?_,rfl⟩;conv=>whnf
   simp [p1]

theorem xk (r : Rat) (hv : aA Tryz.prog 95 [r.av] [] (.bool (valid r)) []) :
  aA Tryz.prog 182 [r.av] [] (if valid r = true /\ r.num ≠ [] then .eG [.bool r.neg,wL r.num,wL r.den] else .eG [.bool false,wL [],wL [1]]) []:=by
 generalize hR : (if valid r = true /\ r.num ≠ [] then AV.eG [.bool r.neg,wL r.num,wL r.den] else .eG [.bool false,wL [],wL [1]]) = R
 refine aA.intro lay mixed Tryz.func182 (by kernel_rfl) rfl (by kernel_rfl) rfl fun hok=>?_
 conv=>whnf
 refine .pure _ _ ?_ ⟨rfl,rfl⟩ hv fun _=>?_
 ·exact ak _
 conv=>whnf
 refine And.intro (fun p1=>?_) (fun p1=>?_)
 ·have p1 : valid r = false:=by simpa using p1
  rw [if_neg (by simp [p1])] at hR
  subst hR
  conv=>whnf
  refine .pure _ _ ?_ ⟨rfl,rfl⟩ RV fun _=>?_
  ·exact ak _
  conv=>whnf
  refine fM ?_;(conv=>whnf);refine ⟨?_,rfl⟩;conv=>whnf
  all_goals exact wk
 ·have p1 : valid r = true:=by simpa using p1
  conv=>whnf
  refine And.intro (fun p2=>?_) (fun p2=>?_)
  ·have p2 : r.num = []:=by
    apply List.eq_nil_of_length_eq_zero
    simpa using p2
   rw [if_neg (by simp [p2])] at hR
   subst hR
   conv=>whnf
   refine .pure _ _ ?_ ⟨rfl,rfl⟩ RV fun _=>?_
   ·exact ak _
   conv=>whnf
   refine fM ?_;(conv=>whnf);refine ⟨?_,rfl⟩;conv=>whnf
   all_goals exact wk
  ·have p2 : ¬ r.num = []:=fun e=>p2 (by rw [e]; rfl)
   rw [if_pos ⟨p1,p2⟩] at hR
   subst hR
   conv=>whnf
   refine aS.auto (by kernel_rfl) ?_;conv=>whnf
   refine fM ?_;(conv=>whnf);refine ⟨?_,rfl⟩;conv=>whnf
   all_goals exact wk

theorem c_Sign (r : Rat) (hv : aA Tryz.prog 95 [r.av] [] (.bool (valid r)) []) : aA Tryz.prog 96 [r.av] [] (.int .i64 (sign r)) []:=by
 have hp:=xk r hv
 refine aA.intro lay mixed Tryz.func96 (by kernel_rfl) rfl (by kernel_rfl) rfl fun hok=>?_
 by_cases h : valid r = true /\ r.num ≠ []
 ·rw [if_pos h] at hp
  conv=>whnf
  refine .pure _ _ ?_ ⟨rfl,rfl⟩ hp fun _=>?_
  ·exact ak _
  conv=>whnf
  refine And.intro (fun p2=>?_) (fun _=>?_)
  ·exfalso
   apply h.2
   apply List.eq_nil_of_length_eq_zero
   simpa using p2
  conv=>whnf
  refine And.intro (fun p2=>?_) (fun p2=>?_)
  ·conv=>whnf
   refine fM ?_;(conv=>whnf);refine ⟨?_,rfl⟩;conv=>whnf
   refine ⟨rfl,?_⟩
   rw [sign,if_pos h,if_pos p2]
  ·conv=>whnf
   refine fM ?_;(conv=>whnf);refine ⟨?_,rfl⟩;conv=>whnf
   refine ⟨rfl,?_⟩
   rw [sign,if_pos h,if_neg (by rw [p2]; simp)]
 ·rw [if_neg h] at hp
  conv=>whnf
  refine .pure _ _ ?_ ⟨rfl,rfl⟩ hp fun _=>?_
  ·exact ak _
  conv=>whnf
  refine And.intro (fun _=>?_) (fun p2=>by exfalso; exact p2 rfl)
  conv=>whnf
  refine fM ?_;(conv=>whnf);refine ⟨?_,rfl⟩;conv=>whnf
  refine ⟨rfl,?_⟩
  rw [sign,if_neg h]

theorem c_Prob (r : Rat) (h1 : r.num.length <= 1000000) (h2 : r.den.length <= 1000000) (hv : aA Tryz.prog 95 [r.av] [] (.bool (valid r)) []) : aA Tryz.prog 143 [r.av] [] (.bool (xC r)) []:=by
 have hc:=Jp r.num r.den h1 h2
 have hle : (oh (val r.num) (val r.den) <= 0) ↔ val r.num <= val r.den:=by
  unfold oh
  split
  ·omega
  ·split <;> omega
 refine aA.intro lay mixed Tryz.func143 (by kernel_rfl) rfl (by kernel_rfl) rfl fun hok=>?_
 conv=>whnf
 refine .pure _ _ ?_ ⟨rfl,rfl⟩ hv fun _=>?_
 ·exact ak _
 conv=>whnf
 refine And.intro (fun p1=>?_) (fun p1=>?_)
 ·conv=>whnf
  refine And.intro (fun p2=>?_) (fun p2=>?_)
  ·conv=>whnf
   refine .pure _ _ ?_ ⟨rfl,rfl⟩ hc fun _=>?_
   ·exact ak _
   conv=>whnf
   refine fM ?_;(conv=>whnf);refine ⟨?_,rfl⟩;conv=>whnf
   show _ ↔ _
   rw [hle]
   simp only [xC,p1,p2,Bool.true_and,decide_eq_true_eq]
  ·conv=>whnf
   refine fM ?_;(conv=>whnf);refine ⟨?_,rfl⟩;conv=>whnf
   simp [xC,p1,p2]
 ·conv=>whnf
  refine fM ?_;(conv=>whnf);refine ⟨?_,rfl⟩;conv=>whnf
  simp [xC,p1]

theorem ratC (r : Rat) (h1 : r.num.length <= 1000000) (h2 : r.den.length <= 1000000) (hd : ¬ (r.num = [] /\ r.den = []) -> ∀ x y,y ≠ 0 -> x <= max (val r.num) (val r.den) -> y <= max (val r.num) (val r.den) -> OI x y) : Au r:=by
 have hv:=c_Valid r h1 h2 fun h=>c_Gcd r.num r.den h1 h2 (hd h)
 exact ⟨hv,c_Sign r hv,c_Prob r h1 h2 hv⟩

theorem A8 : Au ⟨false,[],[]⟩:=ratC _ (by simp) (by simp) fun h=>absurd ⟨rfl,rfl⟩ h


def OneC : Prop:=aA Tryz.prog 149 [.int .i64 1] [] (Rat.av ⟨false,[1],[1]⟩) []



def MemoIn (d : Dyn) (memo : List Int) : Prop:=memo.length = d.gates.length /\ ∀ (k : Nat) (h : k < d.gates.length),loG d.gates[k] <= memo.getD k 0 /\ memo.getD k 0 <= hiG d.gates[k]

def Settled (d : Dyn) (f : Nat) (memo : List Int) : Prop :=
 ∀ g ∈ d.gates,g.kind = 8 -> (YQ d f memo).getD (g.args.getD 0 0).toNat false = true -> ∀ a ∈ g.args.drop 1,f.testBit a.toNat = true

structure Good (d : Dyn) (s : St) : Prop where
 pos : 0 <= s.failed
 lt : s.failed.toNat < 2 ^ d.vars.toNat
 memo : MemoIn d s.memo
 settled : Settled d s.failed.toNat s.memo


def nH : Nat -> Nat -> List Int
 | 0,_=>[]
 | k + 1,x=>((x % 4294967296 : Nat) : Int) :: nH k (x / 4294967296)

theorem dO : ∀ k x,(nH k x).length = k
 | 0,_=>rfl
 | k + 1,x=>by simp [nH,dO k]

theorem qK : ∀ k x,Ws (nH k x)
 | 0,_=>Ws.nil
 | k + 1,x=>Ws.cons (by omega) (qK k _)

theorem QK : ∀ {l : List Int},Ws l -> nH l.length (val l) = l
 | [],_=>rfl
 | x :: l,h=>by
   have hx:=h.head
   simp only [List.length_cons,nH,val]
   rw [show (x.toNat + 4294967296 * val l) % 4294967296 = x.toNat by omega,show (x.toNat + 4294967296 * val l) / 4294967296 = val l by omega,QK h.tail]
   congr 1; omega

theorem mD : ∀ {k x : Nat},x < 4294967296 ^ k -> val (nH k x) = x
 | 0,x,h=>by simp at h; subst h; rfl
 | k + 1,x,h=>by
   simp only [nH,val]
   rw [mD (k:=k) (by rw [Nat.div_lt_iff_lt_mul (by omega)]; rw [Nat.pow_succ] at h; exact h)]
   omega

theorem OW {l : List Int} {k x : Nat} (hw : Ws l) (hl : l.length = k) (hv : val l = x) : l = nH k x:=by
 rw [<- hl,<- hv]; exact (QK hw).symm

theorem sF : ∀ {l : List Int} {i : Nat} {x : Int} (h : i < l.length),val (l.set i x) + 4294967296 ^ i * (l[i]).toNat = val l + 4294967296 ^ i * x.toNat
 | [],_,_,h=>by simp at h
 | y :: l,0,x,_=>by simp [val]; omega
 | y :: l,i + 1,x,h=>by
   have:=sF (l:=l) (i:=i) (x:=x) (by simpa using h)
   simp only [List.set_cons_succ,val,List.getElem_cons_succ,Nat.pow_succ]
   rw [Nat.mul_comm (4294967296 ^ i) 4294967296,Nat.mul_assoc,Nat.mul_assoc]
   omega

theorem val_ge {l : List Int} {i : Nat} (h : i < l.length) : 4294967296 ^ i * (l[i]).toNat <= val l:=by
 rw [dh i (by omega),List.drop_eq_getElem_cons h]
 simp only [val]
 have : 4294967296 ^ i * (l[i]).toNat <= 4294967296 ^ i * ((l[i]).toNat + 4294967296 * val (l.drop (i + 1))):=Nat.mul_le_mul_left _ (by omega)
 omega

theorem Ws.set {l : List Int} (h : Ws l) {i : Nat} {x : Int} (hx : 0 <= x /\ x < 4294967296) : Ws (l.set i x):=by
 intro y hy
 rcases List.mem_or_eq_of_mem_set hy with hy | rfl
 ·exact h y hy
 ·exact hx

theorem xG {l : List Int} {i : Nat} (h : i < l.length) : val (l.take (i + 1)) = val (l.take i) + 4294967296 ^ i * (l[i]).toNat:=by
 rw [List.take_add_one,List.getElem?_eq_getElem h,val_append,List.length_take,Nat.min_eq_left (by omega)]
 simp [val]

theorem vK (a : List Int) (i : Nat) : aA Tryz.prog 274 [wL a,.int .i64 i] [] (.int .u64 (a.getD i 0)) []:=by
 refine aA.intro lay mixed Tryz.func274 (by kernel_rfl) rfl (by kernel_rfl) rfl fun hok=>?_
 have hw : Ws a:=Ws.ok hok.1.2
 conv=>whnf
 refine And.intro (fun h=>?_) (fun h=>?_)
 ·have h : i < a.length:=by simp only [List.length_map] at h; omega
  conv=>whnf
  refine fC 0 rfl h ?_
  conv=>whnf
  refine fM ?_;(conv=>whnf);refine ⟨?_,rfl⟩;conv=>whnf
  have:=hw.getD (i:=i)
  exact ⟨rfl,wrap_u64 (by omega) (by omega)⟩
 ·have h : a.length <= i:=by simp only [List.length_map] at h; omega
  conv=>whnf
  refine fM ?_;(conv=>whnf);refine ⟨?_,rfl⟩;conv=>whnf
  refine ⟨rfl,?_⟩
  rw [List.getD_eq_getElem?_getD,List.getElem?_eq_none h]; rfl

theorem QZ {a n : Nat} (ha : a < 4294967296) (hn : n < 32) : Es .u64 (a : Int) (n : Int) = ((a * 2 ^ n : Nat) : Int):=by
 unfold Es
 have h1 : min (n : Int).toNat (IntKind.bits .u64) = n:=by show min n 64 = n; omega
 rw [h1]
 have h2 : (a : Int) * 2 ^ n = ((a * 2 ^ n : Nat) : Int):=by simp
 rw [h2]
 have h3 : 2 ^ n <= 2 ^ 31:=Nat.pow_le_pow_right (by omega) (by omega)
 have h4 : a * 2 ^ n <= 4294967295 * 2 ^ 31:=Nat.mul_le_mul (by omega) h3
 exact wrap_u64 (by omega) (by omega)

theorem or_u32 {a b : Nat} (ha : a < 2 ^ 32) (hb : b < 2 ^ 32) : jC .or .u32 (a : Int) (b : Int) = ((a ||| b : Nat) : Int):=by
 simp only [jC]
 have e : ∀ x : Nat,BitVec.ofInt 32 (x : Int) = BitVec.ofNat 32 x:=by
  intro x; apply BitVec.eq_of_toNat_eq; simp
 have h1 : (BitVec.ofInt 32 (a : Int) ||| BitVec.ofInt 32 (b : Int)).toNat = a ||| b:=by
  rw [e,e,BitVec.toNat_or,BitVec.toNat_ofNat,BitVec.toNat_ofNat,Nat.mod_eq_of_lt ha,Nat.mod_eq_of_lt hb]
 show IntKind.wrap .u32 ((BitVec.ofInt 32 (a : Int) ||| BitVec.ofInt 32 (b : Int)).toNat : Int) = _
 rw [h1]
 have:=Nat.or_lt_two_pow ha hb
 exact wrap_u32 (by omega) (by omega)

theorem VZ {h y n : Nat} (hn : n < 32) (hh : h < 2 ^ n) : h ||| (y * 2 ^ n % 4294967296) = h + y * 2 ^ n % 4294967296:=by
 have e : (4294967296 : Nat) = 2 ^ (32 - n) * 2 ^ n:=by
  rw [<- Nat.pow_add,show 32 - n + n = 32 by omega]
 rw [e,Nat.mul_mod_mul_right]
 generalize y % 2 ^ (32 - n) = z
 have:=Nat.shiftLeft_add_eq_or_of_lt (i:=n) hh z
 rw [Nat.shiftLeft_eq] at this
 rw [Nat.or_comm,<- this]; omega

theorem Pz {p g Y B v0 v1 v2 t u : Nat} (e1 : v1 + p * g = v0 + p * t) (ht : t = g + Y % B) (e2 : v2 + p * B * u = v1 + p * B * (Y / B)) (hu : u = 0) : v2 = v0 + p * Y:=by
 subst ht; subst hu
 have k1 : p * (g + Y % B) = p * g + p * (Y % B):=Nat.mul_add _ _ _
 have k2 : p * Y = p * (Y % B) + p * B * (Y / B):=by
  rw [Nat.mul_assoc,<- Nat.mul_add,Nat.mod_add_div]
 have k3 : p * B * 0 = 0:=Nat.mul_zero _
 generalize p * (g + Y % B) = q1 at *
 generalize p * B * (Y / B) = q2 at *
 generalize p * (Y % B) = q3 at *
 generalize p * Y = q4 at *
 generalize p * B * 0 = q5 at *
 generalize p * g = q6 at *
 omega

theorem WG {out : List Int} {i g Y : Nat} {vi vo X P : Nat} (h1 : i < out.length) (h2 : i + 1 < out.length) (hgg : out[i] = (g : Int)) (hz : out.getD (i + 1) 0 = 0)
  (hv : val out = vi * P) (hvt : vo = vi + 4294967296 ^ i * X) (hY : X * P = Y) :
  val ((out.set i ((g + Y % 4294967296 : Nat) : Int)).set (i + 1) ((Y / 4294967296 : Nat) : Int)) = vo * P:=by
 have e1:=sF (x:=((g + Y % 4294967296 : Nat) : Int)) h1
 have ho2 : i + 1 < (out.set i ((g + Y % 4294967296 : Nat) : Int)).length:=by simpa using h2
 have e2:=sF (x:=((Y / 4294967296 : Nat) : Int)) ho2
 rw [gV h2] at hz
 rw [List.getElem_set_ne (by omega),hz,Nat.pow_succ] at e2
 rw [hgg] at e1
 have e3:=Pz e1 rfl e2 rfl
 rw [e3,hvt,Nat.add_mul,Nat.mul_assoc,hY,hv]

theorem X4 (a : List Int) (n : Nat) (hn : n < 32) (hsz : a.length <= 1000000) :
  aA Tryz.prog 279 [wL a,.int .i64 n] [] (.ms 0 0 (a.length + 1) (a.length + 1) 1) [(0,.arr 1 (a.length + 1) ((nH (a.length + 1) (val a * 2 ^ n)).map (.int .u32)))]:=by
 refine aA.intro lay mixed Tryz.func279 (by kernel_rfl) rfl (by kernel_rfl) rfl fun hok=>?_
 have hw : Ws a:=Ws.ok hok.1.2
 conv=>whnf
 refine ⟨bC (by simp; omega) (by simp; omega),?_⟩
 conv=>whnf
 refine ⟨⟨by simp; omega,by omega,by simp; omega,by simp; omega⟩,.wr ?_⟩
 conv=>whnf
 refine aK.of <| aC.inv (.refl _ _) (fun x : Nat × List Int=>x.1 <= a.length /\ x.2.length = a.length + 1 /\ Ws x.2 /\ val x.2 = val (a.take x.1) * 2 ^ n /\ ∀ k,x.1 < k -> x.2.getD k 0 = 0)
  (fun | (i,_)=>[(15,.int .i64 i)]) (fun | (_,out)=>[(0,.arr 1 (a.length + 1) (out.map (.int .u32)))]) (fun x=>a.length - x.1) (0,List.replicate (a.length + 1) 0) ?_ (fun _=>rfl) ?_ ?_
 ·refine ⟨Nat.zero_le _,by simp,?_,?_,?_⟩
  ·intro x hx
   rw [List.mem_replicate] at hx
   rw [hx.2]; omega
  ·rw [kX (fun x hx=>(List.mem_replicate.1 hx).2)]; simp [val]
  ·intro k _
   rw [List.getD_eq_getElem?_getD,List.getElem?_replicate]
   split <;> rfl
 ·refine ⟨?_,.mk ?_ ⟨by simp,trivial⟩⟩
  ·all_goals exact wk
  ·repeat' first|exact rfl|exact trivial|exact wR|exact lR _|apply aI
   all_goals first | (simp; done) | exact aY (by simp)
 rintro ⟨i,out⟩ ⟨hi,ho,hwo,hv,hz⟩ _
 simp only at hi ho hwo hv hz
 conv=>whnf
 refine And.intro (fun h=>?_) (fun h=>?_)
 ·have hlt : i < a.length:=by simpa using h
  have hx:=hw.get hlt
  have hvt:=xG hlt
  obtain ⟨x,hxx⟩ : ∃ x : Nat,a[i] = x:=⟨(a[i]).toNat,by omega⟩
  rw [hxx] at hvt hx
  simp only [Int.toNat_natCast] at hvt
  have h1 : i < out.length:=by omega
  have hg:=hwo.get h1
  have hge:=val_ge h1
  obtain ⟨g,hgg⟩ : ∃ g : Nat,out[i] = g:=⟨(out[i]).toNat,by omega⟩
  rw [hgg] at hg hge
  simp only [Int.toNat_natCast] at hge
  have hlow : val (a.take i) < 4294967296 ^ i:=by
   have:=fF (hw.take i)
   rw [List.length_take,Nat.min_eq_left (by omega)] at this
   exact this
  have hp : 0 < 2 ^ n:=Nat.two_pow_pos n
  have hgn : g < 2 ^ n:=by
   have h2 : 4294967296 ^ i * g < 4294967296 ^ i * 2 ^ n:=by
    have:=Nat.mul_lt_mul_of_pos_right hlow hp
    omega
   exact Nat.lt_of_mul_lt_mul_left h2
  have hn31 : 2 ^ n <= 2 ^ 31:=Nat.pow_le_pow_right (by omega) (by omega)
  have hy : x * 2 ^ n <= 4294967295 * 2 ^ 31:=Nat.mul_le_mul (by omega) hn31
  conv=>whnf
  refine jq hlt ?_
  rw [hxx]
  conv=>whnf
  rw [wrap_u64 (n:=(x : Int)) (by omega) (by omega)]
  refine ⟨by omega,?_⟩
  rw [QZ (by omega) hn]
  conv=>whnf
  refine ⟨⟨by omega,by simp; omega⟩,?_⟩
  conv=>whnf
  refine fC 0 (i:=i) (by omega) h1 ?_
  rw [gV h1,hgg]
  refine ⟨rfl,?_⟩
  conv=>whnf
  refine ⟨⟨by omega,by simp; omega⟩,?_⟩
  rw [dW,or_u32 (by omega) (by omega),VZ hn hgn]
  have hylt : x * 2 ^ n % 4294967296 + g < 4294967296:=by
   have h3 : g ||| (x * 2 ^ n % 4294967296) < 2 ^ 32:=Nat.or_lt_two_pow (by omega) (by omega)
   rw [VZ hn hgn] at h3
   omega
  generalize hY : x * 2 ^ n = Y at *
  conv=>whnf
  refine ⟨by simp; omega,rfl,?_⟩
  conv=>whnf
  refine zA ?_;conv=>whnf
  refine ⟨by decide,?_⟩
  rw [mM rfl]
  conv=>whnf
  refine ⟨⟨by omega,by simp; omega⟩,?_⟩
  rw [wrap_u32 (n:=((Y / 4294967296 : Nat) : Int)) (by omega) (by omega)]
  conv=>whnf
  refine ⟨by simp; omega,rfl,?_⟩
  conv=>whnf
  refine zA ?_;conv=>whnf
  refine ⟨(i + 1,(out.set i ((g + Y % 4294967296 : Nat) : Int)).set (i + 1) ((Y / 4294967296 : Nat) : Int)),?_,?_,?_⟩
  ·refine ⟨hlt,by simpa using ho,(hwo.set (by omega)).set (by omega),?_,?_⟩
   ·show val ((out.set i ((g + Y % 4294967296 : Nat) : Int)).set (i + 1) ((Y / 4294967296 : Nat) : Int)) = val (a.take (i + 1)) * 2 ^ n
    exact WG (X:=x) h1 (by omega) hgg (hz (i + 1) (by omega)) hv hvt hY
   ·intro k hk
    have hk : i + 1 < k:=hk
    have:=hz k (by omega)
    rw [List.getD_eq_getElem?_getD] at this ⊢
    rw [List.getElem?_set_ne (by omega),List.getElem?_set_ne (by omega)]
    exact this
  ·refine ⟨?_,.mk ?_ ⟨by simp,trivial⟩⟩
   ·all_goals exact wk
   ·repeat' first|exact rfl|exact trivial|exact wR|exact lR _|apply aI
    refine aY ?_
    rw [List.map_set,List.map_set]
    simp [strip]
  ·show a.length - (i + 1) < a.length - i
   omega
 ·have hil : i = a.length:=by have : ¬ i < a.length:=by simpa using h
                              omega
  subst hil
  rw [List.take_length] at hv
  conv=>whnf
  refine ⟨⟨_,_,.refl _ _,?_⟩⟩
  conv=>whnf
  refine ⟨?_,rfl,by simp [nextId],.mk ?_ ⟨by simp,trivial⟩⟩
  ·show AV.ms _ _ _ _ _ = _
   simp
   exact ⟨rfl,rfl⟩
  ·repeat' first|exact rfl|exact trivial|exact wR|exact lR _|apply aI
   refine aY ?_
   rw [OW hwo ho hv]

theorem JC : ∀ {k x i : Nat} (_ : i < k),(nH k x).getD i 0 = ((x / 4294967296 ^ i % 4294967296 : Nat) : Int)
 | 0,_,_,h=>by omega
 | k + 1,x,0,_=>by simp [nH]
 | k + 1,x,i + 1,h=>by
   have:=JC (k:=k) (x:=x / 4294967296) (i:=i) (by omega)
   simp only [nH,List.getD_cons_succ]
   rw [this,Nat.div_div_eq_div_mul,Nat.pow_succ,Nat.mul_comm (4294967296 ^ i)]

theorem Vm {l : List Int} {k x : Nat} (hl : l.length = k) (h : ∀ i,i < k -> l.getD i 0 = ((x / 4294967296 ^ i % 4294967296 : Nat) : Int)) : l = nH k x:=by
 apply List.ext_getElem
 ·rw [hl,dO]
 ·intro i h1 h2
  have e1:=h i (by omega)
  have e2:=JC (k:=k) (x:=x) (i:=i) (by omega)
  rw [gV h1] at e1
  rw [gV h2] at e2
  rw [e1,e2]

theorem uO {l : List Int} (hw : Ws l) (i : Nat) : val l / 4294967296 ^ i = val (l.drop i):=by
 by_cases h : i <= l.length
 ·have e:=dh (l:=l) i h
  have h1:=fF (hw.take i)
  rw [List.length_take,Nat.min_eq_left h] at h1
  rw [e,Nat.add_mul_div_left _ _ (Nat.pow_pos (by omega)),Nat.div_eq_of_lt h1,Nat.zero_add]
 ·have h0:=fF hw
  have h2 : 4294967296 ^ l.length <= 4294967296 ^ i:=Nat.pow_le_pow_right (by omega) (by omega)
  rw [Nat.div_eq_of_lt (by omega),List.drop_eq_nil_of_le (by omega)]; rfl

theorem kN (l : List Int) (i : Nat) : val (l.drop i) = (l.getD i 0).toNat + 4294967296 * val (l.drop (i + 1)):=by
 by_cases h : i < l.length
 ·rw [List.drop_eq_getElem_cons h,gV h]; rfl
 ·rw [List.drop_eq_nil_of_le (by omega),List.drop_eq_nil_of_le (by omega),List.getD_eq_getElem?_getD,List.getElem?_eq_none (by omega)]; rfl

theorem ED {l : List Int} (hw : Ws l) {i n : Nat} (hn : n < 32) :
  (((l.getD (i + 1) 0).toNat * 4294967296 + (l.getD i 0).toNat) / 2 ^ n) % 4294967296 = val l / 2 ^ n / 4294967296 ^ i % 4294967296:=by
 rw [Nat.div_div_eq_div_mul,Nat.mul_comm (2 ^ n),<- Nat.div_div_eq_div_mul,uO hw,kN l i,kN l (i + 1)]
 generalize (l.getD (i + 1) 0).toNat = y
 generalize (l.getD i 0).toNat = x
 generalize val (l.drop (i + 1 + 1)) = z
 have e : (4294967296 : Nat) = 2 ^ n * 2 ^ (32 - n):=by
  rw [<- Nat.pow_add,show n + (32 - n) = 32 by omega]
 have h : x + 4294967296 * (y + 4294967296 * z) = (y * 4294967296 + x) + 2 ^ n * (2 ^ (32 - n) * 4294967296 * z):=by
  have : 2 ^ n * (2 ^ (32 - n) * 4294967296 * z) = 4294967296 * (4294967296 * z):=by
   rw [<- Nat.mul_assoc,<- Nat.mul_assoc,<- e,Nat.mul_assoc]
  omega
 rw [h,Nat.add_mul_div_left _ _ (Nat.two_pow_pos n)]
 rw [Nat.mul_comm (2 ^ (32 - n)),Nat.mul_assoc,Nat.add_mul_mod_self_left]

theorem QY {a n : Nat} (hn : n < 32) : uK .u64 (a : Int) (n : Int) = ((a / 2 ^ n : Nat) : Int):=by
 unfold uK
 have h1 : min (n : Int).toNat (IntKind.bits .u64) = n:=by show min n 64 = n; omega
 rw [h1]
 rw [Int.fdiv_eq_ediv_of_nonneg _ (by have:=Int.pow_pos (n:=(2 : Int)) (m:=n) (by decide); omega)]
 simp

theorem MK {a b : Nat} (ha : a < 4294967296) (hb : b < 4294967296) : jC .or .u64 (b : Int) ((a * 4294967296 : Nat) : Int) = ((a * 4294967296 + b : Nat) : Int):=by
 rw [<- zo ha hb,JQ (by omega) (by omega),JQ (by omega) (by omega),Nat.or_comm]

theorem ZU (a : List Int) (n : Nat) (hn : n < 32) (hsz : a.length <= 1000000) :
  aA Tryz.prog 282 [wL a,.int .i64 n] [] (.ms 0 0 a.length a.length 1) [(0,.arr 1 a.length ((nH a.length (val a / 2 ^ n)).map (.int .u32)))]:=by
 refine aA.intro lay mixed Tryz.func282 (by kernel_rfl) rfl (by kernel_rfl) rfl fun hok=>?_
 have hw : Ws a:=Ws.ok hok.1.2
 conv=>whnf
 refine ⟨⟨by simp,by omega,by simp; omega,by simp; omega⟩,.wr ?_⟩
 conv=>whnf
 refine aK.of <| aC.inv (.refl _ _) (fun x : Nat × List Int=>x.1 <= a.length /\ x.2.length = a.length /\ ∀ k,k < x.1 -> x.2.getD k 0 = ((val a / 2 ^ n / 4294967296 ^ k % 4294967296 : Nat) : Int))
  (fun | (i,_)=>[(12,.int .i64 i)]) (fun | (_,out)=>[(0,.arr 1 a.length (out.map (.int .u32)))]) (fun x=>a.length - x.1) (0,List.replicate a.length 0) ?_ (fun _=>rfl) ?_ ?_
 ·refine ⟨Nat.zero_le _,by simp,?_⟩
  intro k hk
  exact absurd hk (Nat.not_lt_zero _)
 ·refine ⟨?_,.mk ?_ ⟨by simp,trivial⟩⟩
  ·all_goals exact wk
  ·repeat' first|exact rfl|exact trivial|exact wR|exact lR _|apply aI
   all_goals first | (simp; done) | exact aY (by simp)
 rintro ⟨i,out⟩ ⟨hi,ho,hz⟩ _
 simp only at hi ho hz
 conv=>whnf
 refine And.intro (fun h=>?_) (fun h=>?_)
 ·have hlt : i < a.length:=by simpa using h
  conv=>whnf
  refine .gen _ _ (aA.frame [] (vK a i) ⟨rfl,rfl,rfl,rfl⟩ trivial (ak _)) fun _=>?_
  conv=>whnf
  refine zA ?_;conv=>whnf
  refine .gen _ _ (aA.frame [] (vK a (i + 1)) ⟨rfl,rfl,rfl,rfl⟩ trivial (ak _)) fun _=>?_
  have hx:=hw.getD (i:=i)
  have hy:=hw.getD (i:=i + 1)
  have hrw:=ED hw (i:=i) hn
  generalize a.getD i 0 = x0 at *
  generalize a.getD (i + 1) 0 = y0 at *
  obtain ⟨x,rfl⟩ : ∃ x : Nat,x0 = x:=⟨x0.toNat,by omega⟩
  obtain ⟨y,rfl⟩ : ∃ y : Nat,y0 = y:=⟨y0.toNat,by omega⟩
  simp only [Int.toNat_natCast] at hrw
  conv=>whnf
  refine ⟨by decide,?_⟩
  rw [qU (by omega)]
  conv=>whnf
  refine ⟨by omega,?_⟩
  rw [MK (by omega) (by omega),QY hn]
  conv=>whnf
  refine ⟨⟨by omega,by simp; omega⟩,?_⟩
  rw [dW,hrw]
  conv=>whnf
  refine ⟨by simp; omega,rfl,?_⟩
  conv=>whnf
  refine zA ?_;conv=>whnf
  refine ⟨(i + 1,out.set i ((val a / 2 ^ n / 4294967296 ^ i % 4294967296 : Nat) : Int)),?_,?_,?_⟩
  ·refine ⟨hlt,by simpa using ho,?_⟩
   intro k hk
   have hk : k < i + 1:=hk
   show (out.set i ((val a / 2 ^ n / 4294967296 ^ i % 4294967296 : Nat) : Int)).getD k 0 = _
   by_cases hki : k = i
   ·subst hki
    rw [gV (by simp; omega),List.getElem_set_self]
   ·rw [List.getD_eq_getElem?_getD,List.getElem?_set_ne (by omega),<- List.getD_eq_getElem?_getD]
    exact hz k (by omega)
  ·refine ⟨?_,.mk ?_ ⟨by simp,trivial⟩⟩
   ·all_goals exact wk
   ·repeat' first|exact rfl|exact trivial|exact wR|exact lR _|apply aI
    refine aY ?_
    rw [List.map_set]
    simp [strip]
  ·show a.length - (i + 1) < a.length - i
   omega
 ·have hia : i = a.length:=by have : ¬ i < a.length:=by simpa using h
                              omega
  subst hia
  conv=>whnf
  refine ⟨⟨_,_,.refl _ _,?_⟩⟩
  conv=>whnf
  refine ⟨?_,rfl,by simp [nextId],.mk ?_ ⟨by simp,trivial⟩⟩
  ·show AV.ms _ _ _ _ _ = _
   simp
   exact ⟨rfl,rfl⟩
  ·repeat' first|exact rfl|exact trivial|exact wR|exact lR _|apply aI
   refine aY ?_
   rw [Vm ho hz]

def mid (us : List Int) (off : Nat) (s : List Int) : List Int:=us.take off ++ (s ++ us.drop (off + s.length))

theorem Dz {us s : List Int} {off : Nat} (h : off + s.length <= us.length) : (mid us off s).length = us.length:=by
 simp only [mid,List.length_append,List.length_take,List.length_drop]; omega

theorem Rn {us : List Int} {off : Nat} : mid us off [] = us:=by simp [mid]

theorem Ro {us s : List Int} {off : Nat} (h : off + s.length < us.length) : (mid us off s).getD (off + s.length) 0 = us.getD (off + s.length) 0:=by
 simp only [mid,List.getD_eq_getElem?_getD]
 rw [List.getElem?_append_right (by simp; omega),List.getElem?_append_right (by simp; omega),List.getElem?_drop]
 congr 2
 simp only [List.length_take]; omega

theorem Rl {us s : List Int} {off : Nat} {y : Int} (h : off + s.length < us.length) : (mid us off s).set (off + s.length) y = mid us off (s ++ [y]):=by
 simp only [mid]
 have h1 : (us.take off).length = off:=by simp; omega
 rw [List.set_append_right _ _ (by omega),h1,show off + s.length - off = s.length by omega,List.set_append_right _ _ (by omega),Nat.sub_self,List.drop_eq_getElem_cons h]
 simp only [List.set_cons_zero,List.append_assoc,List.length_append,List.length_singleton]
 rfl

theorem JZ {us s : List Int} {off : Nat} (hu : Ws us) (hs : Ws s) : Ws (mid us off s):=(hu.take _).append (hs.append (hu.drop _))

theorem En {x low b : Nat} (hx : x < 4294967296) (hl : low < 4294967296) (hb : b <= 1) :
  ∃ D : Nat,IntKind.wrap .u64 (IntKind.wrap .u64 ((x : Int) - (low : Int)) - (b : Int)) = (D : Int) /\ D < 18446744073709551616 /\ D / 9223372036854775808 <= 1 /\ x + 4294967296 * (D / 9223372036854775808) = D % 4294967296 + low + b:=by
 have hw : ∀ z : Int,IntKind.wrap .u64 z = z % 18446744073709551616:=by
  intro z; simp [IntKind.wrap,IntKind.bits,IntKind.signed]
 rw [hw,hw]
 refine ⟨((((x : Int) - (low : Int)) % 18446744073709551616 - (b : Int)) % 18446744073709551616).toNat,?_,?_,?_,?_⟩ <;> omega

theorem O4 {a : Nat} : uK .u64 (a : Int) 63 = ((a / 9223372036854775808 : Nat) : Int):=by
 unfold uK
 have h1 : min (63 : Int).toNat (IntKind.bits .u64) = 63:=by decide
 rw [h1]
 rw [Int.fdiv_eq_ediv_of_nonneg _ (by decide)]
 simp

theorem O1 {p B n w x y c c' b b' low vs s nv : Nat} (h1 : x + B * b' = y + low + b) (h2 : c + n * w = low + B * c') (h : vs + p * (b + c) = s + nv) :
  vs + p * x + p * B * (b' + c') = s + p * y + (nv + p * (n * w)):=by
 have e1 : p * (x + B * b') = p * (y + low + b):=by rw [h1]
 have e2 : p * (c + n * w) = p * (low + B * c'):=by rw [h2]
 rw [Nat.mul_add,Nat.mul_add,Nat.mul_add,<- Nat.mul_assoc] at e1
 rw [Nat.mul_add,Nat.mul_add p low,<- Nat.mul_assoc p B] at e2
 rw [Nat.mul_add] at h
 rw [Nat.mul_add (p * B)]
 omega

theorem bP {l : List Int} {i : Nat} : val (l.take (i + 1)) = val (l.take i) + 4294967296 ^ i * (l.getD i 0).toNat:=by
 by_cases h : i < l.length
 ·rw [xG h,gV h]
 ·rw [List.take_of_length_le (by omega),List.take_of_length_le (by omega),List.getD_eq_getElem?_getD,List.getElem?_eq_none (by omega)]
  simp

theorem Qa {p B a n w c : Nat} (hp : 0 < p) (h : c = a / p) : (c + n * w) / B = (a + p * (n * w)) / (p * B):=by
 rw [<- Nat.div_div_eq_div_mul,Nat.add_mul_div_left _ _ hp,h]

theorem XE {B n v p : Nat} (hn : n <= B) (hv : v < p) (hB : 0 < B) : n * v / p < B:=by
 rw [Nat.div_lt_iff_lt_mul (by omega)]
 have h1 : n * v <= B * v:=Nat.mul_le_mul_right _ hn
 have h2 : B * v < B * p:=Nat.mul_lt_mul_of_pos_left hv hB
 omega

def takeN (x y k : Nat) : Nat:=if x < y then x + 4294967296 ^ k - y else x - y

theorem Qb (us v : List Int) (off cap n : Nat) (hus : Ws us) (ho : off + v.length + 1 <= us.length) (hn : n <= 4294967296) (hsz : us.length <= 2000000)
  (hlim : n * val v < 4294967296 ^ (v.length + 1)) :
  aA Tryz.prog 280 [.ms 0 off (v.length + 1) cap 1,wL v,.int .u64 n] [(0,.arr 1 us.length (us.map (.int .u32)))]
   (.dec (val ((us.drop off).take (v.length + 1)) < n * val v))
   [(0,.arr 1 us.length ((mid us off (nH (v.length + 1) (takeN (val ((us.drop off).take (v.length + 1))) (n * val v) (v.length + 1)))).map (.int .u32)))]:=by
 refine aA.intro lay mixed Tryz.func280 (by kernel_rfl) rfl (by kernel_rfl) rfl fun hok=>?_
 have hw : Ws v:=Ws.ok hok.2.1.2
 conv=>whnf
 refine aK.of <| aC.inv (.refl _ _) (fun x : Nat × Nat × Nat × List Int × List Int=>x.1 <= v.length + 1 /\ x.2.2.1 <= 1 /\ x.2.1 = n * val (v.take x.1) / 4294967296 ^ x.1 /\ Ws x.2.2.2.1 /\ x.2.2.2.1.length = x.1 /\ x.2.2.2.2 = mid us off x.2.2.2.1 /\
   val ((us.drop off).take x.1) + 4294967296 ^ x.1 * (x.2.2.1 + x.2.1) = val x.2.2.2.1 + n * val (v.take x.1))
  (fun | (i,c,b,_)=>[(13,.int .i64 i),(8,.int .u64 b),(7,.int .u64 c)]) (fun | (_,_,_,_,M)=>[(0,.arr 1 us.length (M.map (.int .u32)))])
  (fun x=>v.length + 1 - x.1) (0,0,0,[],us) ?_ (fun _=>rfl) ?_ ?_
 ·refine ⟨Nat.zero_le _,by simp,?_,Ws.nil,rfl,?_,?_⟩
  ·simp [val]
  ·simp [Rn]
  ·simp [val]
 ·refine ⟨?_,.mk ?_ ⟨by simp,trivial⟩⟩
  ·all_goals exact wk
  ·repeat' first|exact rfl|exact trivial|exact wR|exact lR _|apply aI
   all_goals first | (simp; done) | exact aY (by simp)
 rintro ⟨i,c,b,s,M⟩ ⟨hi,hb,hc,hws,hsl,hM,hv⟩ _
 simp only at hi hb hc hws hsl hM hv
 conv=>whnf
 refine And.intro (fun h=>?_) (fun h=>?_)
 ·have hlt : i < v.length + 1:=by omega
  have Vj : M.length = us.length:=by rw [hM,Dz (by omega)]
  conv=>whnf
  refine .gen _ _ (aA.frame [] (vK v i) ⟨rfl,rfl,rfl,rfl⟩ trivial (ak _)) fun _=>?_
  have hwd:=hw.getD (i:=i)
  have hvt:=bP (l:=v) (i:=i)
  generalize v.getD i 0 = w0 at *
  obtain ⟨w,rfl⟩ : ∃ w : Nat,w0 = w:=⟨w0.toNat,by omega⟩
  rw [Int.toNat_natCast] at hvt
  have hlow : val (v.take i) < 4294967296 ^ i:=by
   have h1:=fF (hw.take i)
   have h2 : 4294967296 ^ (v.take i).length <= 4294967296 ^ i:=Nat.pow_le_pow_right (by omega) (by simp; omega)
   omega
  have hcl : c < 4294967296:=by rw [hc]; exact XE hn hlow (by omega)
  have hnw : n * w <= 4294967296 * 4294967295:=Nat.mul_le_mul hn (by omega)
  have hi2 : off + i < M.length:=by omega
  have hg : M.getD (off + i) 0 = us.getD (off + i) 0:=by rw [hM,<- hsl]; exact Ro (by omega)
  have hx:=hus.getD (i:=off + i)
  have hut:=bP (l:=us.drop off) (i:=i)
  rw [show (us.drop off).getD i 0 = us.getD (off + i) 0 by simp only [List.getD_eq_getElem?_getD,List.getElem?_drop]] at hut
  generalize us.getD (off + i) 0 = x0 at *
  obtain ⟨x,rfl⟩ : ∃ x : Nat,x0 = x:=⟨x0.toNat,by omega⟩
  rw [Int.toNat_natCast] at hut
  conv=>whnf
  rw [show ((n : Int) * (w : Int)) = ((n * w : Nat) : Int) from (Int.natCast_mul n w).symm,wrap_u64 (n:=((n * w : Nat) : Int)) (by omega) (by omega)]
  rw [show ((c : Int) + ((n * w : Nat) : Int)) = ((c + n * w : Nat) : Int) from (Int.natCast_add c (n * w)).symm,wrap_u64 (n:=((c + n * w : Nat) : Int)) (by omega) (by omega)]
  generalize hC : c + n * w = C at *
  conv=>whnf
  refine ⟨⟨Int.natCast_nonneg _,Int.ofNat_lt.2 hlt⟩,?_⟩
  conv=>whnf
  refine fC 0 (i:=off + i) (by omega) hi2 ?_
  rw [hg]
  refine ⟨rfl,?_⟩
  conv=>whnf
  rw [dW (a:=C),wrap_u64 (n:=(x : Int)) (by omega) (by omega)]
  have hCd:=Nat.mod_add_div C 4294967296
  have hlo : C % 4294967296 < 4294967296:=Nat.mod_lt _ (by decide)
  generalize C % 4294967296 = lo at *
  rw [wrap_u64 (n:=(lo : Int)) (by omega) (by omega)]
  obtain ⟨D,hD,hD1,hD2,hD3⟩:=En (x:=x) (low:=lo) (b:=b) (by omega) (by omega) hb
  rw [hD,dW (a:=D)]
  have hy : D % 4294967296 < 4294967296:=Nat.mod_lt _ (by decide)
  generalize D % 4294967296 = y at *
  refine ⟨⟨Int.natCast_nonneg _,Int.ofNat_lt.2 hlt⟩,?_⟩
  dsimp only [kQ]
  rw [tX]
  dsimp only [jo]
  dsimp only [yJ,fZ]
  conv=>whnf
  refine ⟨by rw [List.length_map]; omega,rfl,?_⟩
  conv=>whnf
  refine ⟨by decide,?_⟩
  rw [O4]
  conv=>whnf
  refine ⟨by decide,?_⟩
  rw [mM rfl]
  conv=>whnf
  refine zA ?_;conv=>whnf
  refine ⟨(i + 1,C / 4294967296,D / 9223372036854775808,s ++ [(y : Int)],M.set (off + i) (y : Int)),?_,?_,?_⟩
  ·refine ⟨hlt,hD2,?_,hws.append (Ws.cons (by omega) Ws.nil),by simp [hsl],?_,?_⟩
   ·show C / 4294967296 = n * val (v.take (i + 1)) / 4294967296 ^ (i + 1)
    rw [hvt,Nat.mul_add,Nat.mul_left_comm n,Nat.pow_succ,<- hC]
    exact Qa (Nat.pow_pos (by omega)) hc
   ·show M.set (off + i) (y : Int) = mid us off (s ++ [(y : Int)])
    rw [hM,<- hsl]
    exact Rl (by omega)
   ·show val ((us.drop off).take (i + 1)) + 4294967296 ^ (i + 1) * (D / 9223372036854775808 + C / 4294967296) = val (s ++ [(y : Int)]) + n * val (v.take (i + 1))
    have e1 : val (s ++ [(y : Int)]) = val s + 4294967296 ^ i * y:=by rw [val_append,hsl]; simp [val]
    rw [hut,hvt,e1,Nat.mul_add n,Nat.mul_left_comm n,Nat.pow_succ]
    exact O1 hD3 (by omega) hv
  ·refine ⟨?_,.mk ?_ ⟨by simp,trivial⟩⟩
   ·all_goals exact wk
   ·repeat' first|exact rfl|exact trivial|exact wR|exact lR _|apply aI
    refine aY ?_
    rw [List.map_set]
    simp [strip]
  ·show v.length + 1 - (i + 1) < v.length + 1 - i
   omega
 ·have hia : i = v.length + 1:=by omega
  subst hia
  rw [List.take_of_length_le (l:=v) (by omega)] at hc hv
  rw [Nat.div_eq_of_lt hlim] at hc
  subst hc
  have hsg:=fF ((hus.drop off).take (v.length + 1))
  rw [List.length_take,List.length_drop,Nat.min_eq_left (by omega)] at hsg
  have hvs:=fF hws
  rw [hsl] at hvs
  have hfin : (((b : Int) = 1) = (val ((us.drop off).take (v.length + 1)) < n * val v)) /\ val s = takeN (val ((us.drop off).take (v.length + 1))) (n * val v) (v.length + 1):=by
   unfold takeN
   generalize val ((us.drop off).take (v.length + 1)) = sg at *
   generalize 4294967296 ^ (v.length + 1) = P at *
   generalize n * val v = nv at *
   have hb2 : b = 0 \/ b = 1:=by omega
   rcases hb2 with rfl | rfl
   ·rw [Nat.add_zero,Nat.mul_zero] at hv
    refine ⟨?_,?_⟩
    ·exact propext ⟨fun h=>by omega,fun h=>by omega⟩
    ·split <;> omega
   ·rw [Nat.add_zero,Nat.mul_one] at hv
    refine ⟨?_,?_⟩
    ·exact propext ⟨fun h=>by omega,fun h=>by omega⟩
    ·split <;> omega
  have hse:=OW hws hsl hfin.2
  conv=>whnf
  refine ⟨⟨_,_,.refl _ _,?_⟩⟩
  conv=>whnf
  refine ⟨?_,rfl,by simp [nextId],.mk ?_ ⟨by simp,trivial⟩⟩
  ·rw [hfin.1]
   exact le_refl _
  ·repeat' first|exact rfl|exact trivial|exact wR|exact lR _|apply aI
   refine aY ?_
   rw [hM,hse]

theorem PO {p B c c' x w y vs s nv : Nat} (h1 : c + (x + w) = y + B * c') (h : vs + nv = s + p * c) :
  vs + p * x + (nv + p * w) = s + p * y + p * B * c':=by
 have e1 : p * (c + (x + w)) = p * (y + B * c'):=by rw [h1]
 rw [Nat.mul_add,Nat.mul_add,Nat.mul_add,<- Nat.mul_assoc] at e1
 omega

theorem Qj (us v : List Int) (off cap : Nat) (hus : Ws us) (ho : off + v.length + 1 <= us.length) (hsz : us.length <= 2000000) :
  aA Tryz.prog 281 [.ms 0 off (v.length + 1) cap 1,wL v] [(0,.arr 1 us.length (us.map (.int .u32)))]
   (.eG [])
   [(0,.arr 1 us.length ((mid us off (nH (v.length + 1) ((val ((us.drop off).take (v.length + 1)) + val v) % 4294967296 ^ (v.length + 1)))).map (.int .u32)))]:=by
 refine aA.intro lay mixed Tryz.func281 (by kernel_rfl) rfl (by kernel_rfl) rfl fun hok=>?_
 have hw : Ws v:=Ws.ok hok.2.1.2
 conv=>whnf
 refine aK.of <| aC.inv (.refl _ _) (fun x : Nat × Nat × List Int × List Int=>x.1 <= v.length + 1 /\ x.2.1 <= 1 /\ Ws x.2.2.1 /\ x.2.2.1.length = x.1 /\ x.2.2.2 = mid us off x.2.2.1 /\
   val ((us.drop off).take x.1) + val (v.take x.1) = val x.2.2.1 + 4294967296 ^ x.1 * x.2.1)
  (fun | (i,c,_)=>[(8,.int .i64 i),(4,.int .u64 c)]) (fun | (_,_,_,M)=>[(0,.arr 1 us.length (M.map (.int .u32)))])
  (fun x=>v.length + 1 - x.1) (0,0,[],us) ?_ (fun _=>rfl) ?_ ?_
 ·refine ⟨Nat.zero_le _,by simp,Ws.nil,rfl,?_,?_⟩
  ·simp [Rn]
  ·simp [val]
 ·refine ⟨?_,.mk ?_ ⟨by simp,trivial⟩⟩
  ·all_goals exact wk
  ·repeat' first|exact rfl|exact trivial|exact wR|exact lR _|apply aI
   all_goals first | (simp; done) | exact aY (by simp)
 rintro ⟨i,c,s,M⟩ ⟨hi,hb,hws,hsl,hM,hv⟩ _
 simp only at hi hb hws hsl hM hv
 conv=>whnf
 refine And.intro (fun h=>?_) (fun h=>?_)
 ·have hlt : i < v.length + 1:=by omega
  have Vj : M.length = us.length:=by rw [hM,Dz (by omega)]
  have hwd:=hw.getD (i:=i)
  have hvt:=bP (l:=v) (i:=i)
  have cw:=vK v i
  generalize v.getD i 0 = w0 at *
  obtain ⟨w,rfl⟩ : ∃ w : Nat,w0 = w:=⟨w0.toNat,by omega⟩
  rw [Int.toNat_natCast] at hvt
  have hi2 : off + i < M.length:=by omega
  have hg : M.getD (off + i) 0 = us.getD (off + i) 0:=by rw [hM,<- hsl]; exact Ro (by omega)
  have hx:=hus.getD (i:=off + i)
  have hut:=bP (l:=us.drop off) (i:=i)
  rw [show (us.drop off).getD i 0 = us.getD (off + i) 0 by simp only [List.getD_eq_getElem?_getD,List.getElem?_drop]] at hut
  generalize us.getD (off + i) 0 = x0 at *
  obtain ⟨x,rfl⟩ : ∃ x : Nat,x0 = x:=⟨x0.toNat,by omega⟩
  rw [Int.toNat_natCast] at hut
  conv=>whnf
  refine aS.auto (by kernel_rfl) ?_;conv=>whnf
  refine ⟨⟨Int.natCast_nonneg _,Int.ofNat_lt.2 hlt⟩,?_⟩
  conv=>whnf
  refine fC 0 (i:=off + i) (by omega) hi2 ?_
  rw [hg]
  refine ⟨rfl,?_⟩
  conv=>whnf
  refine fO.pure _ _ ?_ ⟨rfl,rfl⟩ cw ?_
  ·exact ak _
  conv=>whnf
  rw [wrap_u64 (n:=(x : Int)) (by omega) (by omega)]
  rw [show ((x : Int) + (w : Int)) = ((x + w : Nat) : Int) from (Int.natCast_add x w).symm,wrap_u64 (n:=((x + w : Nat) : Int)) (by omega) (by omega)]
  rw [show ((c : Int) + ((x + w : Nat) : Int)) = ((c + (x + w) : Nat) : Int) from (Int.natCast_add c (x + w)).symm,wrap_u64 (n:=((c + (x + w) : Nat) : Int)) (by omega) (by omega)]
  generalize hC : c + (x + w) = C at *
  conv=>whnf
  rw [dW (a:=C)]
  have hCd:=Nat.mod_add_div C 4294967296
  have hlo : C % 4294967296 < 4294967296:=Nat.mod_lt _ (by decide)
  generalize C % 4294967296 = y at *
  refine ⟨⟨Int.natCast_nonneg _,Int.ofNat_lt.2 hlt⟩,?_⟩
  dsimp only [kQ]
  rw [tX]
  dsimp only [jo]
  dsimp only [yJ,fZ]
  conv=>whnf
  refine ⟨by rw [List.length_map]; omega,rfl,?_⟩
  conv=>whnf
  refine ⟨by decide,?_⟩
  rw [mM rfl]
  conv=>whnf
  refine zA ?_;conv=>whnf
  refine ⟨(i + 1,C / 4294967296,s ++ [(y : Int)],M.set (off + i) (y : Int)),?_,?_,?_⟩
  ·refine ⟨hlt,(by omega : C / 4294967296 <= 1),hws.append (Ws.cons (by omega) Ws.nil),by simp [hsl],?_,?_⟩
   ·show M.set (off + i) (y : Int) = mid us off (s ++ [(y : Int)])
    rw [hM,<- hsl]
    exact Rl (by omega)
   ·show val ((us.drop off).take (i + 1)) + val (v.take (i + 1)) = val (s ++ [(y : Int)]) + 4294967296 ^ (i + 1) * (C / 4294967296)
    have e1 : val (s ++ [(y : Int)]) = val s + 4294967296 ^ i * y:=by rw [val_append,hsl]; simp [val]
    rw [hut,hvt,e1,Nat.pow_succ]
    exact PO (by omega) hv
  ·refine ⟨?_,.mk ?_ ⟨by simp,trivial⟩⟩
   ·all_goals exact wk
   ·repeat' first|exact rfl|exact trivial|exact wR|exact lR _|apply aI
    refine aY ?_
    rw [List.map_set]
    simp [strip]
  ·show v.length + 1 - (i + 1) < v.length + 1 - i
   omega
 ·have hia : i = v.length + 1:=by omega
  subst hia
  rw [List.take_of_length_le (l:=v) (by omega)] at hv
  have hvs:=fF hws
  rw [hsl] at hvs
  have hfin : val s = (val ((us.drop off).take (v.length + 1)) + val v) % 4294967296 ^ (v.length + 1):=by
   rw [hv,Nat.add_mul_mod_self_left,Nat.mod_eq_of_lt hvs]
  have hse:=OW hws hsl hfin
  conv=>whnf
  refine ⟨⟨_,_,.refl _ _,?_⟩⟩
  conv=>whnf
  refine ⟨trivial,rfl,by simp [nextId],.mk ?_ ⟨by simp,trivial⟩⟩
  repeat' first|exact rfl|exact trivial|exact wR|exact lR _|apply aI
  refine aY ?_
  rw [hM,hse]

theorem Xe {B p V s top next head u2 guess rest : Nat} (hV : (top * B + next) * p <= V) (hs : s < (head * B + u2 + 1) * p)
  (hg : guess * top + rest = head) (hc : rest * B + u2 < guess * next) : s / V < guess:=by
 apply Classical.byContradiction
 intro hn
 have h1 : guess * V <= s:=by
  have : guess * V <= (s / V) * V:=Nat.mul_le_mul_right _ (by omega)
  exact Nat.le_trans this (Nat.div_mul_le_self s V)
 have h2 : guess * ((top * B + next) * p) < (head * B + u2 + 1) * p:=Nat.lt_of_le_of_lt (Nat.le_trans (Nat.mul_le_mul_left _ hV) h1) hs
 rw [<- Nat.mul_assoc] at h2
 have h3:=Nat.lt_of_mul_lt_mul_right h2
 have h4 : guess * (top * B + next) = guess * top * B + guess * next:=by rw [Nat.mul_add,Nat.mul_assoc]
 have h5 : head * B = guess * top * B + rest * B:=by rw [<- hg,Nat.add_mul]
 omega

theorem Nk {p V s top head : Nat} (ht : 0 < top) (hV : top * p <= V) (hs : s < (head + 1) * p) : s / V <= head / top:=by
 rw [Nat.le_div_iff_mul_le ht]
 apply Classical.byContradiction
 intro hn
 have h1 : (head + 1) * p <= s / V * top * p:=Nat.mul_le_mul_right _ (by omega)
 have h2 : s / V * top * p <= s / V * V:=by rw [Nat.mul_assoc]; exact Nat.mul_le_mul_left _ hV
 have h3:=Nat.div_mul_le_self s V
 omega

theorem Fq {B p V s top next head u2 guess rest : Nat} (hB : 0 < B) (hp : 0 < p) (ht : 0 < top) (hV1 : (top * B + next) * p <= V) (hV : V < (top * B + next + 1) * p) (hs : (head * B + u2) * p <= s)
  (hg : guess * top + rest = head) (hc : guess * next <= rest * B + u2) (hgB : guess < B) : guess <= s / V + 1:=by
 have hV0 : 0 < V:=by
  have : 0 < (top * B + next) * p:=Nat.mul_pos (by have:=Nat.mul_pos ht hB; omega) hp
  omega
 have h1 : guess * (top * B + next) <= head * B + u2:=by
  have h4 : guess * (top * B + next) = guess * top * B + guess * next:=by rw [Nat.mul_add,Nat.mul_assoc]
  have h5 : head * B = guess * top * B + rest * B:=by rw [<- hg,Nat.add_mul]
  omega
 have h2 : guess * (top * B + next) * p <= s:=Nat.le_trans (Nat.mul_le_mul_right _ h1) hs
 have h3 : guess * V <= guess * ((top * B + next + 1) * p):=Nat.mul_le_mul_left _ (by omega)
 have h4 : guess * ((top * B + next + 1) * p) = guess * (top * B + next) * p + guess * p:=by
  rw [<- Nat.mul_assoc,Nat.mul_add guess _ 1,Nat.mul_one,Nat.add_mul]
 have h5 : guess * p < V:=by
  have h6 : guess * p < B * p:=Nat.mul_lt_mul_of_pos_right hgB hp
  have h7 : B * p <= (top * B + next) * p:=Nat.mul_le_mul_right _ (by have:=Nat.le_mul_of_pos_left B ht; omega)
  omega
 have h6 : guess * V < s + V:=by omega
 have h8 : guess < s / V + 1 + 1:=by
  have h9:=Nat.lt_div_mul_add (a:=s) hV0
  have h10 : guess * V < (s / V + 1 + 1) * V:=by
   rw [Nat.add_mul,Nat.add_mul,Nat.one_mul]; omega
  exact Nat.lt_of_mul_lt_mul_right h10
 omega

theorem CG {B top head guess rest : Nat} (hg : guess * top + rest = head) (hh : head < (top + 1) * B) (hr : B <= rest) : guess < B:=by
 have h1 : guess * top < top * B:=by rw [Nat.add_mul,Nat.one_mul] at hh; omega
 rw [Nat.mul_comm top] at h1
 exact Nat.lt_of_mul_lt_mul_right h1

theorem Em {V s g q : Nat} (hV : 0 < V) (hq : q = s / V) (h1 : q <= g) (h2 : g <= q + 1) : (s < g * V) = (g = q + 1):=by
 subst hq
 have h3:=Nat.div_mul_le_self s V
 have h4:=Nat.lt_div_mul_add (a:=s) hV
 refine propext ⟨fun h=>?_,fun h=>?_⟩
 ·apply Classical.byContradiction
  intro hn
  have : g = s / V:=by omega
  rw [this] at h; omega
 ·rw [h,Nat.add_mul,Nat.one_mul]; omega

theorem Tt {V s q k : Nat} (hq : q = s / V) : takeN s (q * V) k = s % V:=by
 subst hq
 have h3:=Nat.div_mul_le_self s V
 have h4:=Nat.div_add_mod s V
 rw [Nat.mul_comm] at h4
 unfold takeN
 rw [if_neg (by omega)]
 omega

theorem Ub {V s q k : Nat} (hV : 0 < V) (hq : q = s / V) (hs : V < 4294967296 ^ k) : (takeN s ((q + 1) * V) k + V) % 4294967296 ^ k = s % V:=by
 subst hq
 have h3:=Nat.div_mul_le_self s V
 have h4:=Nat.div_add_mod s V
 have h5:=Nat.lt_div_mul_add (a:=s) hV
 rw [Nat.mul_comm] at h4
 have hm:=Nat.mod_lt s hV
 unfold takeN
 rw [Nat.add_mul,Nat.one_mul,if_pos (by omega)]
 generalize s / V * V = x at *
 generalize s % V = r at *
 generalize 4294967296 ^ k = P at *
 rw [show s + P - (x + V) + V = r + P by omega,Nat.add_mod_right,Nat.mod_eq_of_lt (by omega)]

theorem EN {us s : List Int} {off : Nat} (h : off + s.length <= us.length) : (mid us off s).drop off = s ++ us.drop (off + s.length):=by
 simp only [mid]
 rw [List.drop_append_of_le_length (by simp; omega),List.drop_eq_nil_of_le (by simp; omega),List.nil_append]

theorem Zf {us s : List Int} {off : Nat} (h : off + s.length <= us.length) :
  val (mid us off s) + 4294967296 ^ off * val ((us.drop off).take s.length) = val us + 4294967296 ^ off * val s:=by
 have e1 : val us = val (us.take off) + 4294967296 ^ off * val (us.drop off):=dh off (by omega)
 have e2 : val (us.drop off) = val ((us.drop off).take s.length) + 4294967296 ^ s.length * val ((us.drop off).drop s.length):=dh s.length (by simp; omega)
 have e3 : val (mid us off s) = val (us.take off) + 4294967296 ^ off * (val s + 4294967296 ^ s.length * val ((us.drop off).drop s.length)):=by
  simp only [mid]
  rw [val_append,val_append,List.drop_drop,List.length_take,Nat.min_eq_left (by omega)]
 rw [e3,e1,e2,Nat.mul_add,Nat.mul_add]
 omega

theorem Ti {l : List Int} {n : Nat} (hl : l.length = n + 3) : val l = val (l.take n) + 4294967296 ^ n * ((l.getD n 0).toNat + 4294967296 * ((l.getD (n + 1) 0).toNat + 4294967296 * (l.getD (n + 2) 0).toNat)):=by
 rw [dh n (by omega),kN l n,kN l (n + 1),kN l (n + 1 + 1),List.drop_eq_nil_of_le (by omega : l.length <= n + 1 + 1 + 1)]
 rfl

theorem val_two {l : List Int} {n : Nat} (hl : l.length = n + 2) : val l = val (l.take n) + 4294967296 ^ n * ((l.getD n 0).toNat + 4294967296 * (l.getD (n + 1) 0).toNat):=by
 rw [dh n (by omega),kN l n,kN l (n + 1),List.drop_eq_nil_of_le (by omega : l.length <= n + 1 + 1)]
 rfl

theorem sH {l : List Int} (hw : Ws l) (n : Nat) : val (l.take n) < 4294967296 ^ n:=by
 have h1:=fF (hw.take n)
 have h2 : 4294967296 ^ (l.take n).length <= 4294967296 ^ n:=Nat.pow_le_pow_right (by omega) (by simp; omega)
 omega

theorem between {r p x : Nat} (h : r < p) : x * p <= r + p * x /\ r + p * x < (x + 1) * p:=by
 rw [Nat.mul_comm x p,Nat.add_mul,Nat.one_mul,Nat.mul_comm x p]; omega

structure nN (U V n L : Nat) (j : Nat) (M Q : List Int) : Prop where
 jle : j <= L - n
 wm : Ws M
 lm : M.length = L
 wq : Ws Q
 lq : Q.length = L - n
 lt : val (M.drop j) < V
 eq : val M + V * val Q = U
 z : ∀ k,k < j -> Q.getD k 0 = 0

theorem nN.seg {U V n L j : Nat} {M Q : List Int} (h : nN U V n L (j + 1) M Q) (hn : n <= L) (hV : V < 4294967296 ^ n) :
  val ((M.drop j).take (n + 1)) = val (M.drop j) /\ val (M.drop j) < 4294967296 * V /\ val (M.drop (j + (n + 1))) = 0:=by
 have h1:=kN M j
 have h2:=h.wm.getD (i:=j)
 have h3:=h.lt
 have hj:=h.jle
 have hlt : val (M.drop j) < 4294967296 * V:=by omega
 have h4 : val (M.drop j) < 4294967296 ^ (n + 1):=by
  rw [Nat.pow_succ]
  have : V * 4294967296 < 4294967296 ^ n * 4294967296:=Nat.mul_lt_mul_of_pos_right hV (by omega)
  omega
 have h5:=dh (l:=M.drop j) (n + 1) (by rw [List.length_drop,h.lm]; omega)
 rw [List.drop_drop] at h5
 have h6 : val (M.drop (j + (n + 1))) = 0:=by
  apply Classical.byContradiction
  intro hne
  have : 4294967296 ^ (n + 1) * 1 <= 4294967296 ^ (n + 1) * val (M.drop (j + (n + 1))):=Nat.mul_le_mul_left _ (by omega)
  omega
 rw [h6,Nat.mul_zero,Nat.add_zero] at h5
 exact ⟨h5.symm,hlt,h6⟩

theorem nN.step {U V n L j : Nat} {M Q : List Int} (h : nN U V n L (j + 1) M Q) (hn : n <= L) (hV0 : 0 < V) (hV : V < 4294967296 ^ n) :
  nN U V n L j (mid M j (nH (n + 1) (val (M.drop j) % V))) (Q.set j ((val (M.drop j) / V : Nat) : Int)):=by
 obtain ⟨h1,h2,h3⟩:=h.seg hn hV
 have hj:=h.jle
 have hq : val (M.drop j) / V < 4294967296:=by rw [Nat.div_lt_iff_lt_mul hV0]; omega
 have hr : val (M.drop j) % V < V:=Nat.mod_lt _ hV0
 have hdm:=Nat.div_add_mod (val (M.drop j)) V
 generalize hs : val (M.drop j) = s at *
 generalize s / V = q at *
 generalize s % V = r at *
 have hwl : (nH (n + 1) r).length = n + 1:=dO _ _
 have hwv : val (nH (n + 1) r) = r:=mD (by rw [Nat.pow_succ]; omega)
 have hml : j + (nH (n + 1) r).length <= M.length:=by rw [hwl,h.lm]; omega
 have hjq : j < Q.length:=by rw [h.lq]; omega
 refine ⟨by omega,JZ h.wm (qK _ _),by rw [Dz hml,h.lm],h.wq.set (by omega),by simpa using h.lq,?_,?_,?_⟩
 ·rw [EN hml,val_append,hwv,hwl,h3,Nat.mul_zero]; omega
 ·have e1:=Zf hml
  rw [hwl,h1,hwv] at e1
  have e2:=sF (x:=(q : Int)) hjq
  have e3:=h.z j (by omega)
  rw [gV hjq] at e3
  rw [e3] at e2
  have e4:=h.eq
  have e5 : V * val (Q.set j (q : Int)) = V * val Q + 4294967296 ^ j * (V * q):=by
   have : val (Q.set j (q : Int)) = val Q + 4294967296 ^ j * q:=by simpa using e2
   rw [this,Nat.mul_add,Nat.mul_left_comm]
  rw [e5]
  have e6 : 4294967296 ^ j * s = 4294967296 ^ j * (V * q) + 4294967296 ^ j * r:=by rw [<- Nat.mul_add,hdm]
  omega
 ·intro k hk
  have:=h.z k (by omega)
  rw [List.getD_eq_getElem?_getD] at this ⊢
  rw [List.getElem?_set_ne (by omega)]
  exact this

theorem nN.fin {U V n L : Nat} {M Q : List Int} (h : nN U V n L 0 M Q) : val Q = U / V /\ val M = U % V:=by
 have h1:=h.lt
 have h2:=h.eq
 rw [List.drop_zero] at h1
 have hV : 0 < V:=by omega
 rw [<- h2]
 constructor
 ·rw [Nat.add_mul_div_left _ _ hV,Nat.div_eq_of_lt h1,Nat.zero_add]
 ·rw [Nat.add_mul_mod_self_left,Nat.mod_eq_of_lt h1]

theorem nN.init {x V n L : Nat} {k : Nat} (hx : x < 4294967296 ^ (L - 1) * 2 ^ k) (hn : n <= L) (hn1 : 1 <= n) (hk : k < 32) (hV : 4294967296 ^ (n - 1) * 2 ^ k <= V) :
  nN x V n L (L - n) (nH L x) (List.replicate (L - n) 0):=by
 have hk2 : 2 ^ k <= 4294967296:=Nat.le_trans (Nat.pow_le_pow_right (by omega) (show k <= 32 by omega)) (by decide)
 have hxl : x < 4294967296 ^ L:=by
  have h1 : 4294967296 ^ (L - 1) * 2 ^ k <= 4294967296 ^ (L - 1) * 4294967296:=Nat.mul_le_mul_left _ hk2
  rw [<- Nat.pow_succ,show (L - 1).succ = L by omega] at h1
  omega
 refine ⟨Nat.le_refl _,qK _ _,dO _ _,?_,by simp,?_,?_,?_⟩
 ·intro y hy
  rw [(List.mem_replicate.1 hy).2]; omega
 ·rw [<- uO (qK _ _),mD hxl]
  have h2 : x < 4294967296 ^ (L - n) * V:=by
   have h3 : 4294967296 ^ (L - n) * (4294967296 ^ (n - 1) * 2 ^ k) <= 4294967296 ^ (L - n) * V:=Nat.mul_le_mul_left _ hV
   rw [<- Nat.mul_assoc,<- Nat.pow_add,show L - n + (n - 1) = L - 1 by omega] at h3
   omega
  rw [Nat.div_lt_iff_lt_mul (Nat.pow_pos (by omega)),Nat.mul_comm]
  exact h2
 ·rw [mD hxl,kX (fun y hy=>(List.mem_replicate.1 hy).2),Nat.mul_zero,Nat.add_zero]
 ·intro i _
  rw [List.getD_eq_getElem?_getD,List.getElem?_replicate]
  split <;> rfl

def jy (x : Nat) : Nat:=if x = 0 then 0 else x.log2 + 1

theorem Gn {x l : Nat} (h1 : 2 ^ l <= x) (h2 : x < 2 ^ (l + 1)) : jy x = l + 1:=by
 have hx : x ≠ 0:=by have:=Nat.two_pow_pos l; omega
 unfold jy
 rw [if_neg hx,(Nat.log2_eq_iff hx).2 ⟨h1,h2⟩]

theorem xw {x : Nat} (hx : x ≠ 0) : ∃ l,jy x = l + 1 /\ 2 ^ l <= x /\ x < 2 ^ (l + 1):=by
 refine ⟨x.log2,by unfold jy; rw [if_neg hx],(Nat.log2_eq_iff hx).1 rfl⟩

theorem Gp {x k : Nat} (h : 2 ^ k <= x) : jy x = jy (x / 2 ^ k) + k:=by
 have hk:=Nat.two_pow_pos k
 have h0 : x / 2 ^ k ≠ 0:=by
  have:=(Nat.le_div_iff_mul_le hk (x:=1) (y:=x)).2 (by omega)
  omega
 obtain ⟨l,h1,h2,h3⟩:=xw h0
 have:=Gn (x:=x) (l:=l + k) (by
  rw [Nat.le_div_iff_mul_le hk] at h2
  rw [Nat.pow_add]; exact h2) (by
  rw [Nat.div_lt_iff_lt_mul hk] at h3
  rw [show l + k + 1 = l + 1 + k by omega,Nat.pow_add]; exact h3)
 rw [this,h1]; omega

theorem tV {x n : Nat} (h : x < 2 ^ n) : jy x <= n:=by
 by_cases hx : x = 0
 ·subst hx; simp [jy]
 ·obtain ⟨l,h1,h2,_⟩:=xw hx
  have : 2 ^ l < 2 ^ n:=by omega
  have:=(Nat.pow_lt_pow_iff_right (a:=2) (by omega)).1 this
  omega

theorem Sj {T : List UInt8} {x : Nat} {n : Int} {k : UInt8 -> Prop} (hT : ((List.range 256).all fun i=>T[i]? == some (UInt8.ofNat (jy i))) = true) (hn : n = x) (hx : x < 256) (hk : k (UInt8.ofNat (jy x))) : bZ T n k:=by
 subst hn
 refine ⟨⟨_,⟨Int.natCast_nonneg _,?_⟩,hk⟩⟩
 have:=List.all_eq_true.1 hT x (by simpa using hx)
 simpa using this

theorem Dw {a n : Nat} (hn : n < 32) : uK .u32 (a : Int) (n : Int) = ((a / 2 ^ n : Nat) : Int):=by
 unfold uK
 have h1 : min (n : Int).toNat (IntKind.bits .u32) = n:=by show min n 32 = n; omega
 rw [h1]
 rw [Int.fdiv_eq_ediv_of_nonneg _ (by have:=Int.pow_pos (n:=(2 : Int)) (m:=n) (by decide); omega)]
 simp

theorem RY (x : Nat) (hx : x < 4294967296) : aA Tryz.prog 290 [.int .u32 x] [] (.int .i64 (jy x)) []:=by
 refine aA.intro lay mixed Tryz.func290 (by kernel_rfl) rfl (by kernel_rfl) rfl fun hok=>?_
 conv=>whnf
 refine And.intro (fun n1=>?_) (fun n1=>?_)
 ·have k1:=Gp (x:=x) (k:=16) (by omega)
  conv=>whnf
  refine ⟨by decide,?_⟩
  rw [show uK .u32 (x : Int) 16 = ((x / 2 ^ 16 : Nat) : Int) from Dw (n:=16) (by omega)]
  generalize hz : x / 2 ^ 16 = z at *
  have hz : z < 65536:=by omega
  conv=>whnf
  refine And.intro (fun n2=>?_) (fun n2=>?_)
  ·have k2:=Gp (x:=z) (k:=8) (by omega)
   conv=>whnf
   refine ⟨by decide,?_⟩
   rw [show uK .u32 (z : Int) 8 = ((z / 2 ^ 8 : Nat) : Int) from Dw (n:=8) (by omega)]
   generalize hy : z / 2 ^ 8 = y at *
   have hy : y < 256:=by omega
   conv=>whnf
   refine zA ?_;conv=>whnf
   conv=>whnf
   refine Sj (x:=y) (by decide +kernel) ?_ hy ?_
   ·simp [IntKind.wrap,IntKind.bits,IntKind.signed]; omega
   have hb8:=tV (x:=y) (n:=8) (by omega)
   rw [show ((UInt8.ofNat (jy y)).toNat : Int) = (jy y : Int) by rw [UInt8.toNat_ofNat']; omega]
   conv=>whnf
   rw [wrap64 (n:=(jy y : Int)) (by omega) (by omega)]
   refine zA ?_;conv=>whnf
   refine fM ?_;(conv=>whnf);refine ⟨?_,rfl⟩;conv=>whnf
   refine ⟨rfl,?_⟩
   omega
  ·conv=>whnf
   refine Sj (x:=z) (by decide +kernel) ?_ (by omega) ?_
   ·simp [IntKind.wrap,IntKind.bits,IntKind.signed]; omega
   have hb8:=tV (x:=z) (n:=8) (by omega)
   rw [show ((UInt8.ofNat (jy z)).toNat : Int) = (jy z : Int) by rw [UInt8.toNat_ofNat']; omega]
   conv=>whnf
   rw [wrap64 (n:=(jy z : Int)) (by omega) (by omega)]
   refine zA ?_;conv=>whnf
   refine fM ?_;(conv=>whnf);refine ⟨?_,rfl⟩;conv=>whnf
   refine ⟨rfl,?_⟩
   omega
 ·conv=>whnf
  refine And.intro (fun n2=>?_) (fun n2=>?_)
  ·have k2:=Gp (x:=x) (k:=8) (by omega)
   conv=>whnf
   refine ⟨by decide,?_⟩
   rw [show uK .u32 (x : Int) 8 = ((x / 2 ^ 8 : Nat) : Int) from Dw (n:=8) (by omega)]
   generalize hy : x / 2 ^ 8 = y at *
   have hy : y < 256:=by omega
   conv=>whnf
   refine zA ?_;conv=>whnf
   conv=>whnf
   refine Sj (x:=y) (by decide +kernel) ?_ hy ?_
   ·simp [IntKind.wrap,IntKind.bits,IntKind.signed]; omega
   have hb8:=tV (x:=y) (n:=8) (by omega)
   rw [show ((UInt8.ofNat (jy y)).toNat : Int) = (jy y : Int) by rw [UInt8.toNat_ofNat']; omega]
   conv=>whnf
   rw [wrap64 (n:=(jy y : Int)) (by omega) (by omega)]
   refine zA ?_;conv=>whnf
   refine fM ?_;(conv=>whnf);refine ⟨?_,rfl⟩;conv=>whnf
   refine ⟨rfl,?_⟩
   omega
  ·conv=>whnf
   refine Sj (x:=x) (by decide +kernel) ?_ (by omega) ?_
   ·simp [IntKind.wrap,IntKind.bits,IntKind.signed]; omega
   have hb8:=tV (x:=x) (n:=8) (by omega)
   rw [show ((UInt8.ofNat (jy x)).toNat : Int) = (jy x : Int) by rw [UInt8.toNat_ofNat']; omega]
   conv=>whnf
   rw [wrap64 (n:=(jy x : Int)) (by omega) (by omega)]
   refine zA ?_;conv=>whnf
   refine fM ?_;(conv=>whnf);refine ⟨?_,rfl⟩;conv=>whnf
   refine ⟨rfl,?_⟩
   omega

theorem c_lz32 (x : Nat) (hx : x < 4294967296) : aA Tryz.prog 278 [.int .u32 x] [] (.int .i64 ((32 - jy x : Nat) : Int)) []:=by
 have hb:=tV (x:=x) (n:=32) (by omega)
 refine aA.intro lay mixed Tryz.func278 (by kernel_rfl) rfl (by kernel_rfl) rfl fun hok=>?_
 conv=>whnf
 refine .pure _ _ ?_ ⟨rfl,rfl⟩ (RY x hx) fun _=>?_
 ·exact ak _
 conv=>whnf
 refine zA ?_;conv=>whnf
 refine fM ?_;(conv=>whnf);refine ⟨?_,rfl⟩;conv=>whnf
 refine ⟨rfl,?_⟩
 omega

theorem Z4 (a : List Int) (n : Nat) (hn : n < 32) (hsz : a.length <= 1000000) :
  aA Tryz.prog 279 [wL a,.int .i64 n] [] (wL (nH (a.length + 1) (val a * 2 ^ n))) []:=by
 have h:=(X4 a n hn hsz).cv (.freeze 0 0 0 (a.length + 1) (a.length + 1) (a.length + 1) 1 _ rfl rfl (by simp [dO]) (.refl _ _)) rfl
 refine (h.heap (G:=[]) (.mk trivial trivial) (Nat.zero_le _) rfl).weak ?_
 refine ⟨rfl,aY ?_⟩
 rw [List.drop_zero,List.take_of_length_le (by simp [dO])]

theorem XO (a : List Int) (n : Nat) (hn : n < 32) (hsz : a.length <= 1000000) :
  aA Tryz.prog 282 [wL a,.int .i64 n] [] (wL (nH a.length (val a / 2 ^ n))) []:=by
 have h:=(ZU a n hn hsz).cv (.freeze 0 0 0 a.length a.length a.length 1 _ rfl rfl (by simp [dO]) (.refl _ _)) rfl
 refine (h.heap (G:=[]) (.mk trivial trivial) (Nat.zero_le _) rfl).weak ?_
 refine ⟨rfl,aY ?_⟩
 rw [List.drop_zero,List.take_of_length_le (by simp [dO])]

theorem OV {y : Nat} (h : 4294967296 <= y) : 2 <= (wd y).length:=by
 rw [kM (by omega),kM (n:=y / 4294967296) (by omega)]
 simp

theorem LG : ∀ {k m x : Nat},k <= m -> (nH m x).take k = nH k x
 | 0,_,_,_=>by simp [nH]
 | k + 1,0,_,h=>by omega
 | k + 1,m + 1,x,h=>by simp only [nH,List.take_succ_cons,LG (k:=k) (m:=m) (by omega)]

theorem NI {B p s V r3 r2 w2 w1 w0 top next : Nat} (t3 : r3 < p) (t2 : r2 < p) (hw0 : w0 < B) (hnext : next < B) (e3 : s = r3 + p * (w0 + B * (w1 + B * w2))) (e2 : V = r2 + p * (next + B * top)) (hV1 : p * B <= V) (hs2 : s < B * V) :
  1 <= top /\ ((w2 * B + w1) * B + w0) * p <= s /\ s < ((w2 * B + w1) * B + w0 + 1) * p /\ (top * B + next) * p <= V /\ V < (top * B + next + 1) * p /\ w2 * B + w1 < (top + 1) * B /\ s / V <= (w2 * B + w1) / top:=by
 have f1 : w0 + B * (w1 + B * w2) = (w2 * B + w1) * B + w0:=by rw [Nat.mul_comm B (w1 + B * w2),Nat.mul_comm B w2,Nat.add_comm w1,Nat.add_comm]
 have f2 : next + B * top = top * B + next:=by rw [Nat.mul_comm,Nat.add_comm]
 rw [f1] at e3
 rw [f2] at e2
 generalize hh : w2 * B + w1 = head at *
 have b3:=between (r:=r3) (p:=p) (x:=head * B + w0) t3
 have b2:=between (r:=r2) (p:=p) (x:=top * B + next) t2
 rw [<- e3] at b3
 rw [<- e2] at b2
 have CB : 1 <= top:=by
  apply Classical.byContradiction
  intro h0
  have h0 : top = 0:=by omega
  subst h0
  have h1 : (0 * B + next + 1) * p <= B * p:=Nat.mul_le_mul_right _ (by omega)
  rw [Nat.mul_comm p] at hV1
  omega
 have k0 : (top * B + next + 1) * p <= (top + 1) * B * p:=Nat.mul_le_mul_right _ (by rw [Nat.add_mul]; omega)
 have hhead : head < (top + 1) * B:=by
  have k1 : head * B * p <= (head * B + w0) * p:=Nat.mul_le_mul_right _ (by omega)
  have k2 : B * V <= B * ((top + 1) * B * p):=Nat.mul_le_mul_left _ (by omega)
  have h1 : head * B * p < B * ((top + 1) * B * p):=by omega
  have h2 : B * ((top + 1) * B * p) = (top + 1) * B * B * p:=by rw [Nat.mul_comm B,Nat.mul_assoc _ p B,Nat.mul_comm p B,<- Nat.mul_assoc]
  rw [h2] at h1
  exact Nat.lt_of_mul_lt_mul_right (Nat.lt_of_mul_lt_mul_right h1)
 refine ⟨CB,b3.1,b3.2,b2.1,b2.2,hhead,?_⟩
 refine Nk (p:=B * p) CB ?_ ?_
 ·have : top * (B * p) <= (top * B + next) * p:=by rw [<- Nat.mul_assoc]; exact Nat.mul_le_mul_right _ (by omega)
  omega
 ·have : (head * B + w0 + 1) * p <= (head + 1) * (B * p):=by rw [<- Nat.mul_assoc]; exact Nat.mul_le_mul_right _ (by rw [Nat.add_mul]; omega)
  omega

theorem NH {U V n L k w2 w1 w0 top next : Nat} {M Q v : List Int} (hI : nN U V n L (k + 1) M Q) (hn2 : 2 <= n) (hnL : n + 1 <= L) (hk : k + 1 <= L - n) (hvl : v.length = n) (hvw : Ws v) (hvv : val v = V) (hV1 : 4294967296 ^ (n - 1) <= V)
  (ew2 : M.getD (k + n) 0 = (w2 : Int)) (ew1 : M.getD (k + n - 1) 0 = (w1 : Int)) (ew0 : M.getD (k + n - 2) 0 = (w0 : Int)) (htp : v.getD (n - 1) 0 = (top : Int)) (hnx : v.getD (n - 2) 0 = (next : Int)) :
  ∃ p,0 < p /\ 1 <= top /\ ((w2 * 4294967296 + w1) * 4294967296 + w0) * p <= val (M.drop k) /\ val (M.drop k) < ((w2 * 4294967296 + w1) * 4294967296 + w0 + 1) * p /\
    (top * 4294967296 + next) * p <= V /\ V < (top * 4294967296 + next + 1) * p /\ w2 * 4294967296 + w1 < (top + 1) * 4294967296 /\ val (M.drop k) / V <= (w2 * 4294967296 + w1) / top:=by
 have hV2 : V < 4294967296 ^ n:=by rw [<- hvv,<- hvl]; exact fF hvw
 have hseg:=hI.seg (by omega) hV2
 have Vj:=hI.lm
 have Rx:=hI.wm
 have htop:=hvw.getD (i:=n - 1)
 have hnext:=hvw.getD (i:=n - 2)
 have hw2:=Rx.getD (i:=k + n)
 have hw1:=Rx.getD (i:=k + n - 1)
 have hw0:=Rx.getD (i:=k + n - 2)
 rw [htp] at htop
 rw [hnx] at hnext
 rw [ew2] at hw2
 rw [ew1] at hw1
 rw [ew0] at hw0
 have e3:=Ti (l:=(M.drop k).take (n + 1)) (n:=n - 2) (by rw [List.length_take,List.length_drop,Vj]; omega)
 have e2:=val_two (l:=v) (n:=n - 2) (by omega)
 have gt : ∀ i,i < n + 1 -> ((M.drop k).take (n + 1)).getD i 0 = M.getD (k + i) 0:=by
  intro i hi
  rw [List.getD_eq_getElem?_getD,List.getElem?_take,if_pos hi,List.getElem?_drop,<- List.getD_eq_getElem?_getD]
 rw [gt _ (by omega),gt _ (by omega),gt _ (by omega),show k + (n - 2) = k + n - 2 by omega,show k + (n - 2 + 1) = k + n - 1 by omega,show k + (n - 2 + 2) = k + n by omega,ew2,ew1,ew0,hseg.1] at e3
 rw [show n - 2 + 1 = n - 1 by omega,hnx,htp,hvv] at e2
 simp only [Int.toNat_natCast] at e3 e2
 have t3:=sH (l:=(M.drop k).take (n + 1)) ((Rx.drop _).take _) (n - 2)
 have t2:=sH hvw (n - 2)
 have hpp : 0 < 4294967296 ^ (n - 2):=Nat.pow_pos (by omega)
 have ep : 4294967296 ^ (n - 1) = 4294967296 ^ (n - 2) * 4294967296:=by rw [<- Nat.pow_succ,show (n - 2).succ = n - 1 by omega]
 have hs2:=hseg.2.1
 rw [ep] at hV1
 generalize val (M.drop k) = s at *
 generalize val (((M.drop k).take (n + 1)).take (n - 2)) = r3 at *
 generalize val (v.take (n - 2)) = r2 at *
 generalize 4294967296 ^ (n - 2) = p at *
 exact ⟨p,hpp,NI (B:=4294967296) t3 t2 (by omega) (by omega) e3 e2 hV1 hs2⟩

theorem Zg {us s t : List Int} {off : Nat} (h : off + s.length <= us.length) (hl : s.length = t.length) : mid (mid us off s) off t = mid us off t:=by
 have h1 : (mid us off s).take off = us.take off:=by
  simp only [mid]
  rw [List.take_append_of_le_length (by simp; omega),List.take_take,Nat.min_self]
 have h2 : (mid us off s).drop (off + t.length) = us.drop (off + t.length):=by
  rw [<- List.drop_drop,EN h,<- hl,List.drop_left]
 have h3 : mid (mid us off s) off t = (mid us off s).take off ++ (t ++ (mid us off s).drop (off + t.length)):=rfl
 rw [h3,h1,h2]; rfl

theorem WB {us s : List Int} {off : Nat} (h : off + s.length <= us.length) : ((mid us off s).drop off).take s.length = s:=by
 rw [EN h,List.take_left]

set_option maxHeartbeats 2000000 in
theorem Um (x y : Nat) (hx : (wd x).length <= 999999) (hyl : (wd y).length <= 1000000) (hy : 4294967296 <= y) : OI x y:=by
 unfold OI
 have hyx : y <= x -> (wd y).length <= (wd x).length:=dX
 have hn2:=OV hy
 have c1:=kU (wd x) (by omega)
 rw [bD] at c1
 have c2:=kU (wd y) hyl
 rw [bD] at c2
 have c3:=Jp (wd x) (wd y) (by omega) hyl
 rw [bD,bD] at c3
 have hwx:=mJ x
 have hwy:=mJ y
 have hvx:=bD x
 have hvy:=bD y
 have hpy:=LD y
 generalize ha : wd x = a at *
 generalize hb : wd y = b at *
 refine aA.intro lay mixed Tryz.func248 (by kernel_rfl) rfl (by kernel_rfl) rfl fun hok=>?_
 conv=>whnf
 refine .pure _ _ ?_ ⟨rfl,rfl⟩ c1 fun _=>?_
 ·exact ak _
 conv=>whnf
 refine .pure _ _ ?_ ⟨rfl,rfl⟩ c2 fun _=>?_
 ·exact ak _
 conv=>whnf
 refine And.intro (fun h=>?_) (fun _=>?_)
 ·exfalso
  simp only [List.length_map] at h; omega
 conv=>whnf
 refine .pure _ _ ?_ ⟨rfl,rfl⟩ c3 fun _=>?_
 ·exact ak _
 conv=>whnf
 refine And.intro (fun h=>?_) (fun h=>?_)
 ·have hlt : x < y:=by
   unfold oh at h
   split at h
   ·assumption
   ·split at h <;> omega
  conv=>whnf
  refine fM ?_;(conv=>whnf);refine ⟨?_,rfl⟩;conv=>whnf
  refine ⟨?_,?_,rfl,trivial⟩
  ·rw [Nat.div_eq_of_lt hlt,iC]; rfl
  ·rw [Nat.mod_eq_of_lt hlt,ha]; exact fG _
 have hxy : ¬ x < y:=by
  intro hlt
  unfold oh at h
  rw [if_pos hlt] at h
  omega
 have hle : y <= x:=by omega
 have hyx:=hyx hle
 conv=>whnf
 refine And.intro (fun h=>?_) (fun _=>?_)
 ·exfalso
  simp only [List.length_map] at h; omega
 conv=>whnf
 refine ⟨bC (by simp; omega) (by simp; omega),?_⟩
 conv=>whnf
 refine fC 0 (i:=b.length - 1) (by simp; omega) (by omega) ?_
 have htb:=hwy.getD (i:=b.length - 1)
 have htn : b.getD (b.length - 1) 0 ≠ 0:=by
  rcases hpy with h | h
  ·rw [h] at hn2; simp at hn2
  ·rw [List.getLastD_eq_getLast?,List.getLast?_eq_getElem?] at h
   rw [List.getD_eq_getElem?_getD]; exact h
 generalize htt : b.getD (b.length - 1) 0 = tb0 at *
 obtain ⟨tb,rfl⟩ : ∃ tb : Nat,tb0 = tb:=⟨tb0.toNat,by omega⟩
 conv=>whnf
 refine .pure _ _ ?_ ⟨rfl,rfl⟩ (c_lz32 tb (by omega)) fun _=>?_
 ·exact ak _
 obtain ⟨l,hl1,hl2,hl3⟩:=xw (x:=tb) (by omega)
 have hl4:=tV (x:=tb) (n:=32) (by omega)
 obtain ⟨sh,hsh⟩ : ∃ sh,32 - jy tb = sh:=⟨_,rfl⟩
 rw [hsh]
 conv=>whnf
 refine .pure _ _ ?_ ⟨rfl,rfl⟩ (Z4 b sh (by omega) (by omega)) fun _=>?_
 ·exact ak _
 rw [hvy]
 conv=>whnf
 refine ⟨⟨by omega,by simp,by simp [dO]; omega⟩,?_⟩
 -- the divisor,shifted
 have hV1 : 4294967296 ^ (b.length - 1) * 2 ^ sh <= y * 2 ^ sh:=Nat.mul_le_mul_right _ (by rw [<- hvy]; exact oN hpy (by intro e; rw [e] at hn2; simp at hn2) hwy)
 have hp2:=Nat.two_pow_pos sh
 have hV2 : y * 2 ^ sh < 4294967296 ^ b.length:=by
  have e1:=dh (l:=b) (b.length - 1) (by omega)
  rw [kN b (b.length - 1),List.drop_eq_nil_of_le (by omega : b.length <= b.length - 1 + 1),htt,hvy] at e1
  have e2:=sH hwy (b.length - 1)
  have e3 : y < 4294967296 ^ (b.length - 1) * (tb + 1):=by
   rw [Nat.mul_add]
   simp only [Int.toNat_natCast,val,Nat.mul_zero,Nat.add_zero] at e1
   omega
  have e4 : (tb + 1) * 2 ^ sh <= 4294967296:=by
   have : (tb + 1) * 2 ^ sh <= 2 ^ (l + 1) * 2 ^ sh:=Nat.mul_le_mul_right _ (by omega)
   rw [<- Nat.pow_add,show l + 1 + sh = 32 by omega] at this
   exact this
  have e5 : y * 2 ^ sh < 4294967296 ^ (b.length - 1) * (tb + 1) * 2 ^ sh:=Nat.mul_lt_mul_of_pos_right e3 hp2
  have e6 : 4294967296 ^ (b.length - 1) * ((tb + 1) * 2 ^ sh) <= 4294967296 ^ (b.length - 1) * 4294967296:=Nat.mul_le_mul_left _ e4
  rw [<- Nat.pow_succ,show (b.length - 1).succ = b.length by omega,<- Nat.mul_assoc] at e6
  omega
 have hcut : ((List.map (AV.int .u32) (nH (b.length + 1) (y * 2 ^ sh))).drop (0 : Int).toNat).take ((((b.map (AV.int .u32)).length : Nat) : Int).toNat - (0 : Int).toNat) = (nH b.length (y * 2 ^ sh)).map (AV.int .u32):=by
  simp only [List.length_map,Int.toNat_natCast,Int.toNat_zero,List.drop_zero,Nat.sub_zero,<- List.map_take]
  rw [LG (by omega)]
 rw [hcut]
 have hvw:=qK b.length (y * 2 ^ sh)
 have hvl:=dO b.length (y * 2 ^ sh)
 have hvv:=mD hV2
 generalize nH b.length (y * 2 ^ sh) = v at *
 have hxl:=fF hwx
 rw [hvx] at hxl
 have hinit:=nN.init (x:=x * 2 ^ sh) (V:=y * 2 ^ sh) (n:=b.length) (L:=a.length + 1) (k:=sh) (Nat.mul_lt_mul_of_pos_right hxl hp2) (by omega) (by omega) (by omega) hV1
 have hVpos : 4294967296 ^ (b.length - 1) <= y * 2 ^ sh:=Nat.le_trans (Nat.le_mul_of_pos_right _ hp2) hV1
 have hres : x * 2 ^ sh / (y * 2 ^ sh) = x / y /\ x * 2 ^ sh % (y * 2 ^ sh) / 2 ^ sh = x % y:=by
  refine ⟨Nat.mul_div_mul_right _ _ hp2,?_⟩
  rw [Nat.mul_mod_mul_right,Nat.mul_div_cancel _ hp2]
 conv=>whnf
 refine .gen _ _ (X4 a sh (by omega) (by omega)) fun _=>?_
 rw [hvx]
 generalize hU : x * 2 ^ sh = U at *
 generalize hV : y * 2 ^ sh = V at *
 conv=>whnf
 refine aS.auto (by kernel_rfl) ?_;conv=>whnf
 refine ⟨bC (by simp; omega) (by simp; omega),?_⟩
 conv=>whnf
 refine fC 0 (i:=b.length - 1) (by simp; omega) (by omega) ?_
 conv=>whnf
 refine ⟨bC (by simp; omega) (by simp; omega),?_⟩
 conv=>whnf
 refine fC 0 (i:=b.length - 2) (by simp; omega) (by omega) ?_
 have htop:=hvw.getD (i:=b.length - 1)
 have hnext:=hvw.getD (i:=b.length - 2)
 generalize htp : v.getD (b.length - 1) 0 = top0 at *
 generalize hnx : v.getD (b.length - 2) 0 = next0 at *
 obtain ⟨top,rfl⟩ : ∃ top : Nat,top0 = top:=⟨top0.toNat,by omega⟩
 obtain ⟨next,rfl⟩ : ∃ next : Nat,next0 = next:=⟨next0.toNat,by omega⟩
 conv=>whnf
 rw [wrap_u64 (n:=(top : Int)) (by omega) (by omega),wrap_u64 (n:=(next : Int)) (by omega) (by omega)]
 refine ⟨bC (by simp; omega) (by simp; omega),?_⟩
 obtain ⟨m,hm⟩ : ∃ m,a.length + 1 - b.length = m:=⟨_,rfl⟩
 rw [show (((a.length + 1 : Nat) : Int) - (((v.map (AV.int .u32)).length : Nat) : Int)) = (m : Int) by simp; omega]
 conv=>whnf
 refine ⟨⟨by omega,by omega,by simp; omega,by omega⟩,.wr ?_⟩
 conv=>whnf
 refine ⟨bC (by simp; omega) (by simp; omega),?_⟩
 rw [hm] at hinit
 conv=>whnf
 refine aK.of <| aC.inv (.refl _ _) (fun x : Nat × List Int × List Int=>nN U V b.length (a.length + 1) x.1 x.2.1 x.2.2)
  (fun | (j,_)=>[(14,.int .i64 ((j : Int) - 1))]) (fun | (_,M,Q)=>[(1,.arr 1 m (Q.map (.int .u32))),(0,.arr 1 (a.length + 1) (M.map (.int .u32)))])
  (fun x=>x.1) (m,nH (a.length + 1) U,List.replicate m 0) hinit (fun _=>rfl) ?_ ?_
 ·refine ⟨?_,.mk ?_ ⟨by simp,by simp,trivial⟩⟩
  ·all_goals exact wk
  ·repeat' first|exact rfl|exact trivial|exact wR|exact lR _|apply aI
   all_goals first | (simp; done) | exact aY (by simp)
 rintro ⟨j,M,Q⟩ hI _
 simp only at hI
 have hjl:=hI.jle
 conv=>whnf
 refine And.intro (fun h=>?_) (fun h=>?_)
 ·obtain ⟨k,rfl⟩ : ∃ k,j = k + 1:=⟨j - 1,by omega⟩
  have hseg:=hI.seg (by omega) hV2
  have Vj:=hI.lm
  have YL:=hI.lq
  have Rx:=hI.wm
  have e14 : (((k + 1 : Nat) : Int) - 1) = (k : Int):=by omega
  have elv : (((v.map (AV.int .u32)).length : Nat) : Int) = (b.length : Int):=by simp; omega
  rw [e14,elv]
  have hw2:=Rx.getD (i:=k + b.length)
  have hw1:=Rx.getD (i:=k + b.length - 1)
  have hw0:=Rx.getD (i:=k + b.length - 2)
  obtain ⟨w2,ew2⟩ : ∃ w : Nat,M.getD (k + b.length) 0 = w:=⟨(M.getD (k + b.length) 0).toNat,by omega⟩
  obtain ⟨w1,ew1⟩ : ∃ w : Nat,M.getD (k + b.length - 1) 0 = w:=⟨(M.getD (k + b.length - 1) 0).toNat,by omega⟩
  obtain ⟨w0,ew0⟩ : ∃ w : Nat,M.getD (k + b.length - 2) 0 = w:=⟨(M.getD (k + b.length - 2) 0).toNat,by omega⟩
  rw [ew2] at hw2
  rw [ew1] at hw1
  rw [ew0] at hw0
  obtain ⟨p,hp0,CB,b3,b3',b2,b2',hhead,hge⟩:=NH hI hn2 (by omega) (by omega) (by omega) hvw hvv hVpos ew2 ew1 ew0 htp hnx
  have hdst:=hI.step (by omega) (by omega) hV2
  obtain ⟨s,hs⟩ : ∃ s,val (M.drop k) = s:=⟨_,rfl⟩
  rw [hs] at b3 b3' hge hdst hseg
  have Vh : 0 < V:=by have:=Nat.pow_pos (n:=b.length - 1) (show 0 < 4294967296 by omega); omega
  have hqB : s / V < 4294967296:=by rw [Nat.div_lt_iff_lt_mul Vh]; exact hseg.2.1
  obtain ⟨q,hq⟩ : ∃ q,s / V = q:=⟨_,rfl⟩
  rw [hq] at hge hqB hdst
  have hrest : takeN s (q * V) (b.length + 1) = s % V:=Tt hq.symm
  have hVB : V < 4294967296 ^ (b.length + 1):=by
   rw [Nat.pow_succ]
   have : 4294967296 ^ b.length * 1 <= 4294967296 ^ b.length * 4294967296:=Nat.mul_le_mul_left _ (by omega)
   omega
  have hsB : s < 4294967296 ^ (b.length + 1):=by
   rw [Nat.pow_succ,Nat.mul_comm]
   have : 4294967296 * V <= 4294967296 * 4294967296 ^ b.length:=Nat.mul_le_mul_left _ (by omega)
   omega
  have zH : ∀ z,(mid M k (nH (b.length + 1) z)).length = a.length + 1:=fun z=>by rw [Dz (by rw [dO,Vj]; omega),Vj]
  have htl : takeN s ((q + 1) * V) (b.length + 1) < 4294967296 ^ (b.length + 1):=by
   have h1:=Nat.lt_div_mul_add (a:=s) Vh
   rw [hq] at h1
   unfold takeN
   rw [Nat.add_mul,Nat.one_mul,if_pos h1]
   have h2:=Nat.div_mul_le_self s V
   rw [hq] at h2
   omega
  have W9 : mid (mid M k (nH (b.length + 1) (takeN s ((q + 1) * V) (b.length + 1)))) k (nH (b.length + 1) ((val (((mid M k (nH (b.length + 1) (takeN s ((q + 1) * V) (b.length + 1)))).drop k).take (b.length + 1)) + V) % 4294967296 ^ (b.length + 1))) = mid M k (nH (b.length + 1) (s % V)):=by
   have e1:=WB (us:=M) (s:=nH (b.length + 1) (takeN s ((q + 1) * V) (b.length + 1))) (off:=k) (by rw [dO,Vj]; omega)
   rw [dO] at e1
   rw [e1,mD htl,Ub Vh hq.symm hVB,Zg (by rw [dO,Vj]; omega) (by rw [dO,dO])]
  conv=>whnf
  refine aS.auto (by kernel_rfl) ?_;conv=>whnf
  refine zA ?_;conv=>whnf
  refine ⟨⟨by omega,by simp; omega⟩,?_⟩
  conv=>whnf
  refine fC 0 (i:=k + b.length) (by simp; omega) (by omega) ?_
  refine ⟨by simp,?_⟩
  rw [ew2]
  conv=>whnf
  refine ⟨by decide,?_⟩
  rw [wrap_u64 (n:=(w2 : Int)) (by omega) (by omega),qU (by omega)]
  refine zA ?_;conv=>whnf
  refine zA ?_;conv=>whnf
  refine ⟨⟨by omega,by simp; omega⟩,?_⟩
  conv=>whnf
  refine fC 0 (i:=k + b.length - 1) (by simp; omega) (by omega) ?_
  refine ⟨by simp,?_⟩
  rw [ew1]
  conv=>whnf
  rw [wrap_u64 (n:=(w1 : Int)) (by omega) (by omega),zo (by omega) (by omega)]
  obtain ⟨head,hhd⟩ : ∃ head,w2 * 4294967296 + w1 = head:=⟨_,rfl⟩
  rw [hhd]
  rw [hhd] at b3 b3' hhead hge
  have hhl : head < 18446744073709551616:=by omega
  clear hcut
  refine aS.auto (by kernel_rfl) ?_;conv=>whnf
  refine ⟨by omega,?_⟩
  rw [Ei]
  have hg0 : head / top * top + head % top = head:=by rw [Nat.mul_comm]; exact Nat.div_add_mod _ _
  have hr0 : head % top < top:=Nat.mod_lt _ (by omega)
  have hg1 : head / top <= head:=Nat.div_le_self _ _
  have hg2 : head / top * top <= head:=by omega
  generalize head / top = g0 at *
  conv=>whnf
  refine ⟨by omega,?_⟩
  rw [uQ]
  generalize head % top = r0 at *
  rw [wrap_u64 (n:=(g0 : Int)) (by omega) (by omega)]
  conv=>whnf
  refine aK.of <| aC.inv (.refl _ _) (fun (x : Nat × Nat)=>x.1 * top + x.2 = head /\ q <= x.1 /\ x.2 < 4294967296 /\ x.1 <= g0) (fun (x : Nat × Nat)=>[(16,.int .u64 (x.1 : Nat)),(17,.int .u64 (x.2 : Nat))]) (fun _=>_) (fun (x : Nat × Nat)=>x.1) (g0,r0) ?_ (fun _=>rfl) ?_ ?_
  ·exact ⟨hg0,hge,(by omega : r0 < 4294967296),Nat.le_refl _⟩
  ·refine ⟨?_,.refl rfl⟩
   all_goals exact wk
  rintro ⟨g,r⟩ ⟨hgr,hgq,hr,hgg⟩ _
  simp only at hgr hgq hr hgg
  dsimp only [aj]
  conv=>whnf
  refine And.intro (fun hc1=>?_) (fun hc1=>?_)
  ·have hgt : q < g:=by omega
   conv=>whnf
   conv=>whnf
   rw [show ((g : Int) - 1) = ((g - 1 : Nat) : Int) by omega,wrap_u64 (n:=((g - 1 : Nat) : Int)) (by omega) (by omega)]
   conv=>whnf
   rw [show ((r : Int) + (top : Int)) = ((r + top : Nat) : Int) from (Int.natCast_add r top).symm,wrap_u64 (n:=((r + top : Nat) : Int)) (by omega) (by omega)]
   have PN : (g - 1) * top + (r + top) = head:=by
    have h1 : (g - 1 + 1) * top = g * top:=by rw [show g - 1 + 1 = g by omega]
    rw [Nat.add_mul,Nat.one_mul] at h1
    omega
   conv=>whnf
   refine And.intro (fun hc3=>?_) (fun hc3=>?_)
   ·have hgB' : g - 1 < 4294967296:=CG PN hhead (by omega)
    have hG : g - 1 <= q + 1:=by
     rw [<- hq]
     refine Fq (B:=4294967296) (p:=p) (by omega) hp0 CB b2 b2' b3 PN ?_ hgB'
     have h1 : (g - 1) * next <= 4294967295 * 4294967295:=Nat.mul_le_mul (by omega) (by omega)
     have h2 : 4294967296 * 4294967296 <= (r + top) * 4294967296:=Nat.mul_le_mul_right _ (by omega)
     omega
    conv=>whnf
    rw [elv]
    refine zA ?_;conv=>whnf
    refine zA ?_;conv=>whnf
    refine ⟨⟨by omega,by omega,by omega⟩,by omega,?_⟩
    have ct:=Qb M v k (a.length + 1 - k) (g - 1) Rx (by omega) (by omega) (by omega) (by
     rw [hvv,hvl,Nat.pow_succ,Nat.mul_comm (4294967296 ^ b.length)]
     exact Nat.mul_lt_mul_of_le_of_lt (by omega) hV2 (by omega))
    rw [Vj,hvv,hvl,hseg.1,Em Vh hq.symm (by omega) hG] at ct
    conv=>whnf
    refine .gen _ _ (aA.frame [0] ct ⟨rfl,rfl,rfl,rfl⟩ ?_ ?_) fun _=>?_
    ·all_goals exact wk
    ·repeat' first|exact rfl|exact trivial|exact wR|exact lR _|apply aI
     all_goals (show AV.ms 0 _ _ _ 1 = AV.ms 0 _ _ _ 1; congr 1 <;> omega)
    conv=>whnf
    refine And.intro (fun Xd=>?_) (fun Xd=>?_)
    ·conv=>whnf
     rw [show (((g - 1 : Nat) : Int) - 1) = (q : Int) by omega,wrap_u64 (n:=(q : Int)) (by omega) (by omega)]
     conv=>whnf
     rw [elv]
     refine zA ?_;conv=>whnf
     refine zA ?_;conv=>whnf
     refine ⟨⟨by omega,by omega,by omega⟩,by omega,?_⟩
     have cg:=Qj (mid M k (nH (b.length + 1) (takeN s ((g - 1) * V) (b.length + 1)))) v k (a.length + 1 - k) (JZ Rx (qK _ _)) (by rw [zH]; omega) (by rw [zH]; omega)
     rw [zH,hvv,hvl,Xd,W9] at cg
     rw [Xd]
     conv=>whnf
     refine .gen _ _ (aA.frame [0] cg ⟨rfl,rfl,rfl,rfl⟩ ?_ ?_) fun _=>?_
     ·all_goals exact wk
     ·repeat' first|exact rfl|exact trivial|exact wR|exact lR _|apply aI
      all_goals (show AV.ms 0 _ _ _ 1 = AV.ms 0 _ _ _ 1; congr 1 <;> omega)
     conv=>whnf
     rw [wrap_u32 (n:=(q : Int)) (by omega) (by omega)]
     refine ⟨⟨by omega,by omega⟩,?_⟩
     dsimp only [kQ]
     rw [tX]
     dsimp only [jo]
     dsimp only [yJ,fZ]
     conv=>whnf
     refine ⟨by rw [List.length_map,YL]; omega,rfl,?_⟩
     conv=>whnf
     refine zA ?_;conv=>whnf
     refine ⟨(k,mid M k (nH (b.length + 1) (s % V)),Q.set k (q : Int)),?_,?_,?_⟩
     ·exact hdst
     ·refine ⟨?_,.mk ?_ ⟨by simp,by simp,trivial⟩⟩
      ·all_goals exact wk
      ·repeat' first|exact rfl|exact trivial|exact wR|exact lR _|apply aI
       all_goals first | exact aB _ | (refine aY ?_; rw [List.map_set]; simp [strip])
     ·show k < k + 1
      omega
    ·have Xc : g - 1 = q:=by omega
     rw [Xc,hrest]
     conv=>whnf
     rw [wrap_u32 (n:=(q : Int)) (by omega) (by omega)]
     refine ⟨⟨by omega,by omega⟩,?_⟩
     dsimp only [kQ]
     rw [tX]
     dsimp only [jo]
     dsimp only [yJ,fZ]
     conv=>whnf
     refine ⟨by rw [List.length_map,YL]; omega,rfl,?_⟩
     conv=>whnf
     refine zA ?_;conv=>whnf
     refine ⟨(k,mid M k (nH (b.length + 1) (s % V)),Q.set k (q : Int)),?_,?_,?_⟩
     ·exact hdst
     ·refine ⟨?_,.mk ?_ ⟨by simp,by simp,trivial⟩⟩
      ·all_goals exact wk
      ·repeat' first|exact rfl|exact trivial|exact wR|exact lR _|apply aI
       all_goals first | exact aB _ | (refine aY ?_; rw [List.map_set]; simp [strip])
     ·show k < k + 1
      omega
   ·conv=>whnf
    refine ⟨(g - 1,r + top),?_,?_,?_⟩
    ·exact ⟨PN,(by omega : q <= g - 1),(by omega : r + top < 4294967296),(by omega : g - 1 <= g0)⟩
    ·refine ⟨?_,.refl rfl⟩
     all_goals exact wk
    ·show g - 1 < g
     omega
  ·have hgB : g < 4294967296:=by omega
   have hgn : g * next <= 4294967295 * 4294967295:=Nat.mul_le_mul (by omega) (by omega)
   conv=>whnf
   rw [show ((g : Int) * (next : Int)) = ((g * next : Nat) : Int) from (Int.natCast_mul g next).symm,wrap_u64 (n:=((g * next : Nat) : Int)) (by omega) (by omega)]
   refine ⟨by decide,?_⟩
   rw [qU (by omega)]
   conv=>whnf
   rw [elv]
   refine zA ?_;conv=>whnf
   refine zA ?_;conv=>whnf
   refine ⟨⟨by omega,by simp; omega⟩,?_⟩
   conv=>whnf
   refine fC 0 (i:=k + b.length - 2) (by simp; omega) (by omega) ?_
   refine ⟨by simp,?_⟩
   rw [ew0]
   conv=>whnf
   rw [wrap_u64 (n:=(w0 : Int)) (by omega) (by omega),zo (by omega) (by omega)]
   conv=>whnf
   refine And.intro (fun hc2=>?_) (fun hc2=>?_)
   ·have hgt : q < g:=hq ▸ Xe b2 b3' hgr (by omega)
    conv=>whnf
    rw [show ((g : Int) - 1) = ((g - 1 : Nat) : Int) by omega,wrap_u64 (n:=((g - 1 : Nat) : Int)) (by omega) (by omega)]
    conv=>whnf
    rw [show ((r : Int) + (top : Int)) = ((r + top : Nat) : Int) from (Int.natCast_add r top).symm,wrap_u64 (n:=((r + top : Nat) : Int)) (by omega) (by omega)]
    have PN : (g - 1) * top + (r + top) = head:=by
     have h1 : (g - 1 + 1) * top = g * top:=by rw [show g - 1 + 1 = g by omega]
     rw [Nat.add_mul,Nat.one_mul] at h1
     omega
    conv=>whnf
    refine And.intro (fun hc3=>?_) (fun hc3=>?_)
    ·have hgB' : g - 1 < 4294967296:=CG PN hhead (by omega)
     have hG : g - 1 <= q + 1:=by
      rw [<- hq]
      refine Fq (B:=4294967296) (p:=p) (by omega) hp0 CB b2 b2' b3 PN ?_ hgB'
      have h1 : (g - 1) * next <= 4294967295 * 4294967295:=Nat.mul_le_mul (by omega) (by omega)
      have h2 : 4294967296 * 4294967296 <= (r + top) * 4294967296:=Nat.mul_le_mul_right _ (by omega)
      omega
     conv=>whnf
     rw [elv]
     refine zA ?_;conv=>whnf
     refine zA ?_;conv=>whnf
     refine ⟨⟨by omega,by omega,by omega⟩,by omega,?_⟩
     have ct:=Qb M v k (a.length + 1 - k) (g - 1) Rx (by omega) (by omega) (by omega) (by
      rw [hvv,hvl,Nat.pow_succ,Nat.mul_comm (4294967296 ^ b.length)]
      exact Nat.mul_lt_mul_of_le_of_lt (by omega) hV2 (by omega))
     rw [Vj,hvv,hvl,hseg.1,Em Vh hq.symm (by omega) hG] at ct
     conv=>whnf
     refine .gen _ _ (aA.frame [0] ct ⟨rfl,rfl,rfl,rfl⟩ ?_ ?_) fun _=>?_
     ·all_goals exact wk
     ·repeat' first|exact rfl|exact trivial|exact wR|exact lR _|apply aI
      all_goals (show AV.ms 0 _ _ _ 1 = AV.ms 0 _ _ _ 1; congr 1 <;> omega)
     conv=>whnf
     refine And.intro (fun Xd=>?_) (fun Xd=>?_)
     ·conv=>whnf
      rw [show (((g - 1 : Nat) : Int) - 1) = (q : Int) by omega,wrap_u64 (n:=(q : Int)) (by omega) (by omega)]
      conv=>whnf
      rw [elv]
      refine zA ?_;conv=>whnf
      refine zA ?_;conv=>whnf
      refine ⟨⟨by omega,by omega,by omega⟩,by omega,?_⟩
      have cg:=Qj (mid M k (nH (b.length + 1) (takeN s ((g - 1) * V) (b.length + 1)))) v k (a.length + 1 - k) (JZ Rx (qK _ _)) (by rw [zH]; omega) (by rw [zH]; omega)
      rw [zH,hvv,hvl,Xd,W9] at cg
      rw [Xd]
      conv=>whnf
      refine .gen _ _ (aA.frame [0] cg ⟨rfl,rfl,rfl,rfl⟩ ?_ ?_) fun _=>?_
      ·all_goals exact wk
      ·repeat' first|exact rfl|exact trivial|exact wR|exact lR _|apply aI
       all_goals (show AV.ms 0 _ _ _ 1 = AV.ms 0 _ _ _ 1; congr 1 <;> omega)
      conv=>whnf
      rw [wrap_u32 (n:=(q : Int)) (by omega) (by omega)]
      refine ⟨⟨by omega,by omega⟩,?_⟩
      dsimp only [kQ]
      rw [tX]
      dsimp only [jo]
      dsimp only [yJ,fZ]
      conv=>whnf
      refine ⟨by rw [List.length_map,YL]; omega,rfl,?_⟩
      conv=>whnf
      refine zA ?_;conv=>whnf
      refine ⟨(k,mid M k (nH (b.length + 1) (s % V)),Q.set k (q : Int)),?_,?_,?_⟩
      ·exact hdst
      ·refine ⟨?_,.mk ?_ ⟨by simp,by simp,trivial⟩⟩
       ·all_goals exact wk
       ·repeat' first|exact rfl|exact trivial|exact wR|exact lR _|apply aI
        all_goals first | exact aB _ | (refine aY ?_; rw [List.map_set]; simp [strip])
      ·show k < k + 1
       omega
     ·have Xc : g - 1 = q:=by omega
      rw [Xc,hrest]
      conv=>whnf
      rw [wrap_u32 (n:=(q : Int)) (by omega) (by omega)]
      refine ⟨⟨by omega,by omega⟩,?_⟩
      dsimp only [kQ]
      rw [tX]
      dsimp only [jo]
      dsimp only [yJ,fZ]
      conv=>whnf
      refine ⟨by rw [List.length_map,YL]; omega,rfl,?_⟩
      conv=>whnf
      refine zA ?_;conv=>whnf
      refine ⟨(k,mid M k (nH (b.length + 1) (s % V)),Q.set k (q : Int)),?_,?_,?_⟩
      ·exact hdst
      ·refine ⟨?_,.mk ?_ ⟨by simp,by simp,trivial⟩⟩
       ·all_goals exact wk
       ·repeat' first|exact rfl|exact trivial|exact wR|exact lR _|apply aI
        all_goals first | exact aB _ | (refine aY ?_; rw [List.map_set]; simp [strip])
      ·show k < k + 1
       omega
    ·conv=>whnf
     refine ⟨(g - 1,r + top),?_,?_,?_⟩
     ·exact ⟨PN,(by omega : q <= g - 1),(by omega : r + top < 4294967296),(by omega : g - 1 <= g0)⟩
     ·refine ⟨?_,.refl rfl⟩
      all_goals exact wk
     ·show g - 1 < g
      omega
   ·have hG : g <= q + 1:=hq ▸ Fq (B:=4294967296) (p:=p) (by omega) hp0 CB b2 b2' b3 hgr (by omega) hgB
    conv=>whnf
    rw [elv]
    refine zA ?_;conv=>whnf
    refine zA ?_;conv=>whnf
    refine ⟨⟨by omega,by omega,by omega⟩,by omega,?_⟩
    have ct:=Qb M v k (a.length + 1 - k) (g) Rx (by omega) (by omega) (by omega) (by
     rw [hvv,hvl,Nat.pow_succ,Nat.mul_comm (4294967296 ^ b.length)]
     exact Nat.mul_lt_mul_of_le_of_lt (by omega) hV2 (by omega))
    rw [Vj,hvv,hvl,hseg.1,Em Vh hq.symm (by omega) hG] at ct
    conv=>whnf
    refine .gen _ _ (aA.frame [0] ct ⟨rfl,rfl,rfl,rfl⟩ ?_ ?_) fun _=>?_
    ·all_goals exact wk
    ·repeat' first|exact rfl|exact trivial|exact wR|exact lR _|apply aI
     all_goals (show AV.ms 0 _ _ _ 1 = AV.ms 0 _ _ _ 1; congr 1 <;> omega)
    conv=>whnf
    refine And.intro (fun Xd=>?_) (fun Xd=>?_)
    ·conv=>whnf
     rw [show (((g : Nat) : Int) - 1) = (q : Int) by omega,wrap_u64 (n:=(q : Int)) (by omega) (by omega)]
     conv=>whnf
     rw [elv]
     refine zA ?_;conv=>whnf
     refine zA ?_;conv=>whnf
     refine ⟨⟨by omega,by omega,by omega⟩,by omega,?_⟩
     have cg:=Qj (mid M k (nH (b.length + 1) (takeN s ((g) * V) (b.length + 1)))) v k (a.length + 1 - k) (JZ Rx (qK _ _)) (by rw [zH]; omega) (by rw [zH]; omega)
     rw [zH,hvv,hvl,Xd,W9] at cg
     rw [Xd]
     conv=>whnf
     refine .gen _ _ (aA.frame [0] cg ⟨rfl,rfl,rfl,rfl⟩ ?_ ?_) fun _=>?_
     ·all_goals exact wk
     ·repeat' first|exact rfl|exact trivial|exact wR|exact lR _|apply aI
      all_goals (show AV.ms 0 _ _ _ 1 = AV.ms 0 _ _ _ 1; congr 1 <;> omega)
     conv=>whnf
     rw [wrap_u32 (n:=(q : Int)) (by omega) (by omega)]
     refine ⟨⟨by omega,by omega⟩,?_⟩
     dsimp only [kQ]
     rw [tX]
     dsimp only [jo]
     dsimp only [yJ,fZ]
     conv=>whnf
     refine ⟨by rw [List.length_map,YL]; omega,rfl,?_⟩
     conv=>whnf
     refine zA ?_;conv=>whnf
     refine ⟨(k,mid M k (nH (b.length + 1) (s % V)),Q.set k (q : Int)),?_,?_,?_⟩
     ·exact hdst
     ·refine ⟨?_,.mk ?_ ⟨by simp,by simp,trivial⟩⟩
      ·all_goals exact wk
      ·repeat' first|exact rfl|exact trivial|exact wR|exact lR _|apply aI
       all_goals first | exact aB _ | (refine aY ?_; rw [List.map_set]; simp [strip])
     ·show k < k + 1
      omega
    ·have Xc : g = q:=by omega
     rw [Xc,hrest]
     conv=>whnf
     rw [wrap_u32 (n:=(q : Int)) (by omega) (by omega)]
     refine ⟨⟨by omega,by omega⟩,?_⟩
     dsimp only [kQ]
     rw [tX]
     dsimp only [jo]
     dsimp only [yJ,fZ]
     conv=>whnf
     refine ⟨by rw [List.length_map,YL]; omega,rfl,?_⟩
     conv=>whnf
     refine zA ?_;conv=>whnf
     refine ⟨(k,mid M k (nH (b.length + 1) (s % V)),Q.set k (q : Int)),?_,?_,?_⟩
     ·exact hdst
     ·refine ⟨?_,.mk ?_ ⟨by simp,by simp,trivial⟩⟩
      ·all_goals exact wk
      ·repeat' first|exact rfl|exact trivial|exact wR|exact lR _|apply aI
       all_goals first | exact aB _ | (refine aY ?_; rw [List.map_set]; simp [strip])
     ·show k < k + 1
      omega
 ·have hj0 : j = 0:=by omega
  subst hj0
  obtain ⟨f1,f2⟩:=hI.fin
  have YL:=hI.lq
  have Vj:=hI.lm
  have hcq:=kU Q (by omega)
  rw [f1,hres.1] at hcq
  have hcr:=XO M sh (by omega) (by omega)
  rw [f2,hres.2] at hcr
  have hrl : x % y < 4294967296 ^ M.length:=by
   have h1:=Nat.mod_lt x (show 0 < y by omega)
   have h2 : 4294967296 ^ b.length <= 4294967296 ^ M.length:=Nat.pow_le_pow_right (by omega) (by omega)
   have h3:=fF hwy
   omega
  have hct:=kU (nH M.length (x % y)) (by rw [dO]; omega)
  rw [mD hrl] at hct
  conv=>whnf
  refine .gen _ _ (aA.PU 0 rfl rfl (by simp; omega) (aA.fB hcq ?_ ⟨rfl,rfl⟩)) fun _=>?_
  ·repeat' first|exact rfl|exact trivial|exact wR|exact lR _|apply aI
   refine aY ?_
   simp
   rw [List.take_of_length_le (by simp; omega)]
  conv=>whnf
  refine .gen _ _ (aA.PU 0 rfl rfl (by simp; omega) (aA.fB hcr ?_ ⟨rfl,rfl⟩)) fun _=>?_
  ·repeat' first|exact rfl|exact trivial|exact wR|exact lR _|apply aI
   refine aY ?_
   simp
   rw [List.take_of_length_le (by simp; omega)]
  conv=>whnf
  refine .pure _ _ ?_ ⟨rfl,rfl⟩ hct fun _=>?_
  ·exact ak _
  conv=>whnf
  refine fM ?_;(conv=>whnf);refine ⟨?_,rfl⟩;conv=>whnf
  all_goals exact wk

theorem divC (x y : Nat) (hx : (wd x).length <= 999999) (hy : (wd y).length <= 1000000) (h0 : y ≠ 0) : OI x y:=by
 by_cases h : y < 4294967296
 ·exact Ul x y (by omega) h0 h
 ·exact Um x y hx hy (by omega)

theorem DZ {a b : List Int} (ha : Ws a) (hb : Ws b) (la : a.length <= 999999) (lb : b.length <= 999999) {x : Nat} (h : x <= max (val a) (val b)) : (wd x).length <= 999999:=by
 have h1:=iY ha
 have h2:=iY hb
 rcases Nat.le_total (val a) (val b) with hab | hab
 ·rw [Nat.max_eq_right hab] at h; have:=dX h; omega
 ·rw [Nat.max_eq_left hab] at h; have:=dX h; omega

theorem aA.ok {P : Program} {f : Nat} {args : List AV} {H : Heap} {R : AV} {H' : Heap} (hf : ∃ fn,P.funcs[f]? = some fn /\ (fn.name == "runtime.NumGoroutine") = false /\ fn.body.isSome = true) (h : yR args -> aA P f args H R H') : aA P f args H R H' :=
 ⟨hf,fun c vs hr hv=>(h (QG hv)).2 c vs hr hv⟩

theorem Ba (r : Rat) (h1 : r.num.length <= 999999) (h2 : r.den.length <= 999999) : Au r:=by
 have key : yR [r.av] -> Au r:=by
  intro hok
  have w1 : Ws r.num:=Ws.ok hok.1.2.1.2
  have w2 : Ws r.den:=Ws.ok hok.1.2.2.1.2
  refine ratC r (by omega) (by omega) fun _ x y hy hx hy'=>?_
  have l1:=DZ w1 w2 h1 h2 hx
  have l2:=DZ w1 w2 h1 h2 hy'
  exact divC x y l1 (by omega) hy
 exact ⟨aA.ok A8.v.1 fun h=>(key h).v,aA.ok A8.s.1 fun h=>(key h).s,aA.ok A8.p.1 fun h=>(key h).p⟩

end S
