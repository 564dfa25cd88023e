/-
  Contracts of functions of the program. Nothing is assumed.
-/
import Derived.Test.YtdkhmfabhfgemaaGreatT3
import Derived.Test.YtdkhmfabhfgemaaGreatRows
open Go Go.AL Go.Proofs
namespace S
abbrev pz:TI:=⟨.rG,8,.ru,none,false⟩
abbrev lf(n:Nat)(t:TI):Lay:=.node .nil n t .nil
abbrev qK:TI:=⟨.struct [(0,1,12),(1,1,12),(2,1,179),(3,1,305),(4,1,5),(5,1,5),(6,1,306),(7,1,307),(8,1,308),(9,1,309),(10,1,310)],48,.ag [.int .u64 0,.int .u64 0,.int .u32 0,.int .u8 0,.int .u8 0,.int .u8 0,.int .u8 0,.ru,.vW,.int .i32 0,.int .i32 0],none,false⟩
abbrev qJ:TI:=⟨.struct [(0,1,9),(1,3,52),(4,3,52),(7,3,52),(10,1,3)],192,.ag [.str [],.ag [.ff,.qW,.qW],.ag [.ff,.qW,.qW],.ag [.ff,.qW,.qW],.int .i64 0],none,false⟩
abbrev qI:TI:=⟨.struct [(0,1,9),(1,1,9),(2,1,22),(3,1,23),(4,1,24),(5,1,25),(6,1,26),(7,1,27)],176,.ag [.str [],.str [],.qW,.qW,.qW,.qW,.qW,.qW],none,false⟩
abbrev qH:TI:=⟨.struct [(0,1,33),(1,1,33),(2,1,33),(3,1,33),(4,5,36)],136,.ag [.qW,.qW,.qW,.qW,.ag [.ff,.int .i64 0,.int .i64 0,.int .i64 0,.int .i64 0]],none,false⟩
abbrev qG:TI:=⟨.struct [(0,8,29),(8,3,64),(11,1,229)],224,.ag [.ag [.str [],.str [],.qW,.qW,.qW,.qW,.qW,.qW],.ag [.int .i64 0,.qW,.int .i64 0],.zq],none,false⟩
abbrev qF:TI:=⟨.struct [(0,1,9),(1,1,3),(2,1,3),(3,1,33),(4,3,52)],112,.ag [.str [],.int .i64 0,.int .i64 0,.qW,.ag [.ff,.qW,.qW]],none,false⟩
abbrev qE:TI:=⟨.struct [(0,1,4),(1,1,3),(2,1,3),(3,1,3),(4,1,3)],40,.ag [.ff,.int .i64 0,.int .i64 0,.int .i64 0,.int .i64 0],none,true⟩
abbrev qC:TI:=⟨.struct [(0,1,104),(1,1,104),(2,1,132),(3,1,188),(4,1,189)],88,.ag [.qW,.qW,.qW,.zq,.zq],none,false⟩
abbrev qB:TI:=⟨.struct [(0,3,64),(3,1,154),(4,1,104)],88,.ag [.ag [.int .i64 0,.qW,.int .i64 0],.qW,.qW],none,false⟩
abbrev qA:TI:=⟨.struct [(0,3,64),(3,1,104),(4,1,169)],88,.ag [.ag [.int .i64 0,.qW,.int .i64 0],.qW,.qW],none,false⟩
abbrev qw:TI:=⟨.struct [(0,1,2),(1,1,3),(2,1,4),(3,1,6)],24,.ag [.int .i64 0,.int .i64 0,.ff,.int .u8 0],none,false⟩
abbrev qp:TI:=⟨.struct [(0,1,9),(1,1,3),(2,1,33),(3,1,68)],72,.ag [.str [],.int .i64 0,.qW,.qW],none,false⟩
abbrev qj:TI:=⟨.struct [(0,1,17),(1,1,17),(2,1,17),(3,1,9)],40,.ag [.vW,.vW,.vW,.str []],none,false⟩
abbrev qg:TI:=⟨.struct [(0,1,3),(1,1,3),(2,1,3)],24,.ag [.int .i64 0,.int .i64 0,.int .i64 0],none,true⟩
abbrev pY:TI:=⟨.struct [(0,1,3),(1,1,3),(2,1,104)],40,.ag [.int .i64 0,.int .i64 0,.qW],none,false⟩
abbrev pX:TI:=⟨.struct [(0,1,3),(1,1,62),(2,1,3)],40,.ag [.int .i64 0,.qW,.int .i64 0],none,false⟩
abbrev pW:TI:=⟨.struct [(0,1,104),(1,1,132),(2,1,3)],56,.ag [.qW,.qW,.int .i64 0],none,false⟩
abbrev pV:TI:=⟨.struct [(0,1,9),(1,1,9),(2,1,118)],56,.ag [.str [],.str [],.qW],none,false⟩
abbrev pU:TI:=⟨.struct [(0,1,9),(1,1,9),(2,1,24)],56,.ag [.str [],.str [],.qW],none,false⟩
abbrev pR:TI:=⟨.struct [(0,1,86),(1,1,87),(2,1,88)],24,.ag [.vW,.vW,.vW],none,false⟩
abbrev pO:TI:=⟨.struct [(0,1,9),(1,3,52)],72,.ag [.str [],.ag [.ff,.qW,.qW]],none,false⟩
abbrev pK:TI:=⟨.struct [(0,1,4),(1,1,50),(2,1,50)],56,.ag [.ff,.qW,.qW],none,false⟩
abbrev pJ:TI:=⟨.struct [(0,1,9),(1,1,12)],24,.ag [.str [],.int .u64 0],none,false⟩
abbrev pI:TI:=⟨.struct [(0,1,9),(1,1,4)],24,.ag [.str [],.ff],none,true⟩
abbrev pG:TI:=⟨.struct [(0,0,301)],0,.ag [.ag []],none,false⟩
abbrev pF:TI:=⟨.struct [(0,1,17)],8,.ag [.vW],none,false⟩
abbrev pq:TI:=⟨.int .i64,8,.int .i64 0,none,false⟩
abbrev o9:TI:=⟨.int .u64,8,.int .u64 0,none,false⟩
abbrev o8:TI:=⟨.int .i32,4,.int .i32 0,none,false⟩
abbrev o7:TI:=⟨.int .u8,1,.int .u8 0,none,false⟩
abbrev oZ:TI:=⟨.str,16,.str [],none,false⟩
abbrev oW:TI:=⟨.iface,16,.vJ,none,false⟩
def L:Lay:=.node (.node (.node (.node (.node (.node (.node (.node (lf 1 pz) 2 pq .nil) 3 pq (lf 4 ⟨.bool,1,.ff,none,false⟩)) 5 o7 (.node (lf 6 o7) 7 qw (lf 8 qw))) 9 oZ (.node (.node (.node (lf 10 oZ) 11 oZ .nil) 12 o9 (lf 13 pJ)) 14 pJ (.node (lf 15 ⟨.ptr 300,8,.vW,none,false⟩) 16 ⟨.ptr 303,8,.vW,none,false⟩ (lf 17 ⟨.ptr 312,8,.vW,none,false⟩)))) 18 pF (.node (.node (.node (.node (lf 19 pF) 20 oW .nil) 21 o8 (lf 22 ⟨.slice 54,24,.qW,none,false⟩)) 23 ⟨.slice 113,24,.qW,none,false⟩ (.node (lf 24 ⟨.slice 108,24,.qW,none,false⟩) 25 ⟨.slice 115,24,.qW,none,false⟩ (lf 26 ⟨.slice 117,24,.qW,none,false⟩))) 27 ⟨.slice 120,24,.qW,none,false⟩ (.node (.node (.node (lf 28 qI) 29 qI .nil) 30 pz (lf 31 pz)) 32 pz (.node (lf 33 ⟨.slice 9,24,.qW,none,false⟩) 34 pz (lf 35 qE))))) 36 qE (.node (.node (.node (.node (.node (lf 37 qH) 38 qH .nil) 39 oW (lf 40 oW)) 42 pz (.node (lf 43 pz) 44 pz (lf 45 pz))) 46 pz (.node (.node (.node (lf 47 pz) 48 pz .nil) 49 pq (lf 50 ⟨.slice 179,24,.qW,none,false⟩)) 51 pK (.node (lf 52 pK) 53 qJ (lf 54 qJ)))) 56 pz (.node (.node (.node (.node (lf 57 pz) 59 pz .nil) 61 pz (lf 62 ⟨.slice 143,24,.qW,none,false⟩)) 63 pX (.node (lf 64 pX) 65 pz (lf 67 pz))) 68 ⟨.slice 52,24,.qW,none,false⟩ (.node (.node (.node (lf 69 pz) 71 pz .nil) 72 pz (lf 73 ⟨.slice 29,24,.qW,none,false⟩)) 74 pz (.node (lf 75 ⟨.arr 2 64,80,.ag [.ag [.int .i64 0,.qW,.int .i64 0],.ag [.int .i64 0,.qW,.int .i64 0]],none,false⟩) 77 pz (lf 78 pz)))))) 79 pz (.node (.node (.node (.node (.node (.node (lf 80 pz) 81 pz .nil) 82 pz (lf 83 pz)) 84 ⟨.map 9 90,8,.zq,(some (.str [])),false⟩ (.node (lf 85 pz) 86 ⟨.ptr 54,8,.vW,none,false⟩ (lf 87 ⟨.ptr 113,8,.vW,none,false⟩))) 88 ⟨.ptr 108,8,.vW,none,false⟩ (.node (.node (.node (lf 89 pR) 90 pR .nil) 92 pz (lf 93 ⟨.slice 33,24,.qW,none,false⟩)) 94 pz (.node (lf 95 pz) 96 pz (lf 98 pz)))) 99 pz (.node (.node (.node (.node (lf 100 pz) 101 pz .nil) 102 pz (lf 103 pz)) 104 ⟨.slice 3,24,.qW,none,false⟩ (.node (lf 105 pz) 106 pz (lf 107 qF))) 108 qF (.node (.node (.node (lf 109 pz) 110 pz .nil) 111 pz (lf 112 pI)) 113 pI (.node (lf 114 pU) 115 pU (lf 116 qp))))) 117 qp (.node (.node (.node (.node (.node (lf 118 ⟨.slice 122,24,.qW,none,false⟩) 119 pV .nil) 120 pV (lf 121 pO)) 122 pO (.node (lf 123 pz) 124 pz (lf 125 pz))) 127 pz (.node (.node (.node (lf 128 ⟨.ptr 191,8,.vW,none,false⟩) 129 pz .nil) 130 ⟨.arr 2 3,16,.ag [.int .i64 0,.int .i64 0],none,true⟩ (lf 131 ⟨.slice 64,24,.qW,none,false⟩)) 132 ⟨.slice 199,24,.qW,none,false⟩ (.node (lf 133 pW) 134 pW (lf 136 pz)))) 137 pz (.node (.node (.node (.node (lf 138 pz) 139 pz .nil) 140 pz (lf 141 pz)) 142 pY (.node (lf 143 pY) 144 pz (lf 145 pz))) 146 pz (.node (.node (lf 147 pz) 148 pz (lf 149 pz)) 151 pz (.node (lf 153 pz) 154 ⟨.slice 209,24,.qW,none,false⟩ (lf 155 qB))))))) 156 qB (.node (.node (.node (.node (.node (.node (.node (lf 158 pz) 159 pz .nil) 160 pz (lf 162 pz)) 163 pz (.node (lf 164 pz) 165 pz (lf 166 pz))) 167 o9 (.node (.node (.node (lf 168 pz) 169 ⟨.slice 4,24,.qW,none,false⟩ .nil) 170 pz (lf 172 pz)) 173 pz (.node (lf 174 ⟨.slice 104,24,.qW,none,false⟩) 175 pz (lf 176 pz)))) 177 pz (.node (.node (.node (.node (lf 178 pz) 179 ⟨.int .u32,4,.int .u32 0,none,false⟩ .nil) 180 pz (lf 181 pz)) 183 pz (.node (lf 184 o9) 185 pz (lf 187 pz))) 188 ⟨.map 199 3,8,.zq,(some (.ag [.int .i64 0,.int .i64 0,.int .i64 0])),false⟩ (.node (.node (.node (lf 189 ⟨.map 209 3,8,.zq,(some (.ag [.int .i64 0,.int .i64 0,.int .i64 0])),false⟩) 190 qC .nil) 191 qC (lf 193 pz)) 194 pz (.node (lf 195 pz) 196 pz (lf 197 pz))))) 198 qg (.node (.node (.node (.node (.node (lf 199 qg) 200 pz .nil) 201 ⟨.map 3 4,8,.zq,(some (.int .i64 0)),false⟩ (lf 202 pz)) 203 pz (.node (lf 204 ⟨.map 3 3,8,.zq,(some (.int .i64 0)),false⟩) 205 pz (lf 206 pz))) 207 pz (.node (.node (.node (lf 208 pz) 209 ⟨.arr 3 3,24,.ag [.int .i64 0,.int .i64 0,.int .i64 0],none,true⟩ .nil) 210 pz (lf 211 pz)) 212 pz (.node (lf 213 pz) 214 pz (lf 215 pz)))) 216 pz (.node (.node (.node (.node (lf 217 pz) 218 pz .nil) 219 pz (lf 220 pz)) 221 ⟨.map 224 3,8,.zq,(some (.ag [.int .i64 0,.int .i64 0,.int .i64 0])),false⟩ (.node (lf 222 pz) 223 qg (lf 224 qg))) 225 pz (.node (.node (.node (lf 227 pz) 228 ⟨.ptr 231,8,.vW,none,false⟩ .nil) 229 ⟨.map 276 3,8,.zq,(some (.ag [.int .i64 0,.int .i64 0,.int .i64 0])),false⟩ (lf 230 qG)) 231 qG (.node (lf 233 pz) 234 pz (lf 235 pz)))))) 236 pz (.node (.node (.node (.node (.node (.node (lf 237 pq) 239 pz .nil) 240 pz (lf 241 pz)) 242 pz (.node (lf 243 pz) 244 pz (lf 245 pz))) 246 pz (.node (.node (.node (lf 247 pz) 248 pz .nil) 249 pz (lf 250 pz)) 251 pz (.node (lf 253 pz) 254 pz (lf 255 ⟨.ptr 257,8,.vW,none,false⟩)))) 256 qA (.node (.node (.node (.node (lf 257 qA) 258 pz .nil) 259 pz (lf 260 pz)) 261 pz (.node (lf 262 pz) 264 pz (lf 265 pz))) 267 pz (.node (.node (.node (lf 268 pz) 269 pz .nil) 270 pz (lf 271 pz)) 272 pz (.node (lf 273 pz) 274 pz (lf 275 qg))))) 276 qg (.node (.node (.node (.node (.node (lf 277 pz) 278 pz .nil) 279 pz (lf 280 o9)) 281 pz (.node (lf 282 pz) 283 pz (lf 284 ⟨.ptr 3,8,.vW,none,false⟩))) 285 pz (.node (.node (.node (lf 286 pz) 287 pz .nil) 288 pz (lf 289 pz)) 291 pz (.node (lf 292 ⟨.ptr 280,8,.vW,none,false⟩) 293 pz (lf 295 pz)))) 296 pz (.node (.node (.node (.node (lf 297 pz) 298 pz .nil) 299 qj (lf 300 qj)) 301 ⟨.arr 0 16,0,.ag [],none,false⟩ (.node (lf 302 pG) 303 pG (lf 304 pz))) 305 o7 (.node (.node (lf 306 o7) 307 pz (lf 308 ⟨.ptr 5,8,.vW,none,false⟩)) 309 o8 (.node (lf 310 o8) 311 qK (lf 312 qK)))))))
theorem lay:uo Tryz.prog L:=OJ (by kernel_rfl)
theorem mixed:Tryz.prog.follows .mixedOrders=true:=by kernel_rfl
abbrev ZQ:=qX Tryz.prog
theorem ZI {f:Nat} {fn:Func} {code:Code} {args:List AV} {H:Heap} {R:AV} {H':Heap} (hf:Tryz.prog.funcs[f]? = some fn) (h:KD args->b07 0 args fun e=>UA (FP Tryz.prog) Ok L code (Fin L fn.results.toList H R H') e H) (hb:fn.body=some code:=by exact rfl) (hn:(fn.name== "runtime.NumGoroutine")=false:=by kernel_rfl) (hc:AB fn.ntmps code=true:=by kernel_rfl) (ha:Nat.ble args.length fn.ntmps=true:=by exact rfl):qX Tryz.prog f args H R H':=qX.intro lay mixed hf hn hb hc ha h
theorem ZN {f:Nat} {fn:Func} {code:Code} {args:List AV} {H:Heap} {R:AV} {H':Heap} {q:Prop} (hf:Tryz.prog.funcs[f]? = some fn) (k:KD args->q) (hb:fn.body=some code:=by exact rfl) (hn:(fn.name== "runtime.NumGoroutine")=false:=by kernel_rfl) (hc:AB fn.ntmps code=true:=by kernel_rfl) (ha:Nat.ble args.length fn.ntmps=true:=by exact rfl) (e:(b07 0 args fun e=>UA (FP Tryz.prog) Ok L code (Fin L fn.results.toList H R H') e H)=q:=by(conv=>lhs;(try dsimp only[b07,a5b]);(try dsimp only[UA]);whnf);(try exact rfl)):qX Tryz.prog f args H R H':=qX.intro lay mixed hf hn hb hc ha fun h=>Eq.mpr e (k h)
abbrev iL(l:List Int):AV:=.sl 1 (l.map (.int .i64)) .no
abbrev wL(l:List Int):AV:=.sl 1 (l.map (.int .u32)) .no
structure Rat where
 neg:Bool
 num:List Int
 den:List Int
 deriving DecidableEq,Inhabited
abbrev Rat.av(r:Rat):AV:=.ag [.bool r.neg,wL r.num,wL r.den]
structure Gate where
 kind:Int
 k:Int
 args:List Int
 y5:Rat
 deriving DecidableEq,Inhabited
structure St where
 failed:Int
 memo:List Int
 deriving DecidableEq,Inhabited
theorem J8{α:Type}{f:α->AV}:∀{l:List α},KD (l.map f)->∀x∈l,Ok (f x)
 | [],_,x,hx=>by simp at hx
 |y::l,h,x,hx=>by simp only[dF,KD]at h;rcases aT.1 hx with rfl|hx;{exact h.1};exact J8 h.2 x hx
theorem qY{l m:List AV}(h:l=m):sS l m:=h ▸ qU l
set_option maxRecDepth 100000
def count(v:List Bool):List Int->Int
 | []=>0
 |a::l=>(if v.getD a.toNat false then 1 else 0)+count v l
def evs(n:Nat)(f:Nat):List Bool:=(List.range n).map f.testBit
theorem CO{α β:Type}{f:β->α->β}{s:β}{l:List α}{i:Nat}(h:i<l.length):(l.take (i+1)).foldl f s=f ((l.take i).foldl f s) l[i]:=by rw[eP,aH h,fU];rfl
def zG{α:Type}(p:α->Bool):List α->Int
 | []=>-1
 |x::l=>if p x then 0 else(match zG p l with | -1=>-1|n=>n+1)
theorem zF{α:Type}(p:α->Bool):∀l:List α,(zG p l = -1/\∀x∈l,p x=false)\/∃(i:Nat) (h:i<l.length),zG p l=i/\p l[i]=true/\∀(j:Nat) (hj:j<i),p l[j]=false
 | []=>.inl ⟨rfl,ak⟩
 | x::l=>by
   simp only[zG];cases hx:p x with
   |true=>exact .inr ⟨0,ak,ak,by simpa using hx,ak⟩
   | false =>
     rcases zF p l with⟨h1,h2⟩|⟨i,h,h1,h2,h3⟩;{refine .inl ⟨by simp[h1],?_⟩;intro y hy;rcases aT.1 hy with rfl|hy;{exact hx};exact h2 y hy};refine .inr ⟨i+1,by simpa using h,?_,by simpa using h2,?_⟩;{simp only[dN,if_false];rw[h1];split;{rename_i h4;omega};simp};intro j hj;cases j with
     |zero=>simpa using hx
     |succ j=>simpa using h3 j aj
theorem wQ{α:Type}{p:α->Bool}{l:List α}{i:Nat}(h:i<l.length)(hp:p l[i]=true)(hn:∀(j:Nat) (hj:j<i),p l[j]=false):zG p l=i:=by rcases zF p l with⟨_,h2⟩|⟨k,hk,h1,h2,h3⟩;{rw[h2 _ (aQ h)]at hp;cases hp};rcases mD i k with hik|rfl|hik;{rw[h3 i hik]at hp;cases hp};{exact h1};rw[hn k hik]at h2;cases h2
theorem yw{α:Type}{p:α->Bool}{l:List α}(hn:∀(j:Nat) (hj:j<l.length),p l[j]=false):zG p l = -1:=by rcases zF p l with⟨h1,_⟩|⟨k,hk,_,h2,_⟩;{exact h1};rw[hn k hk]at h2;cases h2
theorem Ar{x y:AV}(hx:IC x y):∀{l m:List AV},sS l m->sS (l++[x]) (m++[y])
 | [],[],_=>⟨hx,trivial⟩
 | [],_::_,h=>by simp only[sS]at h
 |_::_,[],h=>by simp only[sS]at h
 |a::l,b::m,h=>by simp only[sS]at h;exact⟨h.1,Ar hx h.2⟩
theorem getD_mem{α:Type}{l:List α}{i:Nat}{d:α}(h:i<l.length):l.getD i d∈l:=by rw[aF,aH h];exact aQ h
theorem b2v(n f:Nat):(evs n f).length=n:=by simp[evs]
theorem TP{α:Type}(p:α->Bool)(l:List α):(0<=zG p l)↔l.any p=true:=by rcases zF p l with⟨h1,h2⟩|⟨i,h,h1,h2,h3⟩;{rw[h1];constructor;{intro h;omega};intro h;obtain⟨x,hx,hp⟩:=iD.1 h;rw[h2 x hx]at hp;cases hp};rw[h1];exact⟨λ_=>iD.2 ⟨_,aQ h,h2⟩,λ_=>aj⟩
def holds(v:List Bool)(i:Int)(g:Gate):Bool :=
 decide (g.kind=8)&&v.getD (g.args.getD 0 0).toNat false&&(g.args.drop 1).any λy=>decide (i=y)
def val:List Int->Nat
 | []=>0
 |x::l=>x.toNat+4294967296*val l
def Ws(l:List Int):Prop:=∀x∈l,0<=x/\x<4294967296
def wd(n:Nat):List Int:=if h:n=0 then[]else((n % 4294967296:Nat):Int)::wd (n / 4294967296)
termination_by n
decreasing_by exact lT aj aj
theorem yt:wd 0=[]:=by rw[wd];simp
theorem BL{n:Nat}(h:n≠0):wd n=((n % 4294967296:Nat):Int)::wd (n / 4294967296):=by rw[wd];simp[h]
theorem Ws.nil:Ws []:=by intro x hx;simp at hx
theorem Ws.cons{x:Int}{l:List Int}(hx:0<=x/\x<4294967296)(hl:Ws l):Ws (x::l):=by intro y hy;rcases aT.1 hy with rfl|hy;{exact hx};exact hl y hy
theorem Ws.tail{x:Int}{l:List Int}(h:Ws (x::l)):Ws l:=λy hy=>h y (by simp[hy])
theorem Ws.head{x:Int}{l:List Int}(h:Ws (x::l)):0<=x/\x<4294967296:=h x ak
theorem Ws.append{l m:List Int}(h:Ws l)(g:Ws m):Ws (l++m):=by intro x hx;rcases dM.1 hx with hx|hx;{exact h x hx};exact g x hx
theorem Ws.take{l:List Int}(h:Ws l)(n:Nat):Ws (l.take n):=λx hx=>h x (kK hx)
theorem Ws.drop{l:List Int}(h:Ws l)(n:Nat):Ws (l.drop n):=λx hx=>h x (nI hx)
theorem Ws.get{l:List Int}(h:Ws l){i:Nat}(hi:i<l.length):0<=l[i]/\l[i]<4294967296:=h _ (aQ hi)
theorem Ws.getD{l:List Int}(h:Ws l){i:Nat}:0<=l.getD i 0/\l.getD i 0<4294967296:=by
 rw[aF];cases hi:l[i]? with
 |none=>exact⟨dR _,by show(0:Int)<_;omega⟩
 |some x=>exact h x (cZ hi)
theorem Ws.ok{l:List Int}(h:KD (l.map (AV.int .u32))):Ws l:=by intro x hx;have:=J8 h x hx;simp[Ok,KF,IntKind.min,IntKind.max,IntKind.signed,IntKind.bits]at this;omega
theorem EH(n:Nat):Ws (wd n):=by
 induction n using Nat.strongRecOn with
 |_ n ih =>by_cases h:n=0;{subst h;rw[yt];exact Ws.nil};rw[BL h];exact Ws.cons aj (ih _ (lT aj aj))
theorem rU(n:Nat):val (wd n)=n:=by
 induction n using Nat.strongRecOn with
 |_ n ih =>by_cases h:n=0;{subst h;rw[yt];rfl};rw[BL h,val,ih _ (lT aj aj)];omega
theorem val_append:∀(l m:List Int),val (l++m)=val l+4294967296^l.length*val m
 | [],m=>by simp[val]
 |x::l,m=>by simp only[eX,val,val_append l m,dW,bU];rw[dB,<- dA,dK 4294967296 (4294967296^l.length)];omega
theorem wJ:∀{l:List Int},Ws l->val l<4294967296^l.length
 | [],_=>by simp[val]
 |x::l,h=>by have:=wJ h.tail;have hx:=h.head;simp only[val,dW,bU];have:4294967296*(val l+1)<=4294967296*4294967296^l.length:=dn _ aj;rw[dK (4294967296^l.length)];omega
def Pl(l:List Int):Prop:=l=[]\/l.getLastD 0≠0
theorem a4J:∀{l:List Int},Ws l->Pl l->wd (val l)=l
 | [],_,_=>by rw[val,yt]
 | [x],h,hp=>by have hx:=h.head;have h0:x≠0:=(by rcases hp with hp|hp;{cases hp};simpa using hp);simp only[val];rw[BL aj];have e1:(x.toNat+4294967296*0) % 4294967296=x.toNat:=aj;have e2:(x.toNat+4294967296*0) / 4294967296=0:=aj;rw[e1,e2,yt];simp;omega
 | x::y::l,h,hp=>by
   have hx:=h.head;have hp':Pl (y::l):=(by rcases hp with hp|hp;{cases hp};exact .inr (by simpa using hp));have ih:=a4J h.tail hp';have hv:val (y::l)≠0:=by intro e;rw[e,yt]at ih;cases ih
   rw[val];generalize val (y::l)=n at *;rw[BL aj];have e1:(x.toNat+4294967296*n) % 4294967296=x.toNat:=aj;have e2:(x.toNat+4294967296*n) / 4294967296=n:=aj;rw[e1,e2,ih];congr 1;omega
theorem Y1(n:Nat):Pl (wd n):=by
 induction n using Nat.strongRecOn with
 |_ n ih =>by_cases h:n=0;{subst h;rw[yt];exact .inl rfl};rw[BL h];refine .inr ?_;by_cases h2:n / 4294967296=0;{rw[h2,yt];show((n % 4294967296:Nat):Int)≠0;omega};have:=ih (n / 4294967296) (lT aj aj);rcases this with hn|hn;{rw[BL h2]at hn;cases hn};rw[BL h2]at hn ⊢;simpa using hn
theorem CZ:∀{l:List Int},(∀x∈l,x=0)->val l=0
 | [],_=>rfl
 |x::l,h=>by have h1:=h x ak;have h2:=CZ (l:=l) λy hy=>h y (by simp[hy]);simp[val,h1,h2]
theorem a0Z{l:List Int}(hl:Ws l){n:Nat}(hn:n<=l.length)(hz:∀k,n<=k->l.getD k 0=0)(hp:n=0\/l.getD (n-1) 0≠0):l.take n=wd (val l):=by
 have h1:val l=val (l.take n):=by
  conv=>lhs;rw[<- fH n l]
  rw[val_append,CZ (l:=l.drop n),gB,dU];intro x hx;obtain⟨k,hk,rfl⟩:=dX hx;have:=hz (n+k) aj;simp only[fQ]at hk;rw[aF,aH aj]at this;simpa[List.getElem_drop]using this
 rw[h1];refine(a4J (hl.take n) ?_).symm;rcases hp with rfl|hp;{exact .inl ak};by_cases h0:n=0;{subst h0;exact .inl ak};refine .inr ?_;rw[iV,iW];have e:(l.take n).length=n:=aA;rw[e,jy,aG aj];rw[aF]at hp;exact hp
theorem wu{l:List Int}(hl:Ws l):(wd (val l)).length<=l.length:=by
 -- by the greatest place that is not 0
 have:∀n,n<=l.length->(∀k,n<=k->l.getD k 0=0)->∃m,m<=n/\(∀k,m<=k->l.getD k 0=0)/\(m=0\/l.getD (m-1) 0≠0):=by
  intro n;induction n with
  |zero=>intro _ h;exact⟨0,aS _,h,.inl rfl⟩
  |succ n ih =>intro hn h;by_cases h0:l.getD n 0=0;{obtain⟨m,h1,h2,h3⟩:=ih aj λk hk=>(by by_cases hkn:k=n;{subst hkn;exact h0};exact h k aj);exact⟨m,aj,h2,h3⟩};exact⟨n+1,aS _,h,.inr (by simpa using h0)⟩
 obtain⟨m,h1,h2,h3⟩:=this l.length (aS _) λk hk=>(by rw[aF,gy hk];rfl);rw[<- a0Z hl h1 h2 h3,bD];omega
theorem uI{l:List Int}(n:Nat)(h:n<=l.length):val l=val (l.take n)+4294967296^n*val (l.drop n):=by
 conv=>lhs;rw[<- fH n l]
 rw[val_append];congr 3;simp;omega
theorem Gw{l:List Int}(hp:Pl l)(h:l≠[])(hl:Ws l):4294967296^(l.length-1)<=val l:=by have hlen:0<l.length:=jq.2 h;rw[uI (l.length-1) aj];rcases hp with hp|hp;{exact absurd hp h};have hd:l.drop (l.length-1)=[l[l.length-1]' aj]:=(by rw[aZ aj];congr 1;exact aX aj);rw[hd];have h1:l[l.length-1]' aj≠0:=(by rw[iV,iW,aH aj]at hp;exact hp);have h2:=hl.get (i:=l.length-1) aj;simp only[val];have:4294967296^(l.length-1)*1<=4294967296^(l.length-1)*((l[l.length-1]' aj).toNat+4294967296*0):=dn _ aj;omega
def Jo(kind n:Int):Bool :=
 if kind=3 then decide (n=1)else if kind=5 then decide (n=2)
 else if kind=6\/kind=7\/kind=8 then decide (2<=n/\n<=16)else decide (1<=n/\n<=16)
def FN(r:Rat):Bool:=!r.neg&&decide (r.num.length=0)&&decide (r.den.length=0)
def wK(l:List Int):Bool:=decide (l≠[])&&decide (l.getLastD 0≠0)
def valid(r:Rat):Bool :=
 if r.num=[]/\r.den=[]then !r.neg else wK r.num&&wK r.den&&decide (Nat.gcd (val r.num) (val r.den)=1)
def sign(r:Rat):Int:=if valid r=true/\r.num≠[]then(if r.neg then -1 else 1)else 0
def yH(r:Rat):Bool:=valid r && !r.neg&&decide (val r.num<=val r.den)
structure Px(r:Rat):Prop where
 v:ZQ 195 [r.av] [] (.bool (valid r)) []
 s:ZQ 205 [r.av] [] (.int .i64 (sign r)) []
 p:ZQ 126 [r.av] [] (.bool (yH r)) []
def zu(e:Int):AV:=if e=0 then .vJ else .uV 49 (.int .i64 e)
theorem getD_lt{α:Type}{l:List α}{i:Nat}{x:α}(h:i<l.length):l.getD i x=l[i]:=by rw[aF,aH h];rfl
abbrev z0:St:=⟨0,[]⟩
theorem sD:zu 0=.vJ:=rfl
theorem rW{e:Int}(h:e≠0):zu e=.uV 49 (.int .i64 e):=aB h
theorem uX{α:Type}{l:List α}{i:Nat}{x:α}(h:i<l.length):l.getD i x=l[i]:=by rw[aF,aH h];rfl
theorem vC{α:Type}(d:α){f:α->AV}{l:List α}{i:Nat}{n:Int}{k:AV->Prop}(hn:n=i)(h:i<l.length)(hk:k (f (l.getD i d))):DZ (l.map f) n k:=by subst hn;refine rV h ?_;rw[uX h]at hk;exact hk
theorem CU(a:List Int)(hsz:a.length<=1000000):ZQ 234 [wL a] [] (wL (wd (val a))) []:=by
 refine ZI Tryz.func234 λhok=>?_;have hl:a.length<=9223372036854775807:=(by simpa[KD,Ok,maxL]using hok.1.1);have hw:Ws a:=Ws.ok hok.1.2;conv=>whnf
 refine qV.of <| qM.inv (.refl _ _) (fun(n:Nat)=>n<=a.length/\∀k,n<=k->a.getD k 0=0) (fun(n:Nat)=>[(3,.int .i64 n)]) (λ_=>_) (fun(n:Nat)=>n) a.length ?_ (λ_=>rfl) ?_ ?_;{exact⟨aS _,λk hk=>by rw[aF,gy hk];rfl⟩}
 ·repeat' first|exact Zq|apply aI
  simp
 rintro n ⟨hn,hz⟩ _;have fin:(n=0\/a.getD (n-1) 0≠0)->a.take n=wd (val a):=a0Z hw hn hz;conv=>whnf
 constructor<;>intro h
 ·conv=>whnf
  refine ZG ?_;refine vC 0 (i:=n-1) aj aj ?_;conv=>whnf
  constructor<;>intro h0
  ·(conv=>whnf);refine ZG ?_
   refine⟨n-1,?_,?_,?_⟩;{refine⟨aj,λk hk=>?_⟩;by_cases hkn:k=n-1;{subst hkn;exact h0};exact hz k aj}
   ·repeat' first|exact Zq|apply aI
    omega
   omega
  have e:=fin (.inr h0);conv=>whnf
  constructor<;>intro hh;{exfalso;omega};conv=>whnf
  refine⟨⟨aj,aj,aA⟩,?_⟩;have hcut:((a.map (AV.int .u32)).drop (0:Int).toNat).take ((n:Int).toNat-(0:Int).toNat)=(wd (val a)).map (AV.int .u32):=(by rw[<- e];simp);rw[hcut];have hll:(wd (val a)).length<=a.length:=(by rw[<- e];simp;omega);conv=>whnf
  refine .tok (by simp[maxL];omega) aA ?_;conv=>whnf
  refine ZF ?_;exact⟨rfl,qY ak⟩
 have e:=fin (.inl aj);conv=>whnf
 refine aP (λhh=>?_) (λhh=>by exfalso;omega);conv=>whnf
 refine ZF ?_;rw[<- e,show n=0 by omega];rfl
def EX(a b:Nat):Int:=if a<b then -1 else if b<a then 1 else 0
theorem Iy{a b:List Int}(ha:Ws a)(hb:Ws b)(hp:Pl b)(h:a.length<b.length):val a<val b:=by have h1:=wJ ha;have h2:=Gw hp (by intro e;subst e;simp at h) hb;have h3:4294967296^a.length<=4294967296^(b.length-1):=bQ aj aj;omega
theorem Y4{a b:List Int}(ha:Ws a)(hb:Ws b){i:Nat}(h1:i<a.length)(h2:i<b.length)(hd:a.drop (i+1)=b.drop (i+1))(h:a[i]<b[i]):val a<val b:=by rw[uI i (by omega:i<=a.length),uI i (by omega:i<=b.length),aZ h1,aZ h2];simp only[val];rw[hd];have h3:=wJ (ha.take i);have e:(a.take i).length=i:=(by rw[bD];omega);rw[e]at h3;have h4:=ha.get h1;have h5:=hb.get h2;generalize 4294967296*val (List.drop (i+1) b)=w;have:4294967296^i*(a[i].toNat+w+1)<=4294967296^i*(b[i].toNat+w):=dn _ aj;rw[dB _ _ 1]at this;omega
theorem a4y(a b:List Int)(ha:a.length<=1000000)(hb:b.length<=1000000):ZQ 196 [wL a,wL b] [] (.int .i64 (EX (val a) (val b))) []:=by
 refine ZI Tryz.func196 λhok=>?_;have wa:Ws a:=Ws.ok hok.1.2;have wb:Ws b:=Ws.ok hok.2.1.2;have la:=wu wa;have lb:=wu wb;conv=>whnf
 refine .zK (CU a ha) ?_;refine .zP (CU b hb) λ_=>?_;have e1:=rU (val a);have e2:=rU (val b);have pa:=Y1 (val a);have pb:=Y1 (val b);have ua:=EH (val a);have ub:=EH (val b);rw[<- e1,<- e2];rw[e1,e2];generalize hA:wd (val a)=A at *;generalize hB:wd (val b)=B at *;rw[<- e1,<- e2];conv=>whnf
 constructor<;>intro h
 ·have h:A.length≠B.length:=(by simp only[aC]at h;omega);conv=>whnf
  constructor<;>intro h1
  ·have h1:A.length<B.length:=(by simp only[aC]at h1;omega);conv=>whnf
   refine ZF ?_;refine⟨rfl,?_⟩;rw[EX,aG (Iy ua ub pb h1)]
  have h1:B.length<A.length:=(by simp only[aC]at h1;omega);have:=Iy ub ua pa h1;conv=>whnf
  refine ZF ?_;refine⟨rfl,?_⟩;rw[EX,aB aj,aG this]
 have h:A.length=B.length:=(by simp only[aC]at h;omega);conv=>whnf
 refine⟨rQ aA aA,?_⟩;conv=>whnf
 refine qV.of <| qM.inv (.refl _ _) (fun(n:Nat)=>n<=A.length/\A.drop n=B.drop n) (fun(n:Nat)=>[(5,.int .i64 ((n:Int)-1))]) (λ_=>_) (fun(n:Nat)=>n) A.length ?_ (λ_=>rfl) ?_ ?_;{exact⟨aS _,by rw[iY,h,iY]⟩}
 ·repeat' first|exact Zq|apply aI
  simp
 rintro n ⟨hn,hd⟩ _;conv=>whnf
 constructor<;>intro h0
 ·have h1:n-1<A.length:=aj;have h2:n-1<B.length:=aj;conv=>whnf
  refine ZR ?_;refine vC 0 (i:=n-1) aj h1 ?_;conv=>whnf
  refine vC 0 (i:=n-1) aj h2 ?_;rw[uX h1,uX h2];conv=>whnf
  have hd':A.drop (n-1+1)=B.drop (n-1+1):=(by rw[show n-1+1=n by omega];exact hd);constructor<;>intro h3
  ·(conv=>whnf);refine ZF ?_
   refine⟨rfl,?_⟩;rw[EX,aG (Y4 ua ub h1 h2 hd' h3)]
  conv=>whnf
  refine ZR ?_;refine vC 0 (i:=n-1) aj h1 ?_;conv=>whnf
  refine vC 0 (i:=n-1) aj h2 ?_;rw[uX h1,uX h2];conv=>whnf
  constructor<;>intro h4
  ·have:=Y4 ub ua h2 h1 hd'.symm h4;conv=>whnf
   refine ZF ?_;refine⟨rfl,?_⟩;rw[EX,aB aj,aG this]
  conv=>whnf
  refine ZG ?_;refine⟨n-1,?_,?_,?_⟩;{refine⟨aj,?_⟩;rw[aZ h1,aZ h2,hd'];congr 1;omega}
  ·repeat' first|exact Zq|apply aI
   omega
  omega
 have hn0:n=0:=aj;subst hn0;have hAB:A=B:=(by simpa using hd);conv=>whnf
 refine ZF ?_;refine⟨rfl,?_⟩;rw[EX,hAB,aB aj,aB aj]
theorem a7c(n:Nat)(h:n<2^63):ZQ 247 [.int .i64 n] [] (wL (wd n)) []:=by
 refine ZI Tryz.func247 λhok=>?_;conv=>whnf
 constructor<;>intro h0
 ·have hn:n=0:=aj;subst hn;conv=>whnf
  refine ZF ?_;rw[yt];rfl
 conv=>whnf
 refine⟨au,?_⟩;rw[Dv rfl];conv=>whnf
 rw[vM,vM];have hw:Ws [((n % 4294967296:Nat):Int),((n / 4294967296 % 4294967296:Nat):Int)]:=Ws.cons aj (Ws.cons aj Ws.nil);have hv:val [((n % 4294967296:Nat):Int),((n / 4294967296 % 4294967296:Nat):Int)]=n:=(by simp only[val];omega);have hc:=CU [((n % 4294967296:Nat):Int),((n / 4294967296 % 4294967296:Nat):Int)] ak;rw[hv]at hc;refine .zK hc ?_;exact ZH
theorem a9l{r x b:Nat}(hr:r<b)(hx:x<4294967296):(r*4294967296+x) / b<4294967296:=by rw[eY aj];have:(r+1)*4294967296<=b*4294967296:=bV _ aj;rw[dK 4294967296 b];omega
theorem b2P(a:List Int)(b:Nat)(hb:0<b/\b<4294967296)(hsz:a.length<=1000000) :
  ZQ 248 [wL a,.int .u32 b] [] (.uf [wL (wd (val a / b)),.int .u32 (val a % b:Nat)]) []:=by
 refine ZI Tryz.func248 λhok=>?_;have hw:Ws a:=Ws.ok hok.1.2;conv=>whnf
 refine⟨⟨aj,aj,aA,aA⟩,.wr ?_⟩;conv=>whnf
 refine⟨rQ aA aA,?_⟩;conv=>whnf
 refine qV.of <| qM.inv (.refl _ _) (λx:Nat×List Int=>x.1<=a.length/\x.2.length=a.length/\Ws x.2/\val (x.2.drop x.1)=val (a.drop x.1) / b)
  (fun|(n,_)=>[(8,.int .i64 ((n:Int)-1)),(7,.int .u64 (val (a.drop n) % b:Nat))]) (fun|(_,out)=>[(0,.arr 1 a.length (out.map (.int .u32)))]) (λx=>x.1) (a.length,List.replicate a.length 0) ?_ (λ_=>rfl) ?_ ?_
 ·refine⟨aS _,ak,?_,?_⟩;{intro x hx;rw[fG]at hx;rw[hx.2];omega};simp[val]
 ·refine Zv ?_ ?_
  ·repeat' first|exact Zq|apply aI
   ·simp
   simp[val]
  repeat' first|exact Zq|apply aI
  ·simp
  exact qY ak
 rintro⟨n,out⟩ ⟨hn,ho,hwo,hv⟩ _;simp only at hn ho hwo hv;have hr:val (a.drop n) % b<b:=gI _ hb.1;conv=>whnf
 constructor<;>intro h
 ·have h1:n-1<a.length:=aj;have hx:=hw.get h1;have hda:a.drop (n-1)=a[n-1]::a.drop n:=(by rw[aZ h1];congr 2;omega);obtain⟨x,hxx⟩:∃x:Nat,a[n-1]=x:=⟨(a[n-1]).toNat,aj⟩;have hval:val (a.drop (n-1))=x+4294967296*val (a.drop n):=(by rw[hda,val,hxx];simp);generalize hV:val (a.drop n)=V at *;generalize hR:V % b=r at *;have hq:(r*4294967296+x) / b<4294967296:=a9l hr aj;have key:x+4294967296*V=b*(4294967296*(V / b))+(r*4294967296+x):=by
   have:=jH V b;rw[hR]at this;conv=>lhs;rw[<- this]
   rw[dB,<- dA,dK 4294967296 b,dA];omega
  have b62:(x+4294967296*V) / b=(r*4294967296+x) / b+4294967296*(V / b):=(by rw[key,Nat.mul_add_div hb.1];omega);have b61:(x+4294967296*V) % b=(r*4294967296+x) % b:=(by rw[key,Nat.mul_add_mod]);obtain⟨q,hqq⟩:∃q,(r*4294967296+x) / b=q:=⟨_,rfl⟩;obtain⟨m,hmm⟩:∃m,(r*4294967296+x) % b=m:=⟨_,rfl⟩;have hm:m<b:=hmm ▸ gI _ hb.1;rw[hqq]at hq b62;rw[hmm]at b61;have hdo:(out.set (n-1) (q:Int)).drop (n-1)=(q:Int)::out.drop n:=(by rw[aZ (by rw[ni];omega)];rw[nD];congr 1;rw[List.drop_set_of_lt aj];congr 1;omega);conv=>whnf
  refine⟨au,?_⟩;rw[IY aj];conv=>whnf
  refine vC 0 (i:=n-1) aj h1 ?_;rw[uX h1,hxx];conv=>whnf
  rw[wrap_u64 (n:=(x:Int)) aj aj,P6 aj aj];conv=>whnf
  rw[wrap_u64 (n:=(b:Int)) aj aj];refine⟨aj,?_⟩;rw[VF,hqq];conv=>whnf
  rw[wrap_u64 (n:=(q:Int)) aj aj,wrap_u32 (n:=(q:Int)) aj aj];refine⟨⟨aj,aA⟩,?_⟩;conv=>whnf
  refine⟨aA,rfl,?_⟩;conv=>whnf
  rw[wrap_u64 (n:=(b:Int)) aj aj];refine⟨aj,?_⟩;rw[EI,hmm];conv=>whnf
  refine ZG ?_;refine⟨(n-1,out.set (n-1) q),?_,?_,?_⟩;{refine⟨by show n-1<=a.length;omega,by simpa using ho,?_,?_⟩;{intro y hy;rcases kQ hy with hy|rfl;{exact hwo y hy};omega};show val ((out.set (n-1) (q:Int)).drop (n-1))=val (a.drop (n-1)) / b;rw[hdo,val,hval,b62,hv];simp}
  ·refine Zv ?_ ?_
   ·repeat' first|exact Zq|apply aI
    ·omega
    rw[hval,b61]
   repeat' first|exact Zq|apply aI
   refine qY ?_;rw[dP];simp[strip]
  show n-1<n;omega
 have hn0:n=0:=aj;subst hn0;simp only[fD]at hv hr;have hcc:=CU out aj;rw[hv]at hcc;conv=>whnf
 refine .gen _ _ (qX.Xe 0 rfl rfl aA (qX.vU hcc ?_ ⟨rfl,rfl⟩)) λ_=>?_
 ·repeat' first|exact Zq|apply aI
  refine qY ?_;simp;rw[bf (by simp[ho])]
 conv=>whnf
 rw[fD,wrap_u32 aj aj];exact ZH
def b1k(x y:Nat):Prop:=ZQ 238 [wL (wd x),wL (wd y)] [] (.uf [wL (wd (x / y)),wL (wd (x % y)),.vJ]) []
theorem Dt{y:Nat}(h0:y≠0)(h:y<4294967296):wd y=[(y:Int)]:=by rw[BL h0,show y / 4294967296=0 by omega,yt,show y % 4294967296=y by omega]
theorem a6n(x y:Nat)(hx:(wd x).length<=1000000)(h0:y≠0)(hy:y<4294967296):b1k x y:=by
 unfold b1k;have c1:=CU (wd x) hx;rw[rU]at c1;have hyl:=Dt h0 hy;have c2:=CU (wd y) (by rw[hyl];simp);rw[rU]at c2;have c3:=a4y (wd x) (wd y) hx (by rw[hyl];simp);rw[rU,rU]at c3;refine ZI Tryz.func238 λhok=>?_;conv=>whnf
 refine .zK c1 ?_;refine .zK c2 ?_;refine⟨λh=>?_,λ_=>?_⟩;{exfalso;rw[hyl]at h;simp at h};conv=>whnf
 refine .zK c3 ?_;constructor<;>intro h
 ·have hlt:x<y:=by
   unfold EX at h;split at h
   ·assumption
   split at h <;> omega
  conv=>whnf
  refine ZF ?_;refine⟨?_,?_,rfl,trivial⟩;{rw[jL hlt,yt];rfl};rw[dS hlt];exact tV _
 rw[hyl];conv=>whnf
 refine⟨λ_=>?_,λh=>?_⟩
 ·conv=>whnf
  refine⟨⟨.int .u32 y,⟨au,rfl⟩,?_⟩⟩;have c4:=b2P (wd x) y ⟨aj,hy⟩ hx;rw[rU]at c4;conv=>whnf
  refine .zP c4 λ_=>?_;have hm:x % y<y:=gI _ aj;conv=>whnf
  rw[wrap64 (n:=((x % y:Nat):Int)) aj aj];refine .zK (a7c (x % y) aj) ?_;refine ZF ?_;exact⟨tV _,rM _⟩
 exfalso;simp at h
theorem sQ{x y:Nat}(h:x<=y):(wd x).length<=(wd y).length:=by apply aU;intro hn;have:=Iy (EH y) (EH x) (Y1 x) aj;rw[rU,rU]at this;omega
theorem b5j(a b:List Int)(ha:a.length<=1000000)(hb:b.length<=1000000)(hd:∀x y,y≠0->x<=max (val a) (val b)->y<=max (val a) (val b)->b1k x y) :
  ZQ 232 [wL a,wL b] [] (wL (wd (Nat.gcd (val a) (val b)))) []:=by
 refine ZI Tryz.func232 λhok=>?_;have wa:Ws a:=Ws.ok hok.1.2;have wb:Ws b:=Ws.ok hok.2.1.2;conv=>whnf
 refine .zK (CU a ha) ?_;refine .zK (CU b hb) ?_;refine qV.of <| qM.inv (.refl _ _) (fun(x:Nat×Nat)=>x.1<=max (val a) (val b)/\x.2<=max (val a) (val b)/\Nat.gcd x.1 x.2=Nat.gcd (val a) (val b)) (fun(x:Nat×Nat)=>[(0,wL (wd x.1)),(1,wL (wd x.2))]) (λ_=>_) (fun(x:Nat×Nat)=>x.2) (val a,val b) ?_ (λ_=>rfl) ?_ ?_;{exact⟨Nat.le_max_left _ _,Nat.le_max_right _ _,rfl⟩};{exact wk};rintro⟨x,y⟩ ⟨h1,h2,h3⟩ _;simp only at h1 h2 h3;conv=>whnf
 constructor<;>intro h
 ·have h0:y≠0:=(by intro e;subst e;rw[show((x,0):Nat×Nat).2=0 from rfl,yt]at h;simp at h);conv=>whnf
  refine .zP (hd x y h0 h1 h2) λ_=>?_;have hm:x % y<y:=gI _ aj;conv=>whnf
  refine⟨(y,x % y),?_,?_,?_⟩;{refine⟨h2,by show x % y<=_;omega,?_⟩;show Nat.gcd y (x % y)=_;rw[<- h3,mY x y,Nat.gcd_rec y x];try exact mY _ _};{exact wk};show x % y<y;exact hm
 have h0:y=0:=(by apply aU;intro hy;apply h;show(0:Int)<((wd y).map _).length;rw[BL hy];simp);subst h0;conv=>whnf
 refine ZF ?_;refine⟨rfl,qY ?_⟩;rw[<- h3,Nat.gcd_zero_right]
theorem a9O:ZQ 233 [] [] (wL [1]) []:=by
 refine ZI Tryz.func233 λhok=>?_;conv=>whnf
 exact ZH
theorem a7a(a:List Int)(ha:a.length<=1000000):ZQ 231 [wL a] [] (.bool (wK a)) []:=by
 refine ZI Tryz.func231 λhok=>?_;conv=>whnf
 constructor<;>intro h
 ·have h:0<a.length:=(by simp only[aC]at h;omega);conv=>whnf
  refine⟨rQ aA aA,?_⟩;conv=>whnf
  refine vC 0 (i:=a.length-1) aA aj ?_;conv=>whnf
  refine ZF ?_;have e:a.getD (a.length-1) 0=a.getLastD 0:=(by rw[iV,iW,aF]);rw[e];have hne:a≠[]:=jq.1 h;simp[wK,hne]
 have h:a=[]:=(by apply bT;simp only[aC]at h;omega);subst h;conv=>whnf
 refine ZF ?_;rfl
theorem b3j(r:Rat)(h1:r.num.length<=1000000)(h2:r.den.length<=1000000)(hg:¬(r.num=[]/\r.den=[])->ZQ 232 [wL r.num,wL r.den] [] (wL (wd (Nat.gcd (val r.num) (val r.den)))) []) :
  ZQ 195 [r.av] [] (.bool (valid r)) []:=by
 refine ZI Tryz.func195 λhok=>?_;have hw1:Ws r.num:=Ws.ok hok.1.2.1.2;have hw2:Ws r.den:=Ws.ok hok.1.2.2.1.2;have lg:(wd (Nat.gcd (val r.num) (val r.den))).length<=1000000:=(by have l1:=wu hw1;have l2:=wu hw2;by_cases h0:val r.num=0;{rw[h0,Nat.gcd_zero_left];omega};have:=sQ (kU (val r.den) (by omega:0<val r.num));omega);have tail:∀{e:Env} {H:Heap} {k:AV->Heap->Prop},True:=fun{_ _ _}=>trivial;clear tail;have c1:=a7a r.num h1;have c2:=a7a r.den h2;have c3:=a4y (wd (Nat.gcd (val r.num) (val r.den))) [1] lg ak;rw[rU]at c3;have v1:val [1]=1:=rfl;rw[v1]at c3;have hcmp:(EX (Nat.gcd (val r.num) (val r.den)) 1=0)↔Nat.gcd (val r.num) (val r.den)=1:=(by unfold EX;split;{omega};split <;> omega);conv=>whnf
 constructor<;>intro n1
 ·have n1:r.num=[]:=(by apply bT;simpa using n1);conv=>whnf
  constructor<;>intro n2
  ·have n2:r.den=[]:=by apply bT;simpa using n2
   (conv=>whnf);refine ZF ?_
   simp[valid,n1,n2]
  have n2:¬r.den=[]:=λe=>n2 (by rw[e];rfl);have hval:valid r=false:=(by simp[valid,n1,n2,wK]);have p1:wK r.num=false:=(by simp[n1,wK]);rw[hval];rw[p1]at c1;conv=>whnf
  refine .zK c1 ?_;constructor<;>intro h;{cases h};conv=>whnf
  exact ZH
 have n1:¬r.num=[]:=λe=>n1 (by rw[e];rfl);have hgc:=hg (λh=>n1 h.1);have hval:valid r=(wK r.num&&wK r.den&&decide (Nat.gcd (val r.num) (val r.den)=1)):=(by simp[valid,n1]);rw[hval];conv=>whnf
 refine .zK c1 ?_;constructor<;>intro p1
 ·conv=>whnf
  refine .zK c2 ?_;constructor<;>intro p2
  ·(conv=>whnf);refine .zK hgc ?_
   refine .zK a9O ?_;refine .zK c3 ?_;refine ZF ?_;rw[p1,p2];show _↔_;rw[hcmp];simp
  conv=>whnf
  refine ZF ?_;simp[p1,p2]
 conv=>whnf
 refine ZF ?_;simp[p1]
theorem Nw(r:Rat)(hv:ZQ 195 [r.av] [] (.bool (valid r)) []) :
  ZQ 199 [r.av] [] (if valid r=true/\r.num≠[]then .uf [.bool r.neg,wL r.num,wL r.den]else .uf [.bool false,wL [],wL [1]]) []:=by
 generalize hR:(if valid r=true/\r.num≠[]then AV.uf [.bool r.neg,wL r.num,wL r.den]else .uf [.bool false,wL [],wL [1]])=R;refine ZI Tryz.func199 λhok=>?_;conv=>whnf
 refine .zK hv ?_;constructor<;>intro p1
 ·have p1:valid r=false:=(by simpa using p1);rw[aB (by simp[p1])]at hR;subst hR;conv=>whnf
  refine .zK a9O ?_;exact ZH
 have p1:valid r=true:=(by simpa using p1);conv=>whnf
 constructor<;>intro p2
 ·have p2:r.num=[]:=(by apply bT;simpa using p2);rw[aB (by simp[p2])]at hR;subst hR;conv=>whnf
  refine .zK a9O ?_;exact ZH
 have p2:¬r.num=[]:=λe=>p2 (by rw[e];rfl);rw[aG ⟨p1,p2⟩]at hR;subst hR;conv=>whnf
 refine ZR ?_;exact ZH
theorem b5h(r:Rat)(hv:ZQ 195 [r.av] [] (.bool (valid r)) []):ZQ 205 [r.av] [] (.int .i64 (sign r)) []:=by
 have hp:=Nw r hv;refine ZI Tryz.func205 λhok=>?_;by_cases h:valid r=true/\r.num≠[]
 ·rw[aG h]at hp;conv=>whnf
  refine .zK hp ?_;refine⟨λp2=>?_,λ_=>?_⟩;{exfalso;apply h.2;apply bT;simpa using p2};conv=>whnf
  constructor<;>intro p2
  ·(conv=>whnf);refine ZF ?_
   refine⟨rfl,?_⟩;rw[sign,aG h,aG p2]
  conv=>whnf
  refine ZF ?_;refine⟨rfl,?_⟩;rw[sign,aG h,aB (by rw[p2];simp)]
 rw[aB h]at hp;conv=>whnf
 refine .zK hp ?_;refine aP (λ_=>?_) (λp2=>by exfalso;exact p2 rfl);conv=>whnf
 refine ZF ?_;refine⟨rfl,?_⟩;rw[sign,aB h]
theorem b5i(r:Rat)(h1:r.num.length<=1000000)(h2:r.den.length<=1000000)(hv:ZQ 195 [r.av] [] (.bool (valid r)) []):ZQ 126 [r.av] [] (.bool (yH r)) []:=by
 have hc:=a4y r.num r.den h1 h2;have hle:(EX (val r.num) (val r.den)<=0)↔val r.num<=val r.den:=(by unfold EX;split;{omega};split <;> omega);refine ZI Tryz.func126 λhok=>?_;conv=>whnf
 refine .zK hv ?_;constructor<;>intro p1
 ·conv=>whnf
  constructor<;>intro p2
  ·(conv=>whnf);refine .zK hc ?_
   refine ZF ?_;show _↔_;rw[hle];simp only[yH,p1,p2,jv,bW]
  conv=>whnf
  refine ZF ?_;simp[yH,p1,p2]
 conv=>whnf
 refine ZF ?_;simp[yH,p1]
theorem b6W(r:Rat)(h1:r.num.length<=1000000)(h2:r.den.length<=1000000)(hd:¬(r.num=[]/\r.den=[])->∀x y,y≠0->x<=max (val r.num) (val r.den)->y<=max (val r.num) (val r.den)->b1k x y):Px r:=by have hv:=b3j r h1 h2 λh=>b5j r.num r.den h1 h2 (hd h);exact⟨hv,b5h r hv,b5i r h1 h2 hv⟩
theorem RD:Px ⟨false,[],[]⟩:=b6W _ ak ak λh=>absurd ⟨rfl,rfl⟩ h
def YZ:Prop:=ZQ 175 [.int .i64 1] [] (Rat.av ⟨false,[1],[1]⟩) []
theorem bE(n:Nat)(e:Int):tq n (zu e)=true:=by unfold zu;split <;> rfl
def Fv:Nat->Nat->List Int
 | 0,_=>[]
 |k+1,x=>((x % 4294967296:Nat):Int)::Fv k (x / 4294967296)
theorem vK:∀k x,(Fv k x).length=k
 | 0,_=>rfl
 |k+1,x=>by simp[Fv,vK k]
theorem Iw:∀k x,Ws (Fv k x)
 | 0,_=>Ws.nil
 |k+1,x=>Ws.cons aj (Iw k _)
theorem a4M:∀{l:List Int},Ws l->Fv l.length (val l)=l
 | [],_=>rfl
 |x::l,h=>by have hx:=h.head;simp only[dW,Fv,val];rw[show(x.toNat+4294967296*val l) % 4294967296=x.toNat by omega,show(x.toNat+4294967296*val l) / 4294967296=val l by omega,a4M h.tail];congr 1;omega
theorem Ey:∀{k x:Nat},x<4294967296^k->val (Fv k x)=x
 | 0,x,h=>by simp at h;subst h;rfl
 |k+1,x,h=>by simp only[Fv,val];rw[Ey (k:=k) (by rw[eY aj];rw[bU]at h;exact h)];omega
theorem a4N{l:List Int}{k x:Nat}(hw:Ws l)(hl:l.length=k)(hv:val l=x):l=Fv k x:=by rw[<- hl,<- hv];exact(a4M hw).symm
theorem Jz:∀{l:List Int} {i:Nat} {x:Int} (h:i<l.length),val (l.set i x)+4294967296^i*(l[i]).toNat=val l+4294967296^i*x.toNat
 | [],_,_,h=>by simp at h
 |y::l,0,x,_=>by simp[val];omega
 |y::l,i+1,x,h=>by have:=Jz (l:=l) (i:=i) (x:=x) (by simpa using h);simp only[jT,val,mZ,bU];rw[dK (4294967296^i) 4294967296,dA,dA];omega
theorem b36{l:List Int}{i:Nat}(h:i<l.length):4294967296^i*(l[i]).toNat<=val l:=by rw[uI i aj,aZ h];simp only[val];have:4294967296^i*(l[i]).toNat<=4294967296^i*((l[i]).toNat+4294967296*val (l.drop (i+1))):=dn _ aj;omega
theorem Ws.set{l:List Int}(h:Ws l){i:Nat}{x:Int}(hx:0<=x/\x<4294967296):Ws (l.set i x):=by intro y hy;rcases kQ hy with hy|rfl;{exact h y hy};exact hx
theorem NS{l:List Int}{i:Nat}(h:i<l.length):val (l.take (i+1))=val (l.take i)+4294967296^i*(l[i]).toNat:=by rw[eP,aH h,val_append,bD,iw aj];simp[val]
theorem LQ(a:List Int)(i:Nat):ZQ 239 [wL a,.int .i64 i] [] (.int .u64 (a.getD i 0)) []:=by
 refine ZI Tryz.func239 λhok=>?_;have hw:Ws a:=Ws.ok hok.1.2;conv=>whnf
 constructor<;>intro h
 ·have h:i<a.length:=(by simp only[aC]at h;omega);conv=>whnf
  refine vC 0 rfl h ?_;conv=>whnf
  refine ZF ?_;have:=hw.getD (i:=i);exact⟨rfl,wrap_u64 aj aj⟩
 have h:a.length<=i:=(by simp only[aC]at h;omega);conv=>whnf
 refine ZF ?_;refine⟨rfl,?_⟩;rw[aF,gy h];rfl
theorem a5i{a n:Nat}(ha:a<4294967296)(hn:n<32):VN .u64 (a:Int) (n:Int)=((a*2^n:Nat):Int):=by
 unfold VN;have h1:min (n:Int).toNat (IntKind.bits .u64)=n:=by show min n 64=n;omega
 rw[h1];have h2:(a:Int)*2^n=((a*2^n:Nat):Int):=ak;rw[h2];have h3:2^n<=2^31:=bQ aj aj;have h4:a*2^n<=4294967295*2^31:=gY aj h3;exact wrap_u64 aj aj
theorem b4n{a b:Nat}(ha:a<2^32)(hb:b<2^32):Am .or .u32 (a:Int) (b:Int)=((a|||b:Nat):Int):=by
 simp only[Am];have e:∀x:Nat,BitVec.ofInt 32 (x:Int)=BitVec.ofNat 32 x:=by intro x;apply lK;simp
 have h1:(BitVec.ofInt 32 (a:Int)|||BitVec.ofInt 32 (b:Int)).toNat=a|||b:=(by rw[e,e,oI,gq,gq,dS ha,dS hb]);show IntKind.wrap .u32 ((BitVec.ofInt 32 (a:Int)|||BitVec.ofInt 32 (b:Int)).toNat:Int)=_;rw[h1];have:=jg ha hb;exact wrap_u32 aj aj
theorem b0B{h y n:Nat}(hn:n<32)(hh:h<2^n):h|||(y*2^n % 4294967296)=h+y*2^n % 4294967296:=by have e:(4294967296:Nat)=2^(32-n)*2^n:=(by rw[<- jd,show 32-n+n=32 by omega]);rw[e,nC];generalize y % 2^(32-n)=z;have:=lS (i:=n) hh z;rw[oq]at this;rw[Nat.or_comm,<- this];omega
theorem a3W{p g Y B v0 v1 v2 t u:Nat}(e1:v1+p*g=v0+p*t)(ht:t=g+Y % B)(e2:v2+p*B*u=v1+p*B*(Y / B))(hu:u=0):v2=v0+p*Y:=by subst ht;subst hu;have k1:p*(g+Y % B)=p*g+p*(Y % B):=dB _ _ _;have k2:p*Y=p*(Y % B)+p*B*(Y / B):=(by rw[dA,<- dB,jY]);have k3:p*B*0=0:=gB _;generalize p*(g+Y % B)=q1 at *;generalize p*B*(Y / B)=q2 at *;generalize p*(Y % B)=q3 at *;generalize p*Y=q4 at *;generalize p*B*0=q5 at *;generalize p*g=q6 at *;omega
theorem a8U{out:List Int}{i g Y:Nat}{vi vo X P:Nat}(h1:i<out.length)(h2:i+1<out.length)(hgg:out[i]=(g:Int))(hz:out.getD (i+1) 0=0)
  (hv:val out=vi*P) (hvt:vo=vi+4294967296^i*X) (hY:X*P=Y) :
  val ((out.set i ((g+Y % 4294967296:Nat):Int)).set (i+1) ((Y / 4294967296:Nat):Int))=vo*P:=by
 have e1:=Jz (x:=((g+Y % 4294967296:Nat):Int)) h1;have ho2:i+1<(out.set i ((g+Y % 4294967296:Nat):Int)).length:=(by simpa using h2);have e2:=Jz (x:=((Y / 4294967296:Nat):Int)) ho2;rw[uX h2]at hz;rw[List.getElem_set_ne aj,hz,bU]at e2;rw[hgg]at e1;have e3:=a3W e1 rfl e2 rfl;rw[e3,hvt,dw,dA,hY,hv]
theorem b05(a:List Int)(n:Nat)(hn:n<32)(hsz:a.length<=1000000) :
  ZQ 250 [wL a,.int .i64 n] [] (.ms 0 0 (a.length+1) (a.length+1) 1) [(0,.arr 1 (a.length+1) ((Fv (a.length+1) (val a*2^n)).map (.int .u32)))]:=by
 refine ZI Tryz.func250 λhok=>?_;have hw:Ws a:=Ws.ok hok.1.2;conv=>whnf
 refine⟨rQ aA aA,?_⟩;conv=>whnf
 refine⟨⟨aA,aj,aA,aA⟩,.wr ?_⟩;conv=>whnf
 refine qV.of <| qM.inv (.refl _ _) (λx:Nat×List Int=>x.1<=a.length/\x.2.length=a.length+1/\Ws x.2/\val x.2=val (a.take x.1)*2^n/\∀k,x.1<k->x.2.getD k 0=0)
  (fun|(i,_)=>[(15,.int .i64 i)]) (fun|(_,out)=>[(0,.arr 1 (a.length+1) (out.map (.int .u32)))]) (λx=>a.length-x.1) (0,List.replicate (a.length+1) 0) ?_ (λ_=>rfl) ?_ ?_
 ·refine⟨aO _,ak,?_,?_,?_⟩;{intro x hx;rw[fG]at hx;rw[hx.2];omega};{rw[CZ (λx hx=>(fG.1 hx).2)];simp[val]};intro k _;rw[aF,eU];split <;> rfl
 ·refine Zv wk ?_;repeat' first|exact Zq|apply aI
  all_goals first|(simp;done)|exact qY ak
 rintro⟨i,out⟩ ⟨hi,ho,hwo,hv,hz⟩ _;simp only at hi ho hwo hv hz;conv=>whnf
 constructor<;>intro h
 ·have hlt:i<a.length:=(by simpa using h);have hx:=hw.get hlt;have hvt:=NS hlt;obtain⟨x,hxx⟩:∃x:Nat,a[i]=x:=⟨(a[i]).toNat,aj⟩;rw[hxx]at hvt hx;simp only[aJ]at hvt;have h1:i<out.length:=aj;have hg:=hwo.get h1;have hge:=b36 h1;obtain⟨g,hgg⟩:∃g:Nat,out[i]=g:=⟨(out[i]).toNat,aj⟩;rw[hgg]at hg hge;simp only[aJ]at hge;have hlow:val (a.take i)<4294967296^i:=(by have:=wJ (hw.take i);rw[bD,iw aj]at this;exact this);have hp:0<2^n:=jF n;have hgn:g<2^n:=(by have h2:4294967296^i*g<4294967296^i*2^n:=(by have:=gu hlow hp;omega);exact Nat.lt_of_mul_lt_mul_left h2);have hn31:2^n<=2^31:=bQ aj aj;have hy:x*2^n<=4294967295*2^31:=gY aj hn31;conv=>whnf
  refine rV hlt ?_;rw[hxx];conv=>whnf
  rw[wrap_u64 (n:=(x:Int)) aj aj];refine⟨aj,?_⟩;rw[a5i aj hn];conv=>whnf
  refine⟨⟨aj,aA⟩,?_⟩;conv=>whnf
  refine vC 0 (i:=i) aj h1 ?_;rw[uX h1,hgg];refine⟨rfl,?_⟩;conv=>whnf
  refine⟨⟨aj,aA⟩,?_⟩;rw[vM,b4n aj aj,b0B hn hgn];have hylt:x*2^n % 4294967296+g<4294967296:=(by have h3:g|||(x*2^n % 4294967296)<2^32:=jg aj aj;rw[b0B hn hgn]at h3;omega);generalize hY:x*2^n=Y at *;conv=>whnf
  refine⟨aA,rfl,?_⟩;conv=>whnf
  refine ZG ?_;refine⟨au,?_⟩;rw[Dv rfl];conv=>whnf
  refine⟨⟨aj,aA⟩,?_⟩;rw[wrap_u32 (n:=((Y / 4294967296:Nat):Int)) aj aj];conv=>whnf
  refine⟨aA,rfl,?_⟩;conv=>whnf
  refine ZG ?_;refine⟨(i+1,(out.set i ((g+Y % 4294967296:Nat):Int)).set (i+1) ((Y / 4294967296:Nat):Int)),?_,?_,?_⟩;{refine⟨hlt,by simpa using ho,(hwo.set aj).set aj,?_,?_⟩;{show val ((out.set i ((g+Y % 4294967296:Nat):Int)).set (i+1) ((Y / 4294967296:Nat):Int))=val (a.take (i+1))*2^n;exact a8U (X:=x) h1 aj hgg (hz (i+1) aj) hv hvt hY};intro k hk;have hk:i+1<k:=hk;have:=hz k aj;rw[aF]at this ⊢;rw[je aj,je aj];exact this}
  ·refine Zv wk ?_;repeat' first|exact Zq|apply aI
   refine qY ?_;rw[dP,dP];simp[strip]
  show a.length-(i+1)<a.length-i;omega
 have hil:i=a.length:=(by have:¬i<a.length:=(by simpa using h);omega);subst hil;rw[bg]at hv;conv=>whnf
 refine⟨⟨_,_,.refl _ _,?_⟩⟩;conv=>whnf
 refine Zx ?_ ?_;{show AV.ms _ _ _ _ _=_;simp;exact⟨rfl,rfl⟩};repeat' first|exact Zq|apply aI
 refine qY ?_;rw[a4N hwo ho hv]
theorem a0W:∀{k x i:Nat} (_:i<k),(Fv k x).getD i 0=((x / 4294967296^i % 4294967296:Nat):Int)
 | 0,_,_,h=>aj
 |k+1,x,0,_=>by simp[Fv]
 |k+1,x,i+1,h=>by have:=a0W (k:=k) (x:=x / 4294967296) (i:=i) aj;simp only[Fv,List.getD_cons_succ];rw[this,iJ,bU,dK (4294967296^i)]
theorem b0t{l:List Int}{k x:Nat}(hl:l.length=k)(h:∀i,i<k->l.getD i 0=((x / 4294967296^i % 4294967296:Nat):Int)):l=Fv k x:=by apply lN;{rw[hl,vK]};intro i h1 h2;have e1:=h i aj;have e2:=a0W (k:=k) (x:=x) (i:=i) aj;rw[uX h1]at e1;rw[uX h2]at e2;rw[e1,e2]
theorem KN{l:List Int}(hw:Ws l)(i:Nat):val l / 4294967296^i=val (l.drop i):=by by_cases h:i<=l.length;{have e:=uI (l:=l) i h;have h1:=wJ (hw.take i);rw[bD,iw h]at h1;rw[e,kJ _ _ (gK aj),jL h1,bC]};have h0:=wJ hw;have h2:4294967296^l.length<=4294967296^i:=bQ aj aj;rw[jL aj,aX aj];rfl
theorem Ce(l:List Int)(i:Nat):val (l.drop i)=(l.getD i 0).toNat+4294967296*val (l.drop (i+1)):=by by_cases h:i<l.length;{rw[aZ h,uX h];rfl};rw[aX aj,aX aj,aF,gy aj];rfl
theorem VY{l:List Int}(hw:Ws l){i n:Nat}(hn:n<32) :
  (((l.getD (i+1) 0).toNat*4294967296+(l.getD i 0).toNat) / 2^n) % 4294967296=val l / 2^n / 4294967296^i % 4294967296:=by
 rw[iJ,dK (2^n),<- iJ,KN hw,Ce l i,Ce l (i+1)];generalize (l.getD (i+1) 0).toNat=y;generalize (l.getD i 0).toNat=x;generalize val (l.drop (i+1+1))=z;have e:(4294967296:Nat)=2^n*2^(32-n):=(by rw[<- jd,show n+(32-n)=32 by omega]);have h:x+4294967296*(y+4294967296*z)=(y*4294967296+x)+2^n*(2^(32-n)*4294967296*z):=(by have:2^n*(2^(32-n)*4294967296*z)=4294967296*(4294967296*z):=(by rw[<- dA,<- dA,<- e,dA]);omega);rw[h,kJ _ _ (jF n)];rw[dK (2^(32-n)),dA,kP]
theorem a5g{a n:Nat}(hn:n<64):KG .u64 (a:Int) (n:Int)=((a / 2^n:Nat):Int):=by
 unfold KG;have h1:min (n:Int).toNat (IntKind.bits .u64)=n:=by show min n 64=n;omega
 rw[h1];rw[iM _ (by have:=Int.pow_pos (n:=(2:Int)) (m:=n) au;omega)];simp
theorem a2l{a b:Nat}(ha:a<4294967296)(hb:b<4294967296):Am .or .u64 (b:Int) ((a*4294967296:Nat):Int)=((a*4294967296+b:Nat):Int):=by rw[<- P6 ha hb,a2m aj aj,a2m aj aj,Nat.or_comm]
theorem b2T(a:List Int)(n:Nat)(hn:n<32)(hsz:a.length<=1000000) :
  ZQ 253 [wL a,.int .i64 n] [] (.ms 0 0 a.length a.length 1) [(0,.arr 1 a.length ((Fv a.length (val a / 2^n)).map (.int .u32)))]:=by
 refine ZI Tryz.func253 λhok=>?_;have hw:Ws a:=Ws.ok hok.1.2;conv=>whnf
 refine⟨⟨ak,aj,aA,aA⟩,.wr ?_⟩;conv=>whnf
 refine qV.of <| qM.inv (.refl _ _) (λx:Nat×List Int=>x.1<=a.length/\x.2.length=a.length/\∀k,k<x.1->x.2.getD k 0=((val a / 2^n / 4294967296^k % 4294967296:Nat):Int))
  (fun|(i,_)=>[(12,.int .i64 i)]) (fun|(_,out)=>[(0,.arr 1 a.length (out.map (.int .u32)))]) (λx=>a.length-x.1) (0,List.replicate a.length 0) ?_ (λ_=>rfl) ?_ ?_
 ·refine⟨aO _,ak,?_⟩;intro k hk;exact absurd hk (gJ _)
 ·refine Zv wk ?_;repeat' first|exact Zq|apply aI
  all_goals first|(simp;done)|exact qY ak
 rintro⟨i,out⟩ ⟨hi,ho,hz⟩ _;simp only at hi ho hz;conv=>whnf
 constructor<;>intro h
 ·have hlt:i<a.length:=(by simpa using h);conv=>whnf
  refine .gen _ _ (qX.frame [] (LQ a i) ⟨rfl,rfl,rfl,rfl⟩ trivial (rM _)) λ_=>?_;conv=>whnf
  refine ZG ?_;refine .gen _ _ (qX.frame [] (LQ a (i+1)) ⟨rfl,rfl,rfl,rfl⟩ trivial (rM _)) λ_=>?_;have hx:=hw.getD (i:=i);have hy:=hw.getD (i:=i+1);have hrw:=VY hw (i:=i) hn;generalize a.getD i 0=x0 at *;generalize a.getD (i+1) 0=y0 at *;obtain⟨x,rfl⟩:∃x:Nat,x0=x:=⟨x0.toNat,aj⟩;obtain⟨y,rfl⟩:∃y:Nat,y0=y:=⟨y0.toNat,aj⟩;simp only[aJ]at hrw;conv=>whnf
  refine⟨au,?_⟩;rw[IY aj];conv=>whnf
  refine⟨aj,?_⟩;rw[a2l aj aj,a5g aj];conv=>whnf
  refine⟨⟨aj,aA⟩,?_⟩;rw[vM,hrw];conv=>whnf
  refine⟨aA,rfl,?_⟩;conv=>whnf
  refine ZG ?_;refine⟨(i+1,out.set i ((val a / 2^n / 4294967296^i % 4294967296:Nat):Int)),?_,?_,?_⟩;{refine⟨hlt,by simpa using ho,?_⟩;intro k hk;have hk:k<i+1:=hk;show(out.set i ((val a / 2^n / 4294967296^i % 4294967296:Nat):Int)).getD k 0=_;by_cases hki:k=i;{subst hki;rw[uX aA,nD]};rw[aF,je aj,<- aF];exact hz k aj}
  ·refine Zv wk ?_;repeat' first|exact Zq|apply aI
   refine qY ?_;rw[dP];simp[strip]
  show a.length-(i+1)<a.length-i;omega
 have hia:i=a.length:=(by have:¬i<a.length:=(by simpa using h);omega);subst hia;conv=>whnf
 refine⟨⟨_,_,.refl _ _,?_⟩⟩;conv=>whnf
 refine Zx ?_ ?_;{show AV.ms _ _ _ _ _=_;simp;exact⟨rfl,rfl⟩};repeat' first|exact Zq|apply aI
 refine qY ?_;rw[b0t ho hz]
def mid(us:List Int)(off:Nat)(s:List Int):List Int:=us.take off++(s++us.drop (off+s.length))
theorem UM{us s:List Int}{off:Nat}(h:off+s.length<=us.length):(mid us off s).length=us.length:=by simp only[mid,bn,bD,fQ];omega
theorem a5J{us:List Int}{off:Nat}:mid us off []=us:=by simp[mid]
theorem a5K{us s:List Int}{off:Nat}(h:off+s.length<us.length):(mid us off s).getD (off+s.length) 0=us.getD (off+s.length) 0:=by simp only[mid,aF];rw[dJ aA,dJ aA,gZ];congr 2;simp only[bD];omega
theorem a5I{us s:List Int}{off:Nat}{y:Int}(h:off+s.length<us.length):(mid us off s).set (off+s.length) y=mid us off (s++[y]):=by simp only[mid];have h1:(us.take off).length=off:=aA;rw[kC _ _ aj,h1,show off+s.length-off=s.length by omega,kC _ _ aj,gV,aZ h];simp only[List.set_cons_zero,bP,bn,jC];rfl
theorem a2o{us s:List Int}{off:Nat}(hu:Ws us)(hs:Ws s):Ws (mid us off s):=(hu.take _).append (hs.append (hu.drop _))
theorem VI{x low b:Nat}(hx:x<4294967296)(hl:low<4294967296)(hb:b<=1) :
  ∃D:Nat,IntKind.wrap .u64 (IntKind.wrap .u64 ((x:Int)-(low:Int))-(b:Int))=(D:Int)/\D<18446744073709551616/\D / 9223372036854775808<=1/\x+4294967296*(D / 9223372036854775808)=D % 4294967296+low+b:=by
 have hw:∀z:Int,IntKind.wrap .u64 z=z % 18446744073709551616:=(by intro z;simp[IntKind.wrap,IntKind.bits,IntKind.signed]);rw[hw,hw];refine⟨((((x:Int)-(low:Int)) % 18446744073709551616-(b:Int)) % 18446744073709551616).toNat,?_,?_,?_,?_⟩ <;> omega
theorem a5h{a:Nat}:KG .u64 (a:Int) 63=((a / 9223372036854775808:Nat):Int):=by unfold KG;have h1:min (63:Int).toNat (IntKind.bits .u64)=63:=au;rw[h1];rw[iM _ au];simp
theorem a3H{p B n w x y c c' b b' low vs s nv:Nat}(h1:x+B*b'=y+low+b)(h2:c+n*w=low+B*c')(h:vs+p*(b+c)=s+nv) :
  vs+p*x+p*B*(b'+c')=s+p*y+(nv+p*(n*w)):=by
 have e1:p*(x+B*b')=p*(y+low+b):=(by rw[h1]);have e2:p*(c+n*w)=p*(low+B*c'):=(by rw[h2]);rw[dB,dB,dB,<- dA]at e1;rw[dB,dB p low,<- dA p B]at e2;rw[dB]at h;rw[dB (p*B)];omega
theorem sN{l:List Int}{i:Nat}:val (l.take (i+1))=val (l.take i)+4294967296^i*(l.getD i 0).toNat:=by by_cases h:i<l.length;{rw[NS h,uX h]};rw[bf aj,bf aj,aF,gy aj];simp
theorem a4j{p B a n w c:Nat}(hp:0<p)(h:c=a / p):(c+n*w) / B=(a+p*(n*w)) / (p*B):=by rw[<- iJ,kJ _ _ hp,h]
theorem a9z{B n v p:Nat}(hn:n<=B)(hv:v<p)(hB:0<B):n*v / p<B:=by rw[eY aj];have h1:n*v<=B*v:=bV _ hn;have h2:B*v<B*p:=Nat.mul_lt_mul_of_pos_left hv hB;omega
def takeN(x y k:Nat):Nat:=if x<y then x+4294967296^k-y else x-y
theorem a6O(us v:List Int)(off cap n:Nat)(hus:Ws us)(ho:off+v.length+1<=us.length)(hn:n<=4294967296)(hsz:us.length<=2000000)
  (hlim:n*val v<4294967296^(v.length+1)) :
  ZQ 251 [.ms 0 off (v.length+1) cap 1,wL v,.int .u64 n] [(0,.arr 1 us.length (us.map (.int .u32)))]
   (.dec (val ((us.drop off).take (v.length+1))<n*val v))
   [(0,.arr 1 us.length ((mid us off (Fv (v.length+1) (takeN (val ((us.drop off).take (v.length+1))) (n*val v) (v.length+1)))).map (.int .u32)))]:=by
 refine ZI Tryz.func251 λhok=>?_;have hw:Ws v:=Ws.ok hok.2.1.2;conv=>whnf
 refine qV.of <| qM.inv (.refl _ _) (λx:Nat×Nat×Nat×List Int×List Int=>x.1<=v.length+1/\x.2.2.1<=1/\x.2.1=n*val (v.take x.1) / 4294967296^x.1/\Ws x.2.2.2.1/\x.2.2.2.1.length=x.1/\x.2.2.2.2=mid us off x.2.2.2.1 /\
   val ((us.drop off).take x.1)+4294967296^x.1*(x.2.2.1+x.2.1)=val x.2.2.2.1+n*val (v.take x.1))
  (fun|(i,c,b,_)=>[(13,.int .i64 i),(8,.int .u64 b),(7,.int .u64 c)]) (fun|(_,_,_,_,M)=>[(0,.arr 1 us.length (M.map (.int .u32)))])
  (λx=>v.length+1-x.1) (0,0,0,[],us) ?_ (λ_=>rfl) ?_ ?_
 ·refine⟨aO _,ak,?_,Ws.nil,rfl,?_,?_⟩;{simp[val]};{simp[a5J]};simp[val]
 ·refine Zv wk ?_;repeat' first|exact Zq|apply aI
  all_goals first|(simp;done)|exact qY ak
 rintro⟨i,c,b,s,M⟩ ⟨hi,hb,hc,hws,hsl,hM,hv⟩ _;simp only at hi hb hc hws hsl hM hv;conv=>whnf
 constructor<;>intro h
 ·have hlt:i<v.length+1:=aj;have hML:M.length=us.length:=(by rw[hM,UM aj]);conv=>whnf
  refine .gen _ _ (qX.frame [] (LQ v i) ⟨rfl,rfl,rfl,rfl⟩ trivial (rM _)) λ_=>?_;have hwd:=hw.getD (i:=i);have hvt:=sN (l:=v) (i:=i);generalize v.getD i 0=w0 at *;obtain⟨w,rfl⟩:∃w:Nat,w0=w:=⟨w0.toNat,aj⟩;rw[aJ]at hvt;have hlow:val (v.take i)<4294967296^i:=(by have h1:=wJ (hw.take i);have h2:4294967296^(v.take i).length<=4294967296^i:=bQ aj aA;omega);have hcl:c<4294967296:=(by rw[hc];exact a9z hn hlow aj);have hnw:n*w<=4294967296*4294967295:=gY hn aj;have hi2:off+i<M.length:=aj;have hg:M.getD (off+i) 0=us.getD (off+i) 0:=(by rw[hM,<- hsl];exact a5K aj);have hx:=hus.getD (i:=off+i);have hut:=sN (l:=us.drop off) (i:=i);rw[show(us.drop off).getD i 0=us.getD (off+i) 0 by simp only[aF,gZ]]at hut;generalize us.getD (off+i) 0=x0 at *;obtain⟨x,rfl⟩:∃x:Nat,x0=x:=⟨x0.toNat,aj⟩;rw[aJ]at hut;conv=>whnf
  rw[show((n:Int)*(w:Int))=((n*w:Nat):Int)from(lU n w).symm,wrap_u64 (n:=((n*w:Nat):Int)) aj aj];rw[show((c:Int)+((n*w:Nat):Int))=((c+n*w:Nat):Int)from(iC c (n*w)).symm,wrap_u64 (n:=((c+n*w:Nat):Int)) aj aj];generalize hC:c+n*w=C at *;conv=>whnf
  refine⟨⟨jA _,nX.2 hlt⟩,?_⟩;conv=>whnf
  refine vC 0 (i:=off+i) aj hi2 ?_;rw[hg];refine⟨rfl,?_⟩;conv=>whnf
  rw[vM (a:=C),wrap_u64 (n:=(x:Int)) aj aj];have hCd:=jY C 4294967296;have hlo:C % 4294967296<4294967296:=gI _ au;generalize C % 4294967296=lo at *;rw[wrap_u64 (n:=(lo:Int)) aj aj];obtain⟨D,hD,hD1,hD2,hD3⟩:=VI (x:=x) (low:=lo) (b:=b) aj aj hb;rw[hD,vM (a:=D)];have hy:D % 4294967296<4294967296:=gI _ au;generalize D % 4294967296=y at *;refine⟨⟨jA _,nX.2 hlt⟩,?_⟩;dsimp only[Cm];rw[Hu];dsimp only[zV];dsimp only[O6,xH];conv=>whnf
  refine⟨by rw[aC];omega,rfl,?_⟩;conv=>whnf
  refine⟨au,?_⟩;rw[a5h];conv=>whnf
  refine⟨au,?_⟩;rw[Dv rfl];conv=>whnf
  refine ZG ?_;refine⟨(i+1,C / 4294967296,D / 9223372036854775808,s++[(y:Int)],M.set (off+i) (y:Int)),?_,?_,?_⟩;{refine⟨hlt,hD2,?_,hws.append (Ws.cons aj Ws.nil),by simp[hsl],?_,?_⟩;{show C / 4294967296=n*val (v.take (i+1)) / 4294967296^(i+1);rw[hvt,dB,lD n,bU,<- hC];exact a4j (gK aj) hc};{show M.set (off+i) (y:Int)=mid us off (s++[(y:Int)]);rw[hM,<- hsl];exact a5I aj};show val ((us.drop off).take (i+1))+4294967296^(i+1)*(D / 9223372036854775808+C / 4294967296)=val (s++[(y:Int)])+n*val (v.take (i+1));have e1:val (s++[(y:Int)])=val s+4294967296^i*y:=(by rw[val_append,hsl];simp[val]);rw[hut,hvt,e1,dB n,lD n,bU];exact a3H hD3 aj hv}
  ·refine Zv wk ?_;repeat' first|exact Zq|apply aI
   refine qY ?_;rw[dP];simp[strip]
  show v.length+1-(i+1)<v.length+1-i;omega
 have hia:i=v.length+1:=aj;subst hia;rw[bf (l:=v) aj]at hc hv;rw[jL hlim]at hc;subst hc;have hsg:=wJ ((hus.drop off).take (v.length+1));rw[bD,fQ,iw aj]at hsg;have hvs:=wJ hws;rw[hsl]at hvs;have hfin:(((b:Int)=1)=(val ((us.drop off).take (v.length+1))<n*val v))/\val s=takeN (val ((us.drop off).take (v.length+1))) (n*val v) (v.length+1):=(by unfold takeN;generalize val ((us.drop off).take (v.length+1))=sg at *;generalize 4294967296^(v.length+1)=P at *;generalize n*val v=nv at *;have hb2:b=0\/b=1:=aj;rcases hb2 with rfl|rfl;{rw[dU,gB]at hv;refine⟨?_,?_⟩;{exact propext ⟨λh=>aj,λh=>aj⟩};split <;> omega};rw[dU,iP]at hv;refine⟨?_,?_⟩;{exact propext ⟨λh=>aj,λh=>aj⟩};split <;> omega);have hse:=a4N hws hsl hfin.2;conv=>whnf
 refine⟨⟨_,_,.refl _ _,?_⟩⟩;conv=>whnf
 refine Zx ?_ ?_;{rw[hfin.1];exact le_refl _};repeat' first|exact Zq|apply aI
 refine qY ?_;rw[hM,hse]
theorem a3Z{p B c c' x w y vs s nv:Nat}(h1:c+(x+w)=y+B*c')(h:vs+nv=s+p*c) :
  vs+p*x+(nv+p*w)=s+p*y+p*B*c':=by
 have e1:p*(c+(x+w))=p*(y+B*c'):=(by rw[h1]);rw[dB,dB,dB,<- dA]at e1;omega
theorem a7h(us v:List Int)(off cap:Nat)(hus:Ws us)(ho:off+v.length+1<=us.length)(hsz:us.length<=2000000) :
  ZQ 252 [.ms 0 off (v.length+1) cap 1,wL v] [(0,.arr 1 us.length (us.map (.int .u32)))]
   (.uf [])
   [(0,.arr 1 us.length ((mid us off (Fv (v.length+1) ((val ((us.drop off).take (v.length+1))+val v) % 4294967296^(v.length+1)))).map (.int .u32)))]:=by
 refine ZI Tryz.func252 λhok=>?_;have hw:Ws v:=Ws.ok hok.2.1.2;conv=>whnf
 refine qV.of <| qM.inv (.refl _ _) (λx:Nat×Nat×List Int×List Int=>x.1<=v.length+1/\x.2.1<=1/\Ws x.2.2.1/\x.2.2.1.length=x.1/\x.2.2.2=mid us off x.2.2.1 /\
   val ((us.drop off).take x.1)+val (v.take x.1)=val x.2.2.1+4294967296^x.1*x.2.1)
  (fun|(i,c,_)=>[(8,.int .i64 i),(4,.int .u64 c)]) (fun|(_,_,_,M)=>[(0,.arr 1 us.length (M.map (.int .u32)))])
  (λx=>v.length+1-x.1) (0,0,[],us) ?_ (λ_=>rfl) ?_ ?_
 ·refine⟨aO _,ak,Ws.nil,rfl,?_,?_⟩;{simp[a5J]};simp[val]
 ·refine Zv wk ?_;repeat' first|exact Zq|apply aI
  all_goals first|(simp;done)|exact qY ak
 rintro⟨i,c,s,M⟩ ⟨hi,hb,hws,hsl,hM,hv⟩ _;simp only at hi hb hws hsl hM hv;conv=>whnf
 constructor<;>intro h
 ·have hlt:i<v.length+1:=aj;have hML:M.length=us.length:=(by rw[hM,UM aj]);have hwd:=hw.getD (i:=i);have hvt:=sN (l:=v) (i:=i);have cw:=LQ v i;generalize v.getD i 0=w0 at *;obtain⟨w,rfl⟩:∃w:Nat,w0=w:=⟨w0.toNat,aj⟩;rw[aJ]at hvt;have hi2:off+i<M.length:=aj;have hg:M.getD (off+i) 0=us.getD (off+i) 0:=(by rw[hM,<- hsl];exact a5K aj);have hx:=hus.getD (i:=off+i);have hut:=sN (l:=us.drop off) (i:=i);rw[show(us.drop off).getD i 0=us.getD (off+i) 0 by simp only[aF,gZ]]at hut;generalize us.getD (off+i) 0=x0 at *;obtain⟨x,rfl⟩:∃x:Nat,x0=x:=⟨x0.toNat,aj⟩;rw[aJ]at hut;conv=>whnf
  refine ZR ?_;refine⟨⟨jA _,nX.2 hlt⟩,?_⟩;conv=>whnf
  refine vC 0 (i:=off+i) aj hi2 ?_;rw[hg];refine⟨rfl,?_⟩;conv=>whnf
  refine .zK cw ?_;rw[wrap_u64 (n:=(x:Int)) aj aj];rw[show((x:Int)+(w:Int))=((x+w:Nat):Int)from(iC x w).symm,wrap_u64 (n:=((x+w:Nat):Int)) aj aj];rw[show((c:Int)+((x+w:Nat):Int))=((c+(x+w):Nat):Int)from(iC c (x+w)).symm,wrap_u64 (n:=((c+(x+w):Nat):Int)) aj aj];generalize hC:c+(x+w)=C at *;conv=>whnf
  rw[vM (a:=C)];have hCd:=jY C 4294967296;have hlo:C % 4294967296<4294967296:=gI _ au;generalize C % 4294967296=y at *;refine⟨⟨jA _,nX.2 hlt⟩,?_⟩;dsimp only[Cm];rw[Hu];dsimp only[zV];dsimp only[O6,xH];conv=>whnf
  refine⟨by rw[aC];omega,rfl,?_⟩;conv=>whnf
  refine⟨au,?_⟩;rw[Dv rfl];conv=>whnf
  refine ZG ?_;refine⟨(i+1,C / 4294967296,s++[(y:Int)],M.set (off+i) (y:Int)),?_,?_,?_⟩;{refine⟨hlt,(by omega:C / 4294967296<=1),hws.append (Ws.cons aj Ws.nil),by simp[hsl],?_,?_⟩;{show M.set (off+i) (y:Int)=mid us off (s++[(y:Int)]);rw[hM,<- hsl];exact a5I aj};show val ((us.drop off).take (i+1))+val (v.take (i+1))=val (s++[(y:Int)])+4294967296^(i+1)*(C / 4294967296);have e1:val (s++[(y:Int)])=val s+4294967296^i*y:=(by rw[val_append,hsl];simp[val]);rw[hut,hvt,e1,bU];exact a3Z aj hv}
  ·refine Zv wk ?_;repeat' first|exact Zq|apply aI
   refine qY ?_;rw[dP];simp[strip]
  show v.length+1-(i+1)<v.length+1-i;omega
 have hia:i=v.length+1:=aj;subst hia;rw[bf (l:=v) aj]at hv;have hvs:=wJ hws;rw[hsl]at hvs;have hfin:val s=(val ((us.drop off).take (v.length+1))+val v) % 4294967296^(v.length+1):=(by rw[hv,kP,dS hvs]);have hse:=a4N hws hsl hfin;conv=>whnf
 refine⟨⟨_,_,.refl _ _,?_⟩⟩;conv=>whnf
 refine⟨trivial,rfl,by simp[nextId],.mk ?_ ⟨ak,trivial⟩⟩;repeat' first|exact Zq|apply aI
 refine qY ?_;rw[hM,hse]
theorem a9b{B p V s top next head u2 guess rest:Nat}(hV:(top*B+next)*p<=V)(hs:s<(head*B+u2+1)*p)
  (hg:guess*top+rest=head) (hc:rest*B+u2<guess*next):s / V<guess:=by
 apply aU;intro hn;have h1:guess*V<=s:=(by have:guess*V<=(s / V)*V:=bV _ aj;exact dH this (jm s V));have h2:guess*((top*B+next)*p)<(head*B+u2+1)*p:=Nat.lt_of_le_of_lt (dH (dn _ hV) h1) hs;rw[<- dA]at h2;have h3:=iI h2;have h4:guess*(top*B+next)=guess*top*B+guess*next:=by rw[dB,dA]
 have h5:head*B=guess*top*B+rest*B:=(by rw[<- hg,dw]);omega
theorem a2E{p V s top head:Nat}(ht:0<top)(hV:top*p<=V)(hs:s<(head+1)*p):s / V<=head / top:=by rw[ku ht];apply aU;intro hn;have h1:(head+1)*p<=s / V*top*p:=bV _ aj;have h2:s / V*top*p<=s / V*V:=(by rw[dA];exact dn _ hV);have h3:=jm s V;omega
theorem Xb{B p V s top next head u2 guess rest:Nat}(hB:0<B)(hp:0<p)(ht:0<top)(hV1:(top*B+next)*p<=V)(hV:V<(top*B+next+1)*p)(hs:(head*B+u2)*p<=s)
  (hg:guess*top+rest=head) (hc:guess*next<=rest*B+u2) (hgB:guess<B):guess<=s / V+1:=by
 have hV0:0<V:=(by have:0<(top*B+next)*p:=Nat.mul_pos (by have:=Nat.mul_pos ht hB;omega) hp;omega);have h1:guess*(top*B+next)<=head*B+u2:=by
  have h4:guess*(top*B+next)=guess*top*B+guess*next:=by rw[dB,dA]
  have h5:head*B=guess*top*B+rest*B:=(by rw[<- hg,dw]);omega
 have h2:guess*(top*B+next)*p<=s:=dH (bV _ h1) hs;have h3:guess*V<=guess*((top*B+next+1)*p):=dn _ aj;have h4:guess*((top*B+next+1)*p)=guess*(top*B+next)*p+guess*p:=(by rw[<- dA,dB guess _ 1,iP,dw]);have h5:guess*p<V:=(by have h6:guess*p<B*p:=gu hgB hp;have h7:B*p<=(top*B+next)*p:=bV _ (by have:=Nat.le_mul_of_pos_left B ht;omega);omega);have h6:guess*V<s+V:=aj;have h8:guess<s / V+1+1:=(by have h9:=kW (a:=s) hV0;have h10:guess*V<(s / V+1+1)*V:=(by rw[dw,dw,gX];omega);exact iI h10);omega
theorem TS{B top head guess rest:Nat}(hg:guess*top+rest=head)(hh:head<(top+1)*B)(hr:B<=rest):guess<B:=by have h1:guess*top<top*B:=(by rw[dw,gX]at hh;omega);rw[dK top]at h1;exact iI h1
theorem VH{V s g q:Nat}(hV:0<V)(hq:q=s / V)(h1:q<=g)(h2:g<=q+1):(s<g*V)=(g=q+1):=by subst hq;have h3:=jm s V;have h4:=kW (a:=s) hV;refine propext ⟨λh=>?_,λh=>?_⟩;{apply aU;intro hn;have:g=s / V:=aj;rw[this]at h;omega};rw[h,dw,gX];omega
theorem a4Z{V s q k:Nat}(hq:q=s / V):takeN s (q*V) k=s % V:=by subst hq;have h3:=jm s V;have h4:=jH s V;rw[dK]at h4;unfold takeN;rw[aB aj];omega
theorem a5Z{V s q k:Nat}(hV:0<V)(hq:q=s / V)(hs:V<4294967296^k):(takeN s ((q+1)*V) k+V) % 4294967296^k=s % V:=by subst hq;have h3:=jm s V;have h4:=jH s V;have h5:=kW (a:=s) hV;rw[dK]at h4;have hm:=gI s hV;unfold takeN;rw[dw,gX,aG aj];generalize s / V*V=x at *;generalize s % V=r at *;generalize 4294967296^k=P at *;rw[show s+P-(x+V)+V=r+P by omega,Nat.add_mod_right,dS aj]
theorem Wy{us s:List Int}{off:Nat}(h:off+s.length<=us.length):(mid us off s).drop off=s++us.drop (off+s.length):=by simp only[mid];rw[jQ aA,aX aA,eG]
theorem b1U{us s:List Int}{off:Nat}(h:off+s.length<=us.length) :
  val (mid us off s)+4294967296^off*val ((us.drop off).take s.length)=val us+4294967296^off*val s:=by
 have e1:val us=val (us.take off)+4294967296^off*val (us.drop off):=uI off aj;have e2:val (us.drop off)=val ((us.drop off).take s.length)+4294967296^s.length*val ((us.drop off).drop s.length):=uI s.length aA;have e3:val (mid us off s)=val (us.take off)+4294967296^off*(val s+4294967296^s.length*val ((us.drop off).drop s.length)):=(by simp only[mid];rw[val_append,val_append,kL,bD,iw aj]);rw[e3,e1,e2,dB,dB];omega
theorem a4P{l:List Int}{n:Nat}(hl:l.length=n+3):val l=val (l.take n)+4294967296^n*((l.getD n 0).toNat+4294967296*((l.getD (n+1) 0).toNat+4294967296*(l.getD (n+2) 0).toNat)):=by rw[uI n aj,Ce l n,Ce l (n+1),Ce l (n+1+1),aX (by omega:l.length<=n+1+1+1)];rfl
theorem val_two{l:List Int}{n:Nat}(hl:l.length=n+2):val l=val (l.take n)+4294967296^n*((l.getD n 0).toNat+4294967296*(l.getD (n+1) 0).toNat):=by rw[uI n aj,Ce l n,Ce l (n+1),aX (by omega:l.length<=n+1+1)];rfl
theorem JC{l:List Int}(hw:Ws l)(n:Nat):val (l.take n)<4294967296^n:=by have h1:=wJ (hw.take n);have h2:4294967296^(l.take n).length<=4294967296^n:=bQ aj aA;omega
theorem between{r p x:Nat}(h:r<p):x*p<=r+p*x/\r+p*x<(x+1)*p:=by rw[dK x p,dw,gX,dK x p];omega
structure FM(U V n L:Nat)(j:Nat)(M Q:List Int):Prop where
 jle:j<=L-n
 wm:Ws M
 lm:M.length=L
 wq:Ws Q
 lq:Q.length=L-n
 lt:val (M.drop j)<V
 eq:val M+V*val Q=U
 z:∀k,k<j->Q.getD k 0=0
theorem FM.seg{U V n L j:Nat}{M Q:List Int}(h:FM U V n L (j+1) M Q)(hn:n<=L)(hV:V<4294967296^n) :
  val ((M.drop j).take (n+1))=val (M.drop j)/\val (M.drop j)<4294967296*V/\val (M.drop (j+(n+1)))=0:=by
 have h1:=Ce M j;have h2:=h.wm.getD (i:=j);have h3:=h.lt;have hj:=h.jle;have hlt:val (M.drop j)<4294967296*V:=aj;have h4:val (M.drop j)<4294967296^(n+1):=(by rw[bU];have:V*4294967296<4294967296^n*4294967296:=gu hV aj;omega);have h5:=uI (l:=M.drop j) (n+1) (by rw[fQ,h.lm];omega);rw[kL]at h5;have h6:val (M.drop (j+(n+1)))=0:=(by apply aU;intro hne;have:4294967296^(n+1)*1<=4294967296^(n+1)*val (M.drop (j+(n+1))):=dn _ aj;omega);rw[h6,gB,dU]at h5;exact⟨h5.symm,hlt,h6⟩
theorem FM.step{U V n L j:Nat}{M Q:List Int}(h:FM U V n L (j+1) M Q)(hn:n<=L)(hV0:0<V)(hV:V<4294967296^n) :
  FM U V n L j (mid M j (Fv (n+1) (val (M.drop j) % V))) (Q.set j ((val (M.drop j) / V:Nat):Int)):=by
 obtain⟨h1,h2,h3⟩:=h.seg hn hV;have hj:=h.jle;have hq:val (M.drop j) / V<4294967296:=(by rw[eY hV0];omega);have hr:val (M.drop j) % V<V:=gI _ hV0;have hdm:=jH (val (M.drop j)) V;generalize hs:val (M.drop j)=s at *;generalize s / V=q at *;generalize s % V=r at *;have hwl:(Fv (n+1) r).length=n+1:=vK _ _;have hwv:val (Fv (n+1) r)=r:=Ey (by rw[bU];omega);have hml:j+(Fv (n+1) r).length<=M.length:=(by rw[hwl,h.lm];omega);have hjq:j<Q.length:=(by rw[h.lq];omega);refine⟨aj,a2o h.wm (Iw _ _),by rw[UM hml,h.lm],h.wq.set aj,by simpa using h.lq,?_,?_,?_⟩;{rw[Wy hml,val_append,hwv,hwl,h3,gB];omega};{have e1:=b1U hml;rw[hwl,h1,hwv]at e1;have e2:=Jz (x:=(q:Int)) hjq;have e3:=h.z j aj;rw[uX hjq]at e3;rw[e3]at e2;have e4:=h.eq;have e5:V*val (Q.set j (q:Int))=V*val Q+4294967296^j*(V*q):=(by have:val (Q.set j (q:Int))=val Q+4294967296^j*q:=(by simpa using e2);rw[this,dB,lD]);rw[e5];have e6:4294967296^j*s=4294967296^j*(V*q)+4294967296^j*r:=(by rw[<- dB,hdm]);omega};intro k hk;have:=h.z k aj;rw[aF]at this ⊢;rw[je aj];exact this
theorem FM.fin{U V n L:Nat}{M Q:List Int}(h:FM U V n L 0 M Q):val Q=U / V/\val M=U % V:=by have h1:=h.lt;have h2:=h.eq;rw[fD]at h1;have hV:0<V:=aj;rw[<- h2];constructor;{rw[kJ _ _ hV,jL h1,bC]};rw[kP,dS h1]
theorem FM.init{x V n L:Nat}{k:Nat}(hx:x<4294967296^(L-1)*2^k)(hn:n<=L)(hn1:1<=n)(hk:k<32)(hV:4294967296^(n-1)*2^k<=V) :
  FM x V n L (L-n) (Fv L x) (List.replicate (L-n) 0):=by
 have hk2:2^k<=4294967296:=dH (bQ aj (show k<=32 by omega)) au;have hxl:x<4294967296^L:=(by have h1:4294967296^(L-1)*2^k<=4294967296^(L-1)*4294967296:=dn _ hk2;rw[<- bU,show(L-1).succ=L by omega]at h1;omega);refine⟨aS _,Iw _ _,vK _ _,?_,ak,?_,?_,?_⟩;{intro y hy;rw[(fG.1 hy).2];omega};{rw[<- KN (Iw _ _),Ey hxl];have h2:x<4294967296^(L-n)*V:=(by have h3:4294967296^(L-n)*(4294967296^(n-1)*2^k)<=4294967296^(L-n)*V:=dn _ hV;rw[<- dA,<- jd,show L-n+(n-1)=L-1 by omega]at h3;omega);rw[eY (gK aj),dK];exact h2};{rw[Ey hxl,CZ (λy hy=>(fG.1 hy).2),gB,dU]};intro i _;rw[aF,eU];split <;> rfl
def zx(x:Nat):Nat:=if x=0 then 0 else x.log2+1
theorem X0{x l:Nat}(h1:2^l<=x)(h2:x<2^(l+1)):zx x=l+1:=by have hx:x≠0:=(by have:=jF l;omega);unfold zx;rw[aB hx,(Nat.log2_eq_iff hx).2 ⟨h1,h2⟩]
theorem Jl{x:Nat}(hx:x≠0):∃l,zx x=l+1/\2^l<=x/\x<2^(l+1):=by refine⟨x.log2,by unfold zx;rw[aB hx],(Nat.log2_eq_iff hx).1 rfl⟩
theorem X3{x k:Nat}(h:2^k<=x):zx x=zx (x / 2^k)+k:=by
 have hk:=jF k;have h0:x / 2^k≠0:=(by have:=(ku hk (x:=1) (y:=x)).2 aj;omega);obtain⟨l,h1,h2,h3⟩:=Jl h0;have:=X0 (x:=x) (l:=l+k) (by
  rw[ku hk]at h2;rw[jd];exact h2) (by
  rw[eY hk]at h3;rw[show l+k+1=l+1+k by omega,jd];exact h3)
 rw[this,h1];omega
theorem JY{x n:Nat}(h:x<2^n):zx x<=n:=by by_cases hx:x=0;{subst hx;simp[zx]};obtain⟨l,h1,h2,_⟩:=Jl hx;have:2^l<2^n:=aj;have:=(Nat.pow_lt_pow_iff_right (a:=2) aj).1 this;omega
theorem b0h{T:List UInt8}{x:Nat}{n:Int}{k:UInt8->Prop}(hT:((List.range 256).all λi=>T[i]? == some (UInt8.ofNat (zx i)))=true)(hn:n=x)(hx:x<256)(hk:k (UInt8.ofNat (zx x))):DZ T n k:=by subst hn;refine⟨⟨_,⟨jA _,?_⟩,hk⟩⟩;have:=bF.1 hT x (by simpa using hx);simpa using this
theorem UF{a n:Nat}(hn:n<32):KG .u32 (a:Int) (n:Int)=((a / 2^n:Nat):Int):=by
 unfold KG;have h1:min (n:Int).toNat (IntKind.bits .u32)=n:=by show min n 32=n;omega
 rw[h1];rw[iM _ (by have:=Int.pow_pos (n:=(2:Int)) (m:=n) au;omega)];simp
theorem a7f(x:Nat)(hx:x<4294967296):ZQ 167 [.int .u32 x] [] (.int .i64 (zx x)) []:=by
 refine ZI Tryz.func167 λhok=>?_;conv=>whnf
 constructor<;>intro n1
 ·have k1:=X3 (x:=x) (k:=16) aj;conv=>whnf
  refine⟨au,?_⟩;rw[show KG .u32 (x:Int) 16=((x / 2^16:Nat):Int)from UF (n:=16) aj];generalize hz:x / 2^16=z at *;have hz:z<65536:=aj;conv=>whnf
  constructor<;>intro n2
  ·have k2:=X3 (x:=z) (k:=8) aj;conv=>whnf
   refine⟨au,?_⟩;rw[show KG .u32 (z:Int) 8=((z / 2^8:Nat):Int)from UF (n:=8) aj];generalize hy:z / 2^8=y at *;have hy:y<256:=aj;conv=>whnf
   refine ZG ?_;conv=>whnf
   refine b0h (x:=y) ay ?_ hy ?_;{simp[IntKind.wrap,IntKind.bits,IntKind.signed];omega};have hb8:=JY (x:=y) (n:=8) aj;rw[show((UInt8.ofNat (zx y)).toNat:Int)=(zx y:Int) by rw[lW];omega];conv=>whnf
   rw[wrap64 (n:=(zx y:Int)) aj aj];refine ZG ?_;refine ZF ?_;refine⟨rfl,?_⟩;omega
  conv=>whnf
  refine b0h (x:=z) ay ?_ aj ?_;{simp[IntKind.wrap,IntKind.bits,IntKind.signed];omega};have hb8:=JY (x:=z) (n:=8) aj;rw[show((UInt8.ofNat (zx z)).toNat:Int)=(zx z:Int) by rw[lW];omega];conv=>whnf
  rw[wrap64 (n:=(zx z:Int)) aj aj];refine ZG ?_;refine ZF ?_;refine⟨rfl,?_⟩;omega
 conv=>whnf
 constructor<;>intro n2
 ·have k2:=X3 (x:=x) (k:=8) aj;conv=>whnf
  refine⟨au,?_⟩;rw[show KG .u32 (x:Int) 8=((x / 2^8:Nat):Int)from UF (n:=8) aj];generalize hy:x / 2^8=y at *;have hy:y<256:=aj;conv=>whnf
  refine ZG ?_;conv=>whnf
  refine b0h (x:=y) ay ?_ hy ?_;{simp[IntKind.wrap,IntKind.bits,IntKind.signed];omega};have hb8:=JY (x:=y) (n:=8) aj;rw[show((UInt8.ofNat (zx y)).toNat:Int)=(zx y:Int) by rw[lW];omega];conv=>whnf
  rw[wrap64 (n:=(zx y:Int)) aj aj];refine ZG ?_;refine ZF ?_;refine⟨rfl,?_⟩;omega
 conv=>whnf
 refine b0h (x:=x) ay ?_ aj ?_;{simp[IntKind.wrap,IntKind.bits,IntKind.signed];omega};have hb8:=JY (x:=x) (n:=8) aj;rw[show((UInt8.ofNat (zx x)).toNat:Int)=(zx x:Int) by rw[lW];omega];conv=>whnf
 rw[wrap64 (n:=(zx x:Int)) aj aj];refine ZG ?_;refine ZF ?_;refine⟨rfl,?_⟩;omega
theorem b5a(x:Nat)(hx:x<4294967296):ZQ 249 [.int .u32 x] [] (.int .i64 ((32-zx x:Nat):Int)) []:=by
 have hb:=JY (x:=x) (n:=32) aj;refine ZI Tryz.func249 λhok=>?_;conv=>whnf
 refine .zK (a7f x hx) ?_;refine ZG ?_;refine ZF ?_;refine⟨rfl,?_⟩;omega
theorem b29(a:List Int)(n:Nat)(hn:n<32)(hsz:a.length<=1000000) :
  ZQ 250 [wL a,.int .i64 n] [] (wL (Fv (a.length+1) (val a*2^n))) []:=by
 have h:=(b05 a n hn hsz).cv (.freeze 0 0 0 (a.length+1) (a.length+1) (a.length+1) 1 _ rfl rfl (by simp[vK]) (.refl _ _)) rfl;refine(h.heap (G:=[]) (.mk trivial trivial) (aO _) rfl).weak ?_;refine⟨rfl,qY ?_⟩;rw[fD,bf (by simp[vK])]
theorem a9K(a:List Int)(n:Nat)(hn:n<32)(hsz:a.length<=1000000) :
  ZQ 253 [wL a,.int .i64 n] [] (wL (Fv a.length (val a / 2^n))) []:=by
 have h:=(b2T a n hn hsz).cv (.freeze 0 0 0 a.length a.length a.length 1 _ rfl rfl (by simp[vK]) (.refl _ _)) rfl;refine(h.heap (G:=[]) (.mk trivial trivial) (aO _) rfl).weak ?_;refine⟨rfl,qY ?_⟩;rw[fD,bf (by simp[vK])]
theorem a3E{y:Nat}(h:4294967296<=y):2<=(wd y).length:=by rw[BL aj,BL (n:=y / 4294967296) aj];simp
theorem a1X:∀{k m x:Nat},k<=m->(Fv m x).take k=Fv k x
 | 0,_,_,_=>by simp[Fv]
 |k+1,0,_,h=>aj
 |k+1,m+1,x,h=>by simp only[Fv,jo,a1X (k:=k) (m:=m) aj]
theorem a1p{B p s V r3 r2 w2 w1 w0 top next:Nat}(t3:r3<p)(t2:r2<p)(hw0:w0<B)(hnext:next<B)(e3:s=r3+p*(w0+B*(w1+B*w2)))(e2:V=r2+p*(next+B*top))(hV1:p*B<=V)(hs2:s<B*V) :
  1<=top/\((w2*B+w1)*B+w0)*p<=s/\s<((w2*B+w1)*B+w0+1)*p/\(top*B+next)*p<=V/\V<(top*B+next+1)*p/\w2*B+w1<(top+1)*B/\s / V<=(w2*B+w1) / top:=by
 have f1:w0+B*(w1+B*w2)=(w2*B+w1)*B+w0:=(by rw[dK B (w1+B*w2),dK B w2,lF w1,lF]);have f2:next+B*top=top*B+next:=by rw[dK,lF]
 rw[f1]at e3;rw[f2]at e2;generalize hh:w2*B+w1=head at *;have b3:=between (r:=r3) (p:=p) (x:=head*B+w0) t3;have b2:=between (r:=r2) (p:=p) (x:=top*B+next) t2;rw[<- e3]at b3;rw[<- e2]at b2;have TQ:1<=top:=(by apply aU;intro h0;have h0:top=0:=aj;subst h0;have h1:(0*B+next+1)*p<=B*p:=bV _ aj;rw[dK p]at hV1;omega);have k0:(top*B+next+1)*p<=(top+1)*B*p:=bV _ (by rw[dw];omega);have hhead:head<(top+1)*B:=(by have k1:head*B*p<=(head*B+w0)*p:=bV _ aj;have k2:B*V<=B*((top+1)*B*p):=dn _ aj;have h1:head*B*p<B*((top+1)*B*p):=aj;have h2:B*((top+1)*B*p)=(top+1)*B*B*p:=(by rw[dK B,dA _ p B,dK p B,<- dA]);rw[h2]at h1;exact iI (iI h1));refine⟨TQ,b3.1,b3.2,b2.1,b2.2,hhead,?_⟩;refine a2E (p:=B*p) TQ ?_ ?_;{have:top*(B*p)<=(top*B+next)*p:=(by rw[<- dA];exact bV _ aj);omega};have:(head*B+w0+1)*p<=(head+1)*(B*p):=(by rw[<- dA];exact bV _ (by rw[dw];omega));omega
theorem a1o{U V n L k w2 w1 w0 top next:Nat}{M Q v:List Int}(hI:FM U V n L (k+1) M Q)(hn2:2<=n)(hnL:n+1<=L)(hk:k+1<=L-n)(hvl:v.length=n)(hvw:Ws v)(hvv:val v=V)(hV1:4294967296^(n-1)<=V)
  (ew2:M.getD (k+n) 0=(w2:Int)) (ew1:M.getD (k+n-1) 0=(w1:Int)) (ew0:M.getD (k+n-2) 0=(w0:Int)) (htp:v.getD (n-1) 0=(top:Int)) (hnx:v.getD (n-2) 0=(next:Int)) :
  ∃ p,0<p/\1<=top/\((w2*4294967296+w1)*4294967296+w0)*p<=val (M.drop k)/\val (M.drop k)<((w2*4294967296+w1)*4294967296+w0+1)*p /\
    (top*4294967296+next)*p<=V/\V<(top*4294967296+next+1)*p/\w2*4294967296+w1<(top+1)*4294967296/\val (M.drop k) / V<=(w2*4294967296+w1) / top:=by
 have hV2:V<4294967296^n:=(by rw[<- hvv,<- hvl];exact wJ hvw);have hseg:=hI.seg aj hV2;have hML:=hI.lm;have hwM:=hI.wm;have htop:=hvw.getD (i:=n-1);have hnext:=hvw.getD (i:=n-2);have hw2:=hwM.getD (i:=k+n);have hw1:=hwM.getD (i:=k+n-1);have hw0:=hwM.getD (i:=k+n-2);rw[htp]at htop;rw[hnx]at hnext;rw[ew2]at hw2;rw[ew1]at hw1;rw[ew0]at hw0;have e3:=a4P (l:=(M.drop k).take (n+1)) (n:=n-2) (by rw[bD,fQ,hML];omega);have e2:=val_two (l:=v) (n:=n-2) aj;have gt:∀i,i<n+1->((M.drop k).take (n+1)).getD i 0=M.getD (k+i) 0:=(by intro i hi;rw[aF,jy,aG hi,gZ,<- aF]);rw[gt _ aj,gt _ aj,gt _ aj,show k+(n-2)=k+n-2 by omega,show k+(n-2+1)=k+n-1 by omega,show k+(n-2+2)=k+n by omega,ew2,ew1,ew0,hseg.1]at e3;rw[show n-2+1=n-1 by omega,hnx,htp,hvv]at e2;simp only[aJ]at e3 e2;have t3:=JC (l:=(M.drop k).take (n+1)) ((hwM.drop _).take _) (n-2);have t2:=JC hvw (n-2);have hpp:0<4294967296^(n-2):=gK aj;have ep:4294967296^(n-1)=4294967296^(n-2)*4294967296:=(by rw[<- bU,show(n-2).succ=n-1 by omega]);have hs2:=hseg.2.1;rw[ep]at hV1;generalize val (M.drop k)=s at *;generalize val (((M.drop k).take (n+1)).take (n-2))=r3 at *;generalize val (v.take (n-2))=r2 at *;generalize 4294967296^(n-2)=p at *;exact⟨p,hpp,a1p (B:=4294967296) t3 t2 aj aj e3 e2 hV1 hs2⟩
theorem b1V{us s t:List Int}{off:Nat}(h:off+s.length<=us.length)(hl:s.length=t.length):mid (mid us off s) off t=mid us off t:=by have h1:(mid us off s).take off=us.take off:=(by simp only[mid];rw[iE aA,List.take_take,Nat.min_self]);have h2:(mid us off s).drop (off+t.length)=us.drop (off+t.length):=(by rw[<- kL,Wy h,<- hl,List.drop_left]);have h3:mid (mid us off s) off t=(mid us off s).take off++(t++(mid us off s).drop (off+t.length)):=rfl;rw[h3,h1,h2];rfl
theorem a8Q{us s:List Int}{off:Nat}(h:off+s.length<=us.length):((mid us off s).drop off).take s.length=s:=by rw[Wy h,List.take_left]
set_option maxHeartbeats 2000000 in
theorem a6o(x y:Nat)(hx:(wd x).length<=999999)(hyl:(wd y).length<=1000000)(hy:4294967296<=y):b1k x y:=by
 unfold b1k;have hyx:y<=x->(wd y).length<=(wd x).length:=sQ;have hn2:=a3E hy;have c1:=CU (wd x) aj;rw[rU]at c1;have c2:=CU (wd y) hyl;rw[rU]at c2;have c3:=a4y (wd x) (wd y) aj hyl;rw[rU,rU]at c3;have hwx:=EH x;have hwy:=EH y;have hvx:=rU x;have hvy:=rU y;have hpy:=Y1 y;generalize ha:wd x=a at *;generalize hb:wd y=b at *;refine ZI Tryz.func238 λhok=>?_;conv=>whnf
 refine .zK c1 ?_;refine .zK c2 ?_;refine⟨λh=>?_,λ_=>?_⟩;{exfalso;simp only[aC]at h;omega};conv=>whnf
 refine .zK c3 ?_;constructor<;>intro h
 ·have hlt:x<y:=by
   unfold EX at h;split at h
   ·assumption
   split at h <;> omega
  conv=>whnf
  refine ZF ?_;refine⟨?_,?_,rfl,trivial⟩;{rw[jL hlt,yt];rfl};rw[dS hlt,ha];exact tV _
 have hxy:¬x<y:=(by intro hlt;unfold EX at h;rw[aG hlt]at h;omega);have hle:y<=x:=aj;have hyx:=hyx hle;conv=>whnf
 refine⟨λh=>?_,λ_=>?_⟩;{exfalso;simp only[aC]at h;omega};conv=>whnf
 refine⟨rQ aA aA,?_⟩;conv=>whnf
 refine vC 0 (i:=b.length-1) aA aj ?_;have htb:=hwy.getD (i:=b.length-1);have htn:b.getD (b.length-1) 0≠0:=(by rcases hpy with h|h;{rw[h]at hn2;simp at hn2};rw[iV,iW]at h;rw[aF];exact h);generalize htt:b.getD (b.length-1) 0=tb0 at *;obtain⟨tb,rfl⟩:∃tb:Nat,tb0=tb:=⟨tb0.toNat,aj⟩;conv=>whnf
 refine .zP (b5a tb aj) λ_=>?_;obtain⟨l,hl1,hl2,hl3⟩:=Jl (x:=tb) aj;have hl4:=JY (x:=tb) (n:=32) aj;obtain⟨sh,hsh⟩:∃sh,32-zx tb=sh:=⟨_,rfl⟩;rw[hsh];conv=>whnf
 refine .zP (b29 b sh aj aj) λ_=>?_;rw[hvy];conv=>whnf
 refine⟨⟨aj,ak,by simp[vK];omega⟩,?_⟩
 -- the divisor,shifted
 have hV1:4294967296^(b.length-1)*2^sh<=y*2^sh:=bV _ (by rw[<- hvy];exact Gw hpy (by intro e;rw[e]at hn2;simp at hn2) hwy);have hp2:=jF sh;have hV2:y*2^sh<4294967296^b.length:=(by have e1:=uI (l:=b) (b.length-1) aj;rw[Ce b (b.length-1),aX (by omega:b.length<=b.length-1+1),htt,hvy]at e1;have e2:=JC hwy (b.length-1);have e3:y<4294967296^(b.length-1)*(tb+1):=(by rw[dB];simp only[aJ,val,gB,dU]at e1;omega);have e4:(tb+1)*2^sh<=4294967296:=(by have:(tb+1)*2^sh<=2^(l+1)*2^sh:=bV _ aj;rw[<- jd,show l+1+sh=32 by omega]at this;exact this);have e5:y*2^sh<4294967296^(b.length-1)*(tb+1)*2^sh:=gu e3 hp2;have e6:4294967296^(b.length-1)*((tb+1)*2^sh)<=4294967296^(b.length-1)*4294967296:=dn _ e4;rw[<- bU,show(b.length-1).succ=b.length by omega,<- dA]at e6;omega);have hcut:((List.map (AV.int .u32) (Fv (b.length+1) (y*2^sh))).drop (0:Int).toNat).take ((((b.map (AV.int .u32)).length:Nat):Int).toNat-(0:Int).toNat)=(Fv b.length (y*2^sh)).map (AV.int .u32):=(by simp only[aC,aJ,Int.toNat_zero,fD,Nat.sub_zero,<- iy];rw[a1X aj]);rw[hcut];have hvw:=Iw b.length (y*2^sh);have hvl:=vK b.length (y*2^sh);have hvv:=Ey hV2;generalize Fv b.length (y*2^sh)=v at *;have hxl:=wJ hwx;rw[hvx]at hxl;have hinit:=FM.init (x:=x*2^sh) (V:=y*2^sh) (n:=b.length) (L:=a.length+1) (k:=sh) (gu hxl hp2) aj aj aj hV1;have b6s:4294967296^(b.length-1)<=y*2^sh:=dH (Nat.le_mul_of_pos_right _ hp2) hV1;have hres:x*2^sh / (y*2^sh)=x / y/\x*2^sh % (y*2^sh) / 2^sh=x % y:=(by refine⟨Nat.mul_div_mul_right _ _ hp2,?_⟩;rw[nC,Nat.mul_div_cancel _ hp2]);conv=>whnf
 refine .gen _ _ (b05 a sh aj aj) λ_=>?_;rw[hvx];generalize hU:x*2^sh=U at *;generalize hV:y*2^sh=V at *;conv=>whnf
 refine ZR ?_;refine⟨rQ aA aA,?_⟩;conv=>whnf
 refine vC 0 (i:=b.length-1) aA aj ?_;conv=>whnf
 refine⟨rQ aA aA,?_⟩;conv=>whnf
 refine vC 0 (i:=b.length-2) aA aj ?_;have htop:=hvw.getD (i:=b.length-1);have hnext:=hvw.getD (i:=b.length-2);generalize htp:v.getD (b.length-1) 0=b6M at *;generalize hnx:v.getD (b.length-2) 0=b4w at *;obtain⟨top,rfl⟩:∃top:Nat,b6M=top:=⟨b6M.toNat,aj⟩;obtain⟨next,rfl⟩:∃next:Nat,b4w=next:=⟨b4w.toNat,aj⟩
 conv=>whnf
 rw[wrap_u64 (n:=(top:Int)) aj aj,wrap_u64 (n:=(next:Int)) aj aj];refine⟨rQ aA aA,?_⟩;obtain⟨m,hm⟩:∃m,a.length+1-b.length=m:=⟨_,rfl⟩;rw[show(((a.length+1:Nat):Int)-(((v.map (AV.int .u32)).length:Nat):Int))=(m:Int) by simp;omega];conv=>whnf
 refine⟨⟨aj,aj,aA,aj⟩,.wr ?_⟩;conv=>whnf
 refine⟨rQ aA aA,?_⟩;rw[hm]at hinit;conv=>whnf
 refine qV.of <| qM.inv (.refl _ _) (λx:Nat×List Int×List Int=>FM U V b.length (a.length+1) x.1 x.2.1 x.2.2)
  (fun|(j,_)=>[(14,.int .i64 ((j:Int)-1))]) (fun|(_,M,Q)=>[(1,.arr 1 m (Q.map (.int .u32))),(0,.arr 1 (a.length+1) (M.map (.int .u32)))])
  (λx=>x.1) (m,Fv (a.length+1) U,List.replicate m 0) hinit (λ_=>rfl) ?_ ?_
 ·refine Zv wk ?_;repeat' first|exact Zq|apply aI
  all_goals first|(simp;done)|exact qY ak
 rintro⟨j,M,Q⟩ hI _;simp only at hI;have hjl:=hI.jle;conv=>whnf
 constructor<;>intro h
 ·obtain⟨k,rfl⟩:∃k,j=k+1:=⟨j-1,aj⟩;have hseg:=hI.seg aj hV2;have hML:=hI.lm;have hQL:=hI.lq;have hwM:=hI.wm;have e14:(((k+1:Nat):Int)-1)=(k:Int):=aj;have elv:(((v.map (AV.int .u32)).length:Nat):Int)=(b.length:Int):=aA;rw[e14,elv];have hw2:=hwM.getD (i:=k+b.length);have hw1:=hwM.getD (i:=k+b.length-1);have hw0:=hwM.getD (i:=k+b.length-2);obtain⟨w2,ew2⟩:∃w:Nat,M.getD (k+b.length) 0=w:=⟨(M.getD (k+b.length) 0).toNat,aj⟩;obtain⟨w1,ew1⟩:∃w:Nat,M.getD (k+b.length-1) 0=w:=⟨(M.getD (k+b.length-1) 0).toNat,aj⟩;obtain⟨w0,ew0⟩:∃w:Nat,M.getD (k+b.length-2) 0=w:=⟨(M.getD (k+b.length-2) 0).toNat,aj⟩;rw[ew2]at hw2;rw[ew1]at hw1;rw[ew0]at hw0;obtain⟨p,hp0,TQ,b3,b3',b2,b2',hhead,hge⟩:=a1o hI hn2 aj aj aj hvw hvv b6s ew2 ew1 ew0 htp hnx;have hdst:=hI.step aj aj hV2;obtain⟨s,hs⟩:∃s,val (M.drop k)=s:=⟨_,rfl⟩;rw[hs]at b3 b3' hge hdst hseg;have hVp:0<V:=(by have:=gK (n:=b.length-1) (show 0<4294967296 by omega);omega);have hqB:s / V<4294967296:=(by rw[eY hVp];exact hseg.2.1);obtain⟨q,hq⟩:∃q,s / V=q:=⟨_,rfl⟩;rw[hq]at hge hqB hdst;have hrest:takeN s (q*V) (b.length+1)=s % V:=a4Z hq.symm;have hVB:V<4294967296^(b.length+1):=(by rw[bU];have:4294967296^b.length*1<=4294967296^b.length*4294967296:=dn _ aj;omega);have hsB:s<4294967296^(b.length+1):=(by rw[bU,dK];have:4294967296*V<=4294967296*4294967296^b.length:=dn _ aj;omega);have Qg:∀z,(mid M k (Fv (b.length+1) z)).length=a.length+1:=λz=>(by rw[UM (by rw[vK,hML];omega),hML]);have htl:takeN s ((q+1)*V) (b.length+1)<4294967296^(b.length+1):=(by have h1:=kW (a:=s) hVp;rw[hq]at h1;unfold takeN;rw[dw,gX,aG h1];have h2:=jm s V;rw[hq]at h2;omega);have b2n:mid (mid M k (Fv (b.length+1) (takeN s ((q+1)*V) (b.length+1)))) k (Fv (b.length+1) ((val (((mid M k (Fv (b.length+1) (takeN s ((q+1)*V) (b.length+1)))).drop k).take (b.length+1))+V) % 4294967296^(b.length+1)))=mid M k (Fv (b.length+1) (s % V)):=(by have e1:=a8Q (us:=M) (s:=Fv (b.length+1) (takeN s ((q+1)*V) (b.length+1))) (off:=k) (by rw[vK,hML];omega);rw[vK]at e1;rw[e1,Ey htl,a5Z hVp hq.symm hVB,b1V (by rw[vK,hML];omega) (by rw[vK,vK])]);conv=>whnf
  refine ZR ?_;refine ZG ?_;refine⟨⟨aj,aA⟩,?_⟩;conv=>whnf
  refine vC 0 (i:=k+b.length) aA aj ?_;refine⟨ak,?_⟩;rw[ew2];conv=>whnf
  refine⟨au,?_⟩;rw[wrap_u64 (n:=(w2:Int)) aj aj,IY aj];refine ZG ?_;refine ZG ?_;refine⟨⟨aj,aA⟩,?_⟩;conv=>whnf
  refine vC 0 (i:=k+b.length-1) aA aj ?_;refine⟨ak,?_⟩;rw[ew1];conv=>whnf
  rw[wrap_u64 (n:=(w1:Int)) aj aj,P6 aj aj];obtain⟨head,hhd⟩:∃head,w2*4294967296+w1=head:=⟨_,rfl⟩;rw[hhd];rw[hhd]at b3 b3' hhead hge;have hhl:head<18446744073709551616:=aj;clear hcut;refine ZR ?_;refine⟨aj,?_⟩;rw[VF];have hg0:head / top*top+head % top=head:=(by rw[dK];exact jH _ _);have hr0:head % top<top:=gI _ aj;have hg1:head / top<=head:=jG _ _;have hg2:head / top*top<=head:=aj;generalize head / top=g0 at *;conv=>whnf
  refine⟨aj,?_⟩;rw[EI];generalize head % top=r0 at *;rw[wrap_u64 (n:=(g0:Int)) aj aj];conv=>whnf
  refine qV.of <| qM.inv (.refl _ _) (fun(x:Nat×Nat)=>x.1*top+x.2=head/\q<=x.1/\x.2<4294967296/\x.1<=g0) (fun(x:Nat×Nat)=>[(16,.int .u64 (x.1:Nat)),(17,.int .u64 (x.2:Nat))]) (λ_=>_) (fun(x:Nat×Nat)=>x.1) (g0,r0) ?_ (λ_=>rfl) ?_ ?_;{exact⟨hg0,hge,(by omega:r0<4294967296),aS _⟩};{refine⟨?_,.refl rfl⟩;all_goals exact wk};rintro⟨g,r⟩ ⟨hgr,hgq,hr,hgg⟩ _;simp only at hgr hgq hr hgg;dsimp only[UA];conv=>whnf
  constructor<;>intro hc1
  ·have hgt:q<g:=aj;conv=>whnf
   (conv=>whnf);rw[show((g:Int)-1)=((g-1:Nat):Int) by omega,wrap_u64 (n:=((g-1:Nat):Int)) aj aj]
   (conv=>whnf);rw[show((r:Int)+(top:Int))=((r+top:Nat):Int)from(iC r top).symm,wrap_u64 (n:=((r+top:Nat):Int)) aj aj]
   have b2m:(g-1)*top+(r+top)=head:=by have h1:(g-1+1)*top=g*top:=(by rw[show g-1+1=g by omega]);rw[dw,gX]at h1;omega
   (conv=>whnf);constructor<;>intro hc3
   ·have b6i:g-1<4294967296:=TS b2m hhead aj;have hG:g-1<=q+1:=by
     rw[<- hq];refine Xb (B:=4294967296) (p:=p) aj hp0 TQ b2 b2' b3 b2m ?_ b6i;have h1:(g-1)*next<=4294967295*4294967295:=gY aj aj
     have h2:4294967296*4294967296<=(r+top)*4294967296:=bV _ aj;omega
    (conv=>whnf);rw[elv]
    refine ZG ?_;refine ZG ?_;refine⟨⟨aj,aj,aj⟩,aj,?_⟩;have ct:=a6O M v k (a.length+1-k) (g-1) hwM aj aj aj (by
     rw[hvv,hvl,bU,dK (4294967296^b.length)];exact lX aj hV2 aj)
    rw[hML,hvv,hvl,hseg.1,VH hVp hq.symm aj hG]at ct;conv=>whnf
    refine .gen _ _ (qX.frame [0] ct ⟨rfl,rfl,rfl,rfl⟩ ?_ ?_) λ_=>?_;{exact wk}
    ·repeat' first|exact Zq|apply aI
     all_goals (show AV.ms 0 _ _ _ 1=AV.ms 0 _ _ _ 1;congr 1 <;> omega)
    (conv=>whnf);constructor<;>intro hGq
    ·(conv=>whnf);rw[show(((g-1:Nat):Int)-1)=(q:Int) by omega,wrap_u64 (n:=(q:Int)) aj aj]
     (conv=>whnf);rw[elv]
     refine ZG ?_;refine ZG ?_;refine⟨⟨aj,aj,aj⟩,aj,?_⟩;have cg:=a7h (mid M k (Fv (b.length+1) (takeN s ((g-1)*V) (b.length+1)))) v k (a.length+1-k) (a2o hwM (Iw _ _)) (by rw[Qg];omega) (by rw[Qg];omega);rw[Qg,hvv,hvl,hGq,b2n]at cg;rw[hGq];conv=>whnf
     refine .gen _ _ (qX.frame [0] cg ⟨rfl,rfl,rfl,rfl⟩ ?_ ?_) λ_=>?_;{exact wk}
     ·repeat' first|exact Zq|apply aI
      all_goals (show AV.ms 0 _ _ _ 1=AV.ms 0 _ _ _ 1;congr 1 <;> omega)
     (conv=>whnf);rw[wrap_u32 (n:=(q:Int)) aj aj]
     refine⟨⟨aj,aj⟩,?_⟩;dsimp only[Cm];rw[Hu];dsimp only[zV];dsimp only[O6,xH];conv=>whnf
     refine⟨by rw[aC,hQL];omega,rfl,?_⟩;conv=>whnf
     refine ZG ?_;refine⟨(k,mid M k (Fv (b.length+1) (s % V)),Q.set k (q:Int)),?_,?_,?_⟩;{exact hdst}
     ·refine Zv wk ?_;repeat' first|exact Zq|apply aI
      all_goals first|exact qU _|(refine qY ?_;rw[dP];simp[strip])
     show k<k+1;omega
    have b4O:g-1=q:=aj;rw[b4O,hrest];conv=>whnf
    rw[wrap_u32 (n:=(q:Int)) aj aj];refine⟨⟨aj,aj⟩,?_⟩;dsimp only[Cm];rw[Hu];dsimp only[zV];dsimp only[O6,xH];conv=>whnf
    refine⟨by rw[aC,hQL];omega,rfl,?_⟩;conv=>whnf
    refine ZG ?_;refine⟨(k,mid M k (Fv (b.length+1) (s % V)),Q.set k (q:Int)),?_,?_,?_⟩;{exact hdst}
    ·refine Zv wk ?_;repeat' first|exact Zq|apply aI
     all_goals first|exact qU _|(refine qY ?_;rw[dP];simp[strip])
    show k<k+1;omega
   (conv=>whnf);refine⟨(g-1,r+top),?_,?_,?_⟩
   ·exact⟨b2m,(by omega:q<=g-1),(by omega:r+top<4294967296),(by omega:g-1<=g0)⟩
   ·refine⟨?_,.refl rfl⟩;all_goals exact wk
   show g-1<g;omega
  have hgB:g<4294967296:=aj;have hgn:g*next<=4294967295*4294967295:=gY aj aj
  conv=>whnf
  rw[show((g:Int)*(next:Int))=((g*next:Nat):Int)from(lU g next).symm,wrap_u64 (n:=((g*next:Nat):Int)) aj aj];refine⟨au,?_⟩;rw[IY aj];conv=>whnf
  rw[elv];refine ZG ?_;refine ZG ?_;refine⟨⟨aj,aA⟩,?_⟩;conv=>whnf
  refine vC 0 (i:=k+b.length-2) aA aj ?_;refine⟨ak,?_⟩;rw[ew0];conv=>whnf
  rw[wrap_u64 (n:=(w0:Int)) aj aj,P6 aj aj];conv=>whnf
  constructor<;>intro hc2
  ·have hgt:q<g:=hq ▸ a9b b2 b3' hgr aj;conv=>whnf
   rw[show((g:Int)-1)=((g-1:Nat):Int) by omega,wrap_u64 (n:=((g-1:Nat):Int)) aj aj];conv=>whnf
   rw[show((r:Int)+(top:Int))=((r+top:Nat):Int)from(iC r top).symm,wrap_u64 (n:=((r+top:Nat):Int)) aj aj];have b2m:(g-1)*top+(r+top)=head:=by have h1:(g-1+1)*top=g*top:=(by rw[show g-1+1=g by omega]);rw[dw,gX]at h1;omega
   (conv=>whnf);constructor<;>intro hc3
   ·have b6i:g-1<4294967296:=TS b2m hhead aj;have hG:g-1<=q+1:=by
     rw[<- hq];refine Xb (B:=4294967296) (p:=p) aj hp0 TQ b2 b2' b3 b2m ?_ b6i;have h1:(g-1)*next<=4294967295*4294967295:=gY aj aj
     have h2:4294967296*4294967296<=(r+top)*4294967296:=bV _ aj;omega
    (conv=>whnf);rw[elv]
    refine ZG ?_;refine ZG ?_;refine⟨⟨aj,aj,aj⟩,aj,?_⟩;have ct:=a6O M v k (a.length+1-k) (g-1) hwM aj aj aj (by
     rw[hvv,hvl,bU,dK (4294967296^b.length)];exact lX aj hV2 aj)
    rw[hML,hvv,hvl,hseg.1,VH hVp hq.symm aj hG]at ct;conv=>whnf
    refine .gen _ _ (qX.frame [0] ct ⟨rfl,rfl,rfl,rfl⟩ ?_ ?_) λ_=>?_;{exact wk}
    ·repeat' first|exact Zq|apply aI
     all_goals (show AV.ms 0 _ _ _ 1=AV.ms 0 _ _ _ 1;congr 1 <;> omega)
    (conv=>whnf);constructor<;>intro hGq
    ·(conv=>whnf);rw[show(((g-1:Nat):Int)-1)=(q:Int) by omega,wrap_u64 (n:=(q:Int)) aj aj]
     (conv=>whnf);rw[elv]
     refine ZG ?_;refine ZG ?_;refine⟨⟨aj,aj,aj⟩,aj,?_⟩;have cg:=a7h (mid M k (Fv (b.length+1) (takeN s ((g-1)*V) (b.length+1)))) v k (a.length+1-k) (a2o hwM (Iw _ _)) (by rw[Qg];omega) (by rw[Qg];omega);rw[Qg,hvv,hvl,hGq,b2n]at cg;rw[hGq];conv=>whnf
     refine .gen _ _ (qX.frame [0] cg ⟨rfl,rfl,rfl,rfl⟩ ?_ ?_) λ_=>?_;{exact wk}
     ·repeat' first|exact Zq|apply aI
      all_goals (show AV.ms 0 _ _ _ 1=AV.ms 0 _ _ _ 1;congr 1 <;> omega)
     (conv=>whnf);rw[wrap_u32 (n:=(q:Int)) aj aj]
     refine⟨⟨aj,aj⟩,?_⟩;dsimp only[Cm];rw[Hu];dsimp only[zV];dsimp only[O6,xH];conv=>whnf
     refine⟨by rw[aC,hQL];omega,rfl,?_⟩;conv=>whnf
     refine ZG ?_;refine⟨(k,mid M k (Fv (b.length+1) (s % V)),Q.set k (q:Int)),?_,?_,?_⟩;{exact hdst}
     ·refine Zv wk ?_;repeat' first|exact Zq|apply aI
      all_goals first|exact qU _|(refine qY ?_;rw[dP];simp[strip])
     show k<k+1;omega
    have b4O:g-1=q:=aj;rw[b4O,hrest];conv=>whnf
    rw[wrap_u32 (n:=(q:Int)) aj aj];refine⟨⟨aj,aj⟩,?_⟩;dsimp only[Cm];rw[Hu];dsimp only[zV];dsimp only[O6,xH];conv=>whnf
    refine⟨by rw[aC,hQL];omega,rfl,?_⟩;conv=>whnf
    refine ZG ?_;refine⟨(k,mid M k (Fv (b.length+1) (s % V)),Q.set k (q:Int)),?_,?_,?_⟩;{exact hdst}
    ·refine Zv wk ?_;repeat' first|exact Zq|apply aI
     all_goals first|exact qU _|(refine qY ?_;rw[dP];simp[strip])
    show k<k+1;omega
   (conv=>whnf);refine⟨(g-1,r+top),?_,?_,?_⟩
   ·exact⟨b2m,(by omega:q<=g-1),(by omega:r+top<4294967296),(by omega:g-1<=g0)⟩
   ·refine⟨?_,.refl rfl⟩;all_goals exact wk
   show g-1<g;omega
  have hG:g<=q+1:=hq ▸ Xb (B:=4294967296) (p:=p) aj hp0 TQ b2 b2' b3 hgr aj hgB;conv=>whnf
  rw[elv];refine ZG ?_;refine ZG ?_;refine⟨⟨aj,aj,aj⟩,aj,?_⟩;have ct:=a6O M v k (a.length+1-k) (g) hwM aj aj aj (by
   rw[hvv,hvl,bU,dK (4294967296^b.length)];exact lX aj hV2 aj)
  rw[hML,hvv,hvl,hseg.1,VH hVp hq.symm aj hG]at ct;conv=>whnf
  refine .gen _ _ (qX.frame [0] ct ⟨rfl,rfl,rfl,rfl⟩ ?_ ?_) λ_=>?_;{exact wk}
  ·repeat' first|exact Zq|apply aI
   all_goals (show AV.ms 0 _ _ _ 1=AV.ms 0 _ _ _ 1;congr 1 <;> omega)
  conv=>whnf
  constructor<;>intro hGq
  ·(conv=>whnf);rw[show(((g:Nat):Int)-1)=(q:Int) by omega,wrap_u64 (n:=(q:Int)) aj aj]
   (conv=>whnf);rw[elv]
   refine ZG ?_;refine ZG ?_;refine⟨⟨aj,aj,aj⟩,aj,?_⟩;have cg:=a7h (mid M k (Fv (b.length+1) (takeN s ((g)*V) (b.length+1)))) v k (a.length+1-k) (a2o hwM (Iw _ _)) (by rw[Qg];omega) (by rw[Qg];omega);rw[Qg,hvv,hvl,hGq,b2n]at cg;rw[hGq];conv=>whnf
   refine .gen _ _ (qX.frame [0] cg ⟨rfl,rfl,rfl,rfl⟩ ?_ ?_) λ_=>?_;{exact wk}
   ·repeat' first|exact Zq|apply aI
    all_goals (show AV.ms 0 _ _ _ 1=AV.ms 0 _ _ _ 1;congr 1 <;> omega)
   (conv=>whnf);rw[wrap_u32 (n:=(q:Int)) aj aj]
   refine⟨⟨aj,aj⟩,?_⟩;dsimp only[Cm];rw[Hu];dsimp only[zV];dsimp only[O6,xH];conv=>whnf
   refine⟨by rw[aC,hQL];omega,rfl,?_⟩;conv=>whnf
   refine ZG ?_;refine⟨(k,mid M k (Fv (b.length+1) (s % V)),Q.set k (q:Int)),?_,?_,?_⟩;{exact hdst}
   ·refine Zv wk ?_;repeat' first|exact Zq|apply aI
    all_goals first|exact qU _|(refine qY ?_;rw[dP];simp[strip])
   show k<k+1;omega
  have b4O:g=q:=aj;rw[b4O,hrest];conv=>whnf
  rw[wrap_u32 (n:=(q:Int)) aj aj];refine⟨⟨aj,aj⟩,?_⟩;dsimp only[Cm];rw[Hu];dsimp only[zV];dsimp only[O6,xH];conv=>whnf
  refine⟨by rw[aC,hQL];omega,rfl,?_⟩;conv=>whnf
  refine ZG ?_;refine⟨(k,mid M k (Fv (b.length+1) (s % V)),Q.set k (q:Int)),?_,?_,?_⟩;{exact hdst}
  ·refine Zv wk ?_;repeat' first|exact Zq|apply aI
   all_goals first|exact qU _|(refine qY ?_;rw[dP];simp[strip])
  show k<k+1;omega
 have hj0:j=0:=aj;subst hj0;obtain⟨f1,f2⟩:=hI.fin;have hQL:=hI.lq;have hML:=hI.lm;have hcq:=CU Q aj;rw[f1,hres.1]at hcq;have hcr:=a9K M sh aj aj;rw[f2,hres.2]at hcr;have hrl:x % y<4294967296^M.length:=(by have h1:=gI x (show 0<y by omega);have h2:4294967296^b.length<=4294967296^M.length:=bQ aj aj;have h3:=wJ hwy;omega);have hct:=CU (Fv M.length (x % y)) (by rw[vK];omega);rw[Ey hrl]at hct;conv=>whnf
 refine .gen _ _ (qX.Xe 0 rfl rfl aA (qX.vU hcq ?_ ⟨rfl,rfl⟩)) λ_=>?_
 ·repeat' first|exact Zq|apply aI
  refine qY ?_;simp;rw[bf aA]
 conv=>whnf
 refine .gen _ _ (qX.Xe 0 rfl rfl aA (qX.vU hcr ?_ ⟨rfl,rfl⟩)) λ_=>?_
 ·repeat' first|exact Zq|apply aI
  refine qY ?_;simp;rw[bf aA]
 conv=>whnf
 refine .zK hct ?_;exact ZH
theorem divC(x y:Nat)(hx:(wd x).length<=999999)(hy:(wd y).length<=1000000)(h0:y≠0):b1k x y:=by by_cases h:y<4294967296;{exact a6n x y aj h0 h};exact a6o x y hx hy aj
theorem Vo{a b:List Int}(ha:Ws a)(hb:Ws b)(la:a.length<=999999)(lb:b.length<=999999){x:Nat}(h:x<=max (val a) (val b)):(wd x).length<=999999:=by have h1:=wu ha;have h2:=wu hb;rcases Nat.le_total (val a) (val b)with hab|hab;{rw[Nat.max_eq_right hab]at h;have:=sQ h;omega};rw[Nat.max_eq_left hab]at h;have:=sQ h;omega
theorem qX.ok {P:Program} {f:Nat} {args:List AV} {H:Heap} {R:AV} {H':Heap} (hf:∃ fn,P.funcs[f]? = some fn/\(fn.name== "runtime.NumGoroutine")=false/\fn.body.isSome=true) (h:KD args->qX P f args H R H'):qX P f args H R H' :=
 ⟨hf,λc vs hr hv=>(h (a8e hv)).2 c vs hr hv⟩
theorem KT(r:Rat)(h1:r.num.length<=999999)(h2:r.den.length<=999999):Px r:=by have key:KD [r.av]->Px r:=(by intro hok;have w1:Ws r.num:=Ws.ok hok.1.2.1.2;have w2:Ws r.den:=Ws.ok hok.1.2.2.1.2;refine b6W r aj aj λ_ x y hy hx hy'=>?_;have l1:=Vo w1 w2 h1 h2 hx;have l2:=Vo w1 w2 h1 h2 hy';exact divC x y l1 aj hy);exact⟨qX.ok RD.v.1 λh=>(key h).v,qX.ok RD.s.1 λh=>(key h).s,qX.ok RD.p.1 λh=>(key h).p⟩
def wZ(r:Rat):Bool:=decide (r.num.length<=40)&&decide (r.den.length<=40)
theorem IX{r:Rat}(h:wZ r=true):Px r:=by simp only[wZ,aN,bW]at h;exact KT r aj aj
theorem Nz(r:Rat):ZQ 70 [r.av] [] (.bool (wZ r)) []:=by
 refine ZI Tryz.func70 λhok=>?_;conv=>whnf
 constructor<;>intro h
 ·have h:r.num.length<=40:=(by simp only[aC]at h;omega);conv=>whnf
  refine ZF ?_;simp[wZ,h];omega
 have h:¬r.num.length<=40:=(by simp only[aC]at h;omega);conv=>whnf
 refine ZF ?_;simp[wZ,h]
theorem Fg{α:Type}{p:α->Bool}{l:List α}{i:Nat}(h:i<l.length):(l.take (i+1)).all p=((l.take i).all p&&p l[i]):=by rw[eP,aH h,List.all_append];simp
theorem all_false{α:Type}{p:α->Bool}{l:List α}{x:α}(h:x∈l)(hp:p x=false):l.all p=false:=by
 cases ha:l.all p with
 |false=>rfl
 |true=>have:=bF.1 ha x h;rw[hp]at this;cases this
end S