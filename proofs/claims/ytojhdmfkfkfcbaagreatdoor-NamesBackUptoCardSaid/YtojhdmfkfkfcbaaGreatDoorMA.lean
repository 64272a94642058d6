import Derived.Test.YtojhdmfkfkfcbaaGreatDoorSxF
import Derived.Test.YtojhdmfkfkfcbaaGreatDoorProg
import Derived.Lib.DecodeN
import Derived.Test.YtojhdmfkfkfcbaaGreatDoorSxE
import Derived.Test.YtojhdmfkfkfcbaaGreatDoorShelf
set_option linter.unusedSimpArgs false
set_option linter.unusedVariables false
namespace Go.Proofs.YtojhdmfkfkfcbaaGreatDoor
open Go.Sx
def iO:List (List UInt8):=[[],[97,100,100],[115,117,98],[109,117,108],[100,105,118],[109,111,100],[97,110,100],[111,114],[120,111,114],[115,104,108],[115,104,114],[101,113],[108,101,115,115]]
def opAt(c:Nat):BY:=⟨(iO.getD c []).toArray⟩
def yS:List Int:=[0,1,56,2,57,49,28,3,61,58,42,50,38,29,17,4,62,47,59,36,45,43,51,22,53,39,33,30,24,18,12,5,63,55,48,27,60,41,37,16,46,35,44,21,52,32,23,11,54,26,40,15,34,20,31,10,25,14,19,9,13,8,7,6]
noncomputable def PG:Pg:=⟨Tryz.prog,
 (1,256,λc=>.int .u8 (Lib.firstT c))::
 (2,32,λc=>.int .u8 (if c%2=0 then Lib.accLo (c/2) else Lib.accHi (c/2)))::
 (3,13,λc=>.string (opAt c))::
 (4,64,λc=>.int .u8 (yS.getD c 0))::
 (0,0,λ_=>undef)::
 []⟩
theorem ty_0:TI.OK Tryz.prog 2 ⟨.int .i64,1,8,[.d (.int .i64 0)]⟩:=TI.mk' (z:=.int .i64 0) Tryz.underlying2 (by kernel_rfl) Z ⟨Z,tR⟩
theorem ty_1:TI.OK Tryz.prog 3 ⟨.int .i64,1,8,[.d (.int .i64 0)]⟩:=TI.mk' (z:=.int .i64 0) Tryz.underlying3 (by kernel_rfl) Z ⟨Z,tR⟩
theorem ty_2:TI.OK Tryz.prog 4 ⟨.bool,1,1,[.d (.bool false)]⟩:=TI.mk' (z:=.bool false) Tryz.underlying4 (by kernel_rfl) Z ⟨Z,tR⟩
theorem ty_3:TI.OK Tryz.prog 5 ⟨.int .u8,1,1,[.d (.int .u8 0)]⟩:=TI.mk' (z:=.int .u8 0) Tryz.underlying5 (by kernel_rfl) Z ⟨Z,tR⟩
theorem ty_4:TI.OK Tryz.prog 9 ⟨.str,1,16,[.d (.str .empty)]⟩:=TI.mk' (z:=.string .empty) Tryz.underlying9 (by kernel_rfl) Z ⟨Z,tR⟩
theorem ty_5:TI.OK Tryz.prog 21 ⟨.int .i32,1,4,[.d (.int .i32 0)]⟩:=TI.mk' (z:=.int .i32 0) Tryz.underlying21 (by kernel_rfl) Z ⟨Z,tR⟩
theorem ty_6:TI.OK Tryz.prog 178 ⟨.int .u64,1,8,[.d (.int .u64 0)]⟩:=TI.mk' (z:=.int .u64 0) Tryz.underlying178 (by kernel_rfl) Z ⟨Z,tR⟩
theorem ty_7:TI.OK Tryz.prog 36 ⟨.int .i64,1,8,[.d (.int .i64 0)]⟩:=TI.mk' (z:=.int .i64 0) Tryz.underlying36 (by kernel_rfl) Z ⟨Z,tR⟩
theorem ty_8:TI.OK Tryz.prog 141 ⟨.slice 5,1,24,[.aD]⟩:=TI.mk' (z:=.slice none 0 0) Tryz.underlying141 (by kernel_rfl) Z ⟨Z,tR⟩
theorem ty_9:TI.OK Tryz.prog 70 ⟨.slice 3,1,24,[.aD]⟩:=TI.mk' (z:=.slice none 0 0) Tryz.underlying70 (by kernel_rfl) Z ⟨Z,tR⟩
theorem aeO:TI.OK Tryz.prog 22 ⟨.slice 9,1,24,[.aD]⟩:=TI.mk' (z:=.slice none 0 0) Tryz.underlying22 (by kernel_rfl) Z ⟨Z,tR⟩
theorem aeP:TI.OK Tryz.prog 23 ⟨.slice 178,1,24,[.aD]⟩:=TI.mk' (z:=.slice none 0 0) Tryz.underlying23 (by kernel_rfl) Z ⟨Z,tR⟩
theorem aeQ:TI.OK Tryz.prog 259 ⟨.array 13 9,13,208,[.d (.str .empty)]⟩:=TI.mk' (z:=.agg (List.replicate 13 [Value.string .empty]).flatten.toArray) Tryz.underlying259 (by kernel_rfl) (by kernel_rfl) (FM (us:=[.d (.str .empty)]) (cs:=[.string .empty]) ⟨Z,tR⟩ 13)
theorem aeR:TI.OK Tryz.prog 199 ⟨.other,1,8,[.dead]⟩:=TI.mk' (z:=.nilFunc) ⟨_,Tryz.underlying199,tR⟩ (by kernel_rfl) Z ⟨Z,tR⟩
theorem aeS:TI.OK Tryz.prog 72 ⟨.struct [(0,5),(1,5),(2,3),(3,3),(4,3),(5,70),(6,70),(7,2),(8,3)] [],9,96,[.d (.int .u8 0),.d (.int .u8 0),.d (.int .i64 0),.d (.int .i64 0),.d (.int .i64 0),.aD,.aD,.d (.int .i64 0),.d (.int .i64 0)]⟩:=TI.mk' (z:=.agg #[.int .u8 0,.int .u8 0,.int .i64 0,.int .i64 0,.int .i64 0,.slice none 0 0,.slice none 0 0,.int .i64 0,.int .i64 0]) ⟨⟨_,Tryz.underlying72,Z⟩,.inl Z⟩ (by kernel_rfl) Z ⟨Z,Z,Z,Z,Z,Z,Z,Z,Z,tR⟩
theorem aeT:TI.OK Tryz.prog 61 ⟨.slice 72,1,24,[.aD]⟩:=TI.mk' (z:=.slice none 0 0) Tryz.underlying61 (by kernel_rfl) Z ⟨Z,tR⟩
theorem aeU:TI.OK Tryz.prog 58 ⟨.slice 61,1,24,[.aD]⟩:=TI.mk' (z:=.slice none 0 0) Tryz.underlying58 (by kernel_rfl) Z ⟨Z,tR⟩
theorem aeV:TI.OK Tryz.prog 60 ⟨.struct [(0,3),(1,3),(2,58)] [],3,40,[.d (.int .i64 0),.d (.int .i64 0),.aD]⟩:=TI.mk' (z:=.agg #[.int .i64 0,.int .i64 0,.slice none 0 0]) ⟨⟨_,Tryz.underlying60,Z⟩,.inl Z⟩ (by kernel_rfl) Z ⟨Z,Z,Z,tR⟩
theorem aeW:TI.OK Tryz.prog 183 ⟨.struct [(0,5),(1,3),(2,3)] [0,0,0],3,24,[.d (.int .u8 0),.d (.int .i64 0),.d (.int .i64 0)]⟩:=TI.mk' (z:=.agg #[.int .u8 0,.int .i64 0,.int .i64 0]) ⟨⟨_,Tryz.underlying183,Z⟩,.inr (by kernel_rfl)⟩ (by kernel_rfl) Z ⟨Z,Z,Z,tR⟩
theorem aeX:TI.OK Tryz.prog 102 ⟨.slice 183,1,24,[.aD]⟩:=TI.mk' (z:=.slice none 0 0) Tryz.underlying102 (by kernel_rfl) Z ⟨Z,tR⟩
theorem aeY:TI.OK Tryz.prog 78 ⟨.struct [(0,9),(1,3),(2,9),(3,3)] [2,0,2,0],4,48,[.d (.str .empty),.d (.int .i64 0),.d (.str .empty),.d (.int .i64 0)]⟩:=TI.mk' (z:=.agg #[.string .empty,.int .i64 0,.string .empty,.int .i64 0]) ⟨⟨_,Tryz.underlying78,Z⟩,.inr (by kernel_rfl)⟩ (by kernel_rfl) Z ⟨Z,Z,Z,Z,tR⟩
theorem aeZ:TI.OK Tryz.prog 87 ⟨.struct [(0,5),(1,5),(2,9),(3,9),(4,9),(5,22),(6,22),(7,2),(8,3)] [],9,120,[.d (.int .u8 0),.d (.int .u8 0),.d (.str .empty),.d (.str .empty),.d (.str .empty),.aD,.aD,.d (.int .i64 0),.d (.int .i64 0)]⟩:=TI.mk' (z:=.agg #[.int .u8 0,.int .u8 0,.string .empty,.string .empty,.string .empty,.slice none 0 0,.slice none 0 0,.int .i64 0,.int .i64 0]) ⟨⟨_,Tryz.underlying87,Z⟩,.inl Z⟩ (by kernel_rfl) Z ⟨Z,Z,Z,Z,Z,Z,Z,Z,Z,tR⟩
theorem ae0:TI.OK Tryz.prog 32 ⟨.slice 78,1,24,[.aD]⟩:=TI.mk' (z:=.slice none 0 0) Tryz.underlying32 (by kernel_rfl) Z ⟨Z,tR⟩
theorem ae1:TI.OK Tryz.prog 83 ⟨.slice 87,1,24,[.aD]⟩:=TI.mk' (z:=.slice none 0 0) Tryz.underlying83 (by kernel_rfl) Z ⟨Z,tR⟩
theorem ae2:TI.OK Tryz.prog 85 ⟨.struct [(0,9),(1,83),(2,3)] [],3,48,[.d (.str .empty),.aD,.d (.int .i64 0)]⟩:=TI.mk' (z:=.agg #[.string .empty,.slice none 0 0,.int .i64 0]) ⟨⟨_,Tryz.underlying85,Z⟩,.inl Z⟩ (by kernel_rfl) Z ⟨Z,Z,Z,tR⟩
theorem ae3:TI.OK Tryz.prog 80 ⟨.slice 85,1,24,[.aD]⟩:=TI.mk' (z:=.slice none 0 0) Tryz.underlying80 (by kernel_rfl) Z ⟨Z,tR⟩
theorem ae4:TI.OK Tryz.prog 82 ⟨.struct [(0,9),(1,22),(2,80),(3,3)] [],4,72,[.d (.str .empty),.aD,.aD,.d (.int .i64 0)]⟩:=TI.mk' (z:=.agg #[.string .empty,.slice none 0 0,.slice none 0 0,.int .i64 0]) ⟨⟨_,Tryz.underlying82,Z⟩,.inl Z⟩ (by kernel_rfl) Z ⟨Z,Z,Z,Z,tR⟩
theorem ae5:TI.OK Tryz.prog 33 ⟨.slice 82,1,24,[.aD]⟩:=TI.mk' (z:=.slice none 0 0) Tryz.underlying33 (by kernel_rfl) Z ⟨Z,tR⟩
theorem ae6:TI.OK Tryz.prog 35 ⟨.struct [(0,32),(1,33)] [],2,48,[.aD,.aD]⟩:=TI.mk' (z:=.agg #[.slice none 0 0,.slice none 0 0]) ⟨⟨_,Tryz.underlying35,Z⟩,.inl Z⟩ (by kernel_rfl) Z ⟨Z,Z,tR⟩
theorem ae7:TI.OK Tryz.prog 106 ⟨.struct [(0,3),(1,36)] [0,0],2,16,[.d (.int .i64 0),.d (.int .i64 0)]⟩:=TI.mk' (z:=.agg #[.int .i64 0,.int .i64 0]) ⟨⟨_,Tryz.underlying106,Z⟩,.inr (by kernel_rfl)⟩ (by kernel_rfl) Z ⟨Z,Z,tR⟩
theorem ae8:TI.OK Tryz.prog 110 ⟨.struct [(0,9),(1,102),(2,3),(3,3)] [],4,56,[.d (.str .empty),.aD,.d (.int .i64 0),.d (.int .i64 0)]⟩:=TI.mk' (z:=.agg #[.string .empty,.slice none 0 0,.int .i64 0,.int .i64 0]) ⟨⟨_,Tryz.underlying110,Z⟩,.inl Z⟩ (by kernel_rfl) Z ⟨Z,Z,Z,Z,tR⟩
theorem ae9:TI.OK Tryz.prog 108 ⟨.other,1,8,[.dead]⟩:=TI.mk' (z:=.pointer none) ⟨_,Tryz.underlying108,tR⟩ (by kernel_rfl) Z ⟨Z,tR⟩
theorem afa:TI.OK Tryz.prog 250 ⟨.other,1,8,[.dead]⟩:=TI.mk' (z:=.pointer none) ⟨_,Tryz.underlying250,tR⟩ (by kernel_rfl) Z ⟨Z,tR⟩
theorem afb:TI.OK Tryz.prog 1 ⟨.func,1,8,[.d .nf]⟩:=TI.mk' (z:=.nilFunc) ⟨_,_,_,Tryz.underlying1⟩ (by kernel_rfl) Z ⟨Z,tR⟩
theorem afc:TI.OK Tryz.prog 247 ⟨.func,1,8,[.d .nf]⟩:=TI.mk' (z:=.nilFunc) ⟨_,_,_,Tryz.underlying247⟩ (by kernel_rfl) Z ⟨Z,tR⟩
theorem afd:TI.OK Tryz.prog 143 ⟨.struct [(0,140),(1,141)] [],2,32,[.d .np,.aD]⟩:=TI.mk' (z:=.agg #[.pointer none,.slice none 0 0]) ⟨⟨_,Tryz.underlying143,Z⟩,.inl Z⟩ (by kernel_rfl) Z ⟨Z,Z,tR⟩
theorem afe:TI.OK Tryz.prog 253 ⟨.struct [(0,3),(1,4),(2,4),(3,4)] [0,1,1,1],4,16,[.d (.int .i64 0),.d (.bool false),.d (.bool false),.d (.bool false)]⟩:=TI.mk' (z:=.agg #[.int .i64 0,.bool false,.bool false,.bool false]) ⟨⟨_,Tryz.underlying253,Z⟩,.inr (by kernel_rfl)⟩ (by kernel_rfl) Z ⟨Z,Z,Z,Z,tR⟩
theorem aff:TI.OK Tryz.prog 255 ⟨.map 5 253,1,8,[.d .nm]⟩:=TI.mk' (z:=.map none) Tryz.underlying255 (by kernel_rfl) Z ⟨Z,tR⟩
theorem afg:TI.OK Tryz.prog 145 ⟨.iface,1,16,[.d .ni]⟩:=TI.mk' (z:=.nilIface) ⟨_,Tryz.underlying145⟩ (by kernel_rfl) Z ⟨Z,tR⟩
theorem afh:TI.OK Tryz.prog 140 ⟨.other,1,8,[.dead]⟩:=TI.mk' (z:=.pointer none) ⟨_,Tryz.underlying140,tR⟩ (by kernel_rfl) Z ⟨Z,tR⟩
theorem afi:TI.OK Tryz.prog 20 ⟨.iface,1,16,[.d .ni]⟩:=TI.mk' (z:=.nilIface) ⟨_,Tryz.underlying20⟩ (by kernel_rfl) Z ⟨Z,tR⟩
theorem afj:TI.OK Tryz.prog 248 ⟨.map 9 247,1,8,[.d .nm]⟩:=TI.mk' (z:=.map none) Tryz.underlying248 (by kernel_rfl) Z ⟨Z,tR⟩
theorem afk:TI.OK Tryz.prog 121 ⟨.map 9 3,1,8,[.d .nm]⟩:=TI.mk' (z:=.map none) Tryz.underlying121 (by kernel_rfl) Z ⟨Z,tR⟩
theorem afl:TI.OK Tryz.prog 162 ⟨.struct [(0,9),(1,3)] [2,0],2,24,[.d (.str .empty),.d (.int .i64 0)]⟩:=TI.mk' (z:=.agg #[.string .empty,.int .i64 0]) ⟨⟨_,Tryz.underlying162,Z⟩,.inr (by kernel_rfl)⟩ (by kernel_rfl) Z ⟨Z,Z,tR⟩
theorem afm:TI.OK Tryz.prog 24 ⟨.slice 162,1,24,[.aD]⟩:=TI.mk' (z:=.slice none 0 0) Tryz.underlying24 (by kernel_rfl) Z ⟨Z,tR⟩
theorem afn:TI.OK Tryz.prog 26 ⟨.struct [(0,22),(1,23),(2,24),(3,24),(4,3)] [],5,104,[.aD,.aD,.aD,.aD,.d (.int .i64 0)]⟩:=TI.mk' (z:=.agg #[.slice none 0 0,.slice none 0 0,.slice none 0 0,.slice none 0 0,.int .i64 0]) ⟨⟨_,Tryz.underlying26,Z⟩,.inl Z⟩ (by kernel_rfl) Z ⟨Z,Z,Z,Z,Z,tR⟩
theorem afo:TI.OK Tryz.prog 180 ⟨.array 2 3,2,16,[.d (.int .i64 0)]⟩:=TI.mk' (z:=.agg (List.replicate 2 [Value.int .i64 0]).flatten.toArray) Tryz.underlying180 (by kernel_rfl) (by kernel_rfl) (FM (us:=[.d (.int .i64 0)]) (cs:=[Value.int .i64 0]) ⟨Z,tR⟩ 2)
theorem afp:TI.OK Tryz.prog 92 ⟨.slice 180,1,24,[.aD]⟩:=TI.mk' (z:=.slice none 0 0) Tryz.underlying92 (by kernel_rfl) Z ⟨Z,tR⟩
theorem afq:TI.OK Tryz.prog 94 ⟨.struct [(0,26),(5,92)] [],6,128,[.aD,.aD,.aD,.aD,.d (.int .i64 0),.aD]⟩:=TI.mk' (z:=.agg #[.slice none 0 0,.slice none 0 0,.slice none 0 0,.slice none 0 0,.int .i64 0,.slice none 0 0]) ⟨⟨_,Tryz.underlying94,Z⟩,.inl Z⟩ (by kernel_rfl) Z ⟨Z,Z,Z,Z,Z,Z,tR⟩
theorem afr:TI.OK Tryz.prog 171 ⟨.func,1,8,[.d .nf]⟩:=TI.mk' (z:=.nilFunc) ⟨_,_,_,Tryz.underlying171⟩ (by kernel_rfl) Z ⟨Z,tR⟩
theorem afs:TI.OK Tryz.prog 139 ⟨.func,1,8,[.d .nf]⟩:=TI.mk' (z:=.nilFunc) ⟨_,_,_,Tryz.underlying139⟩ (by kernel_rfl) Z ⟨Z,tR⟩
theorem aft:TI.OK Tryz.prog 204 ⟨.func,1,8,[.d .nf]⟩:=TI.mk' (z:=.nilFunc) ⟨_,_,_,Tryz.underlying204⟩ (by kernel_rfl) Z ⟨Z,tR⟩
theorem afu:TI.OK Tryz.prog 156 ⟨.func,1,8,[.d .nf]⟩:=TI.mk' (z:=.nilFunc) ⟨_,_,_,Tryz.underlying156⟩ (by kernel_rfl) Z ⟨Z,tR⟩
theorem afv:TI.OK Tryz.prog 233 ⟨.func,1,8,[.d .nf]⟩:=TI.mk' (z:=.nilFunc) ⟨_,_,_,Tryz.underlying233⟩ (by kernel_rfl) Z ⟨Z,tR⟩
theorem afw:TI.OK Tryz.prog 173 ⟨.struct [(0,171),(1,3)] [],2,16,[.d .nf,.d (.int .i64 0)]⟩:=TI.mk' (z:=.agg #[.nilFunc,.int .i64 0]) ⟨⟨_,Tryz.underlying173,Z⟩,.inl Z⟩ (by kernel_rfl) Z ⟨Z,Z,tR⟩
theorem afx:TI.OK Tryz.prog 174 ⟨.map 9 173,1,8,[.d .nm]⟩:=TI.mk' (z:=.map none) Tryz.underlying174 (by kernel_rfl) Z ⟨Z,tR⟩
theorem afy:TI.OK Tryz.prog 91 ⟨.other,1,8,[.dead]⟩:=TI.mk' (z:=.pointer none) ⟨_,Tryz.underlying91,tR⟩ (by kernel_rfl) Z ⟨Z,tR⟩
theorem afz:TI.OK Tryz.prog 243 ⟨.other,1,8,[.dead]⟩:=TI.mk' (z:=.pointer none) ⟨_,Tryz.underlying243,tR⟩ (by kernel_rfl) Z ⟨Z,tR⟩
theorem afA:TI.OK Tryz.prog 66 ⟨.struct [(0,3),(1,3)] [0,0],2,16,[.d (.int .i64 0),.d (.int .i64 0)]⟩:=TI.mk' (z:=.agg #[.int .i64 0,.int .i64 0]) ⟨⟨_,Tryz.underlying66,Z⟩,.inr (by kernel_rfl)⟩ (by kernel_rfl) Z ⟨Z,Z,tR⟩
theorem afB:TI.OK Tryz.prog 27 ⟨.slice 66,1,24,[.aD]⟩:=TI.mk' (z:=.slice none 0 0) Tryz.underlying27 (by kernel_rfl) Z ⟨Z,tR⟩
theorem afC:TI.OK Tryz.prog 28 ⟨.slice 60,1,24,[.aD]⟩:=TI.mk' (z:=.slice none 0 0) Tryz.underlying28 (by kernel_rfl) Z ⟨Z,tR⟩
theorem afD:TI.OK Tryz.prog 30 ⟨.struct [(0,27),(1,28),(2,3)] [],3,56,[.aD,.aD,.d (.int .i64 0)]⟩:=TI.mk' (z:=.agg #[.slice none 0 0,.slice none 0 0,.int .i64 0]) ⟨⟨_,Tryz.underlying30,Z⟩,.inl Z⟩ (by kernel_rfl) Z ⟨Z,Z,Z,tR⟩
theorem afE:TI.OK Tryz.prog 118 ⟨.struct [(0,3),(1,36)] [0,0],2,16,[.d (.int .i64 0),.d (.int .i64 0)]⟩:=TI.mk' (z:=.agg #[.int .i64 0,.int .i64 0]) ⟨⟨_,Tryz.underlying118,Z⟩,.inr (by kernel_rfl)⟩ (by kernel_rfl) Z ⟨Z,Z,tR⟩
theorem afF:TI.OK Tryz.prog 133 ⟨.struct [(0,121),(1,121)] [],2,16,[.d .nm,.d .nm]⟩:=TI.mk' (z:=.agg #[.map none,.map none]) ⟨⟨_,Tryz.underlying133,Z⟩,.inl Z⟩ (by kernel_rfl) Z ⟨Z,Z,tR⟩
theorem afG:TI.OK Tryz.prog 131 ⟨.slice 133,1,24,[.aD]⟩:=TI.mk' (z:=.slice none 0 0) Tryz.underlying131 (by kernel_rfl) Z ⟨Z,tR⟩
theorem afH:TI.OK Tryz.prog 123 ⟨.struct [(0,26),(5,35),(7,121),(8,121)] [],9,168,[.aD,.aD,.aD,.aD,.d (.int .i64 0),.aD,.aD,.d .nm,.d .nm]⟩:=TI.mk' (z:=.agg #[.slice none 0 0,.slice none 0 0,.slice none 0 0,.slice none 0 0,.int .i64 0,.slice none 0 0,.slice none 0 0,.map none,.map none]) ⟨⟨_,Tryz.underlying123,Z⟩,.inl Z⟩ (by kernel_rfl) Z ⟨Z,Z,Z,Z,Z,Z,Z,Z,Z,tR⟩
theorem afI:TI.OK Tryz.prog 120 ⟨.other,1,8,[.dead]⟩:=TI.mk' (z:=.pointer none) ⟨_,Tryz.underlying120,tR⟩ (by kernel_rfl) Z ⟨Z,tR⟩
theorem afJ:TI.OK Tryz.prog 205 ⟨.func,1,8,[.d .nf]⟩:=TI.mk' (z:=.nilFunc) ⟨_,_,_,Tryz.underlying205⟩ (by kernel_rfl) Z ⟨Z,tR⟩
theorem afK:TI.OK Tryz.prog 129 ⟨.func,1,8,[.d .nf]⟩:=TI.mk' (z:=.nilFunc) ⟨_,_,_,Tryz.underlying129⟩ (by kernel_rfl) Z ⟨Z,tR⟩
theorem afL:TI.OK Tryz.prog 130 ⟨.func,1,8,[.d .nf]⟩:=TI.mk' (z:=.nilFunc) ⟨_,_,_,Tryz.underlying130⟩ (by kernel_rfl) Z ⟨Z,tR⟩
theorem afM:TI.OK Tryz.prog 90 ⟨.func,1,8,[.d .nf]⟩:=TI.mk' (z:=.nilFunc) ⟨_,_,_,Tryz.underlying90⟩ (by kernel_rfl) Z ⟨Z,tR⟩
theorem afN:TI.OK Tryz.prog 195 ⟨.func,1,8,[.d .nf]⟩:=TI.mk' (z:=.nilFunc) ⟨_,_,_,Tryz.underlying195⟩ (by kernel_rfl) Z ⟨Z,tR⟩
theorem afO:TI.OK Tryz.prog 196 ⟨.func,1,8,[.d .nf]⟩:=TI.mk' (z:=.nilFunc) ⟨_,_,_,Tryz.underlying196⟩ (by kernel_rfl) Z ⟨Z,tR⟩
theorem afP:TI.OK Tryz.prog 75 ⟨.func,1,8,[.d .nf]⟩:=TI.mk' (z:=.nilFunc) ⟨_,_,_,Tryz.underlying75⟩ (by kernel_rfl) Z ⟨Z,tR⟩
theorem afQ:TI.OK Tryz.prog 74 ⟨.func,1,8,[.d .nf]⟩:=TI.mk' (z:=.nilFunc) ⟨_,_,_,Tryz.underlying74⟩ (by kernel_rfl) Z ⟨Z,tR⟩
theorem afR:TI.OK Tryz.prog 73 ⟨.func,1,8,[.d .nf]⟩:=TI.mk' (z:=.nilFunc) ⟨_,_,_,Tryz.underlying73⟩ (by kernel_rfl) Z ⟨Z,tR⟩
theorem afS:TI.OK Tryz.prog 266 ⟨.array 64 5,64,64,[.d (.int .u8 0)]⟩:=TI.mk' (z:=.agg (List.replicate 64 [Value.int .u8 0]).flatten.toArray) Tryz.underlying266 (by kernel_rfl) (by kernel_rfl) (FM (us:=[.d (.int .u8 0)]) (cs:=[Value.int .u8 0]) ⟨Z,tR⟩ 64)
def tys:List (Nat×TI):=
 (2,⟨.int .i64,1,8,[.d (.int .i64 0)]⟩)::
 (3,⟨.int .i64,1,8,[.d (.int .i64 0)]⟩)::
 (4,⟨.bool,1,1,[.d (.bool false)]⟩)::
 (5,⟨.int .u8,1,1,[.d (.int .u8 0)]⟩)::
 (9,⟨.str,1,16,[.d (.str .empty)]⟩)::
 (21,⟨.int .i32,1,4,[.d (.int .i32 0)]⟩)::
 (178,⟨.int .u64,1,8,[.d (.int .u64 0)]⟩)::
 (36,⟨.int .i64,1,8,[.d (.int .i64 0)]⟩)::
 (141,⟨.slice 5,1,24,[.aD]⟩)::
 (70,⟨.slice 3,1,24,[.aD]⟩)::
 (22,⟨.slice 9,1,24,[.aD]⟩)::
 (23,⟨.slice 178,1,24,[.aD]⟩)::
 (259,⟨.array 13 9,13,208,[.d (.str .empty)]⟩)::
 (199,⟨.other,1,8,[.dead]⟩)::
 (72,⟨.struct [(0,5),(1,5),(2,3),(3,3),(4,3),(5,70),(6,70),(7,2),(8,3)] [],9,96,[.d (.int .u8 0),.d (.int .u8 0),.d (.int .i64 0),.d (.int .i64 0),.d (.int .i64 0),.aD,.aD,.d (.int .i64 0),.d (.int .i64 0)]⟩)::
 (61,⟨.slice 72,1,24,[.aD]⟩)::
 (58,⟨.slice 61,1,24,[.aD]⟩)::
 (60,⟨.struct [(0,3),(1,3),(2,58)] [],3,40,[.d (.int .i64 0),.d (.int .i64 0),.aD]⟩)::
 (183,⟨.struct [(0,5),(1,3),(2,3)] [0,0,0],3,24,[.d (.int .u8 0),.d (.int .i64 0),.d (.int .i64 0)]⟩)::
 (102,⟨.slice 183,1,24,[.aD]⟩)::
 (78,⟨.struct [(0,9),(1,3),(2,9),(3,3)] [2,0,2,0],4,48,[.d (.str .empty),.d (.int .i64 0),.d (.str .empty),.d (.int .i64 0)]⟩)::
 (87,⟨.struct [(0,5),(1,5),(2,9),(3,9),(4,9),(5,22),(6,22),(7,2),(8,3)] [],9,120,[.d (.int .u8 0),.d (.int .u8 0),.d (.str .empty),.d (.str .empty),.d (.str .empty),.aD,.aD,.d (.int .i64 0),.d (.int .i64 0)]⟩)::
 (32,⟨.slice 78,1,24,[.aD]⟩)::
 (83,⟨.slice 87,1,24,[.aD]⟩)::
 (85,⟨.struct [(0,9),(1,83),(2,3)] [],3,48,[.d (.str .empty),.aD,.d (.int .i64 0)]⟩)::
 (80,⟨.slice 85,1,24,[.aD]⟩)::
 (82,⟨.struct [(0,9),(1,22),(2,80),(3,3)] [],4,72,[.d (.str .empty),.aD,.aD,.d (.int .i64 0)]⟩)::
 (33,⟨.slice 82,1,24,[.aD]⟩)::
 (35,⟨.struct [(0,32),(1,33)] [],2,48,[.aD,.aD]⟩)::
 (106,⟨.struct [(0,3),(1,36)] [0,0],2,16,[.d (.int .i64 0),.d (.int .i64 0)]⟩)::
 (110,⟨.struct [(0,9),(1,102),(2,3),(3,3)] [],4,56,[.d (.str .empty),.aD,.d (.int .i64 0),.d (.int .i64 0)]⟩)::
 (108,⟨.other,1,8,[.dead]⟩)::
 (250,⟨.other,1,8,[.dead]⟩)::
 (1,⟨.func,1,8,[.d .nf]⟩)::
 (247,⟨.func,1,8,[.d .nf]⟩)::
 (143,⟨.struct [(0,140),(1,141)] [],2,32,[.d .np,.aD]⟩)::
 (253,⟨.struct [(0,3),(1,4),(2,4),(3,4)] [0,1,1,1],4,16,[.d (.int .i64 0),.d (.bool false),.d (.bool false),.d (.bool false)]⟩)::
 (255,⟨.map 5 253,1,8,[.d .nm]⟩)::
 (145,⟨.iface,1,16,[.d .ni]⟩)::
 (140,⟨.other,1,8,[.dead]⟩)::
 (20,⟨.iface,1,16,[.d .ni]⟩)::
 (248,⟨.map 9 247,1,8,[.d .nm]⟩)::
 (121,⟨.map 9 3,1,8,[.d .nm]⟩)::
 (162,⟨.struct [(0,9),(1,3)] [2,0],2,24,[.d (.str .empty),.d (.int .i64 0)]⟩)::
 (24,⟨.slice 162,1,24,[.aD]⟩)::
 (26,⟨.struct [(0,22),(1,23),(2,24),(3,24),(4,3)] [],5,104,[.aD,.aD,.aD,.aD,.d (.int .i64 0)]⟩)::
 (180,⟨.array 2 3,2,16,[.d (.int .i64 0)]⟩)::
 (92,⟨.slice 180,1,24,[.aD]⟩)::
 (94,⟨.struct [(0,26),(5,92)] [],6,128,[.aD,.aD,.aD,.aD,.d (.int .i64 0),.aD]⟩)::
 (171,⟨.func,1,8,[.d .nf]⟩)::
 (139,⟨.func,1,8,[.d .nf]⟩)::
 (204,⟨.func,1,8,[.d .nf]⟩)::
 (156,⟨.func,1,8,[.d .nf]⟩)::
 (233,⟨.func,1,8,[.d .nf]⟩)::
 (173,⟨.struct [(0,171),(1,3)] [],2,16,[.d .nf,.d (.int .i64 0)]⟩)::
 (174,⟨.map 9 173,1,8,[.d .nm]⟩)::
 (91,⟨.other,1,8,[.dead]⟩)::
 (243,⟨.other,1,8,[.dead]⟩)::
 (66,⟨.struct [(0,3),(1,3)] [0,0],2,16,[.d (.int .i64 0),.d (.int .i64 0)]⟩)::
 (27,⟨.slice 66,1,24,[.aD]⟩)::
 (28,⟨.slice 60,1,24,[.aD]⟩)::
 (30,⟨.struct [(0,27),(1,28),(2,3)] [],3,56,[.aD,.aD,.d (.int .i64 0)]⟩)::
 (118,⟨.struct [(0,3),(1,36)] [0,0],2,16,[.d (.int .i64 0),.d (.int .i64 0)]⟩)::
 (133,⟨.struct [(0,121),(1,121)] [],2,16,[.d .nm,.d .nm]⟩)::
 (131,⟨.slice 133,1,24,[.aD]⟩)::
 (123,⟨.struct [(0,26),(5,35),(7,121),(8,121)] [],9,168,[.aD,.aD,.aD,.aD,.d (.int .i64 0),.aD,.aD,.d .nm,.d .nm]⟩)::
 (120,⟨.other,1,8,[.dead]⟩)::
 (205,⟨.func,1,8,[.d .nf]⟩)::
 (129,⟨.func,1,8,[.d .nf]⟩)::
 (130,⟨.func,1,8,[.d .nf]⟩)::
 (90,⟨.func,1,8,[.d .nf]⟩)::
 (195,⟨.func,1,8,[.d .nf]⟩)::
 (196,⟨.func,1,8,[.d .nf]⟩)::
 (75,⟨.func,1,8,[.d .nf]⟩)::
 (74,⟨.func,1,8,[.d .nf]⟩)::
 (73,⟨.func,1,8,[.d .nf]⟩)::
 (266,⟨.array 64 5,64,64,[.d (.int .u8 0)]⟩)::
 []
theorem aA:bV Tryz.prog tys:=
 And.intro ty_0 <|
 And.intro ty_1 <|
 And.intro ty_2 <|
 And.intro ty_3 <|
 And.intro ty_4 <|
 And.intro ty_5 <|
 And.intro ty_6 <|
 And.intro ty_7 <|
 And.intro ty_8 <|
 And.intro ty_9 <|
 And.intro aeO <|
 And.intro aeP <|
 And.intro aeQ <|
 And.intro aeR <|
 And.intro aeS <|
 And.intro aeT <|
 And.intro aeU <|
 And.intro aeV <|
 And.intro aeW <|
 And.intro aeX <|
 And.intro aeY <|
 And.intro aeZ <|
 And.intro ae0 <|
 And.intro ae1 <|
 And.intro ae2 <|
 And.intro ae3 <|
 And.intro ae4 <|
 And.intro ae5 <|
 And.intro ae6 <|
 And.intro ae7 <|
 And.intro ae8 <|
 And.intro ae9 <|
 And.intro afa <|
 And.intro afb <|
 And.intro afc <|
 And.intro afd <|
 And.intro afe <|
 And.intro aff <|
 And.intro afg <|
 And.intro afh <|
 And.intro afi <|
 And.intro afj <|
 And.intro afk <|
 And.intro afl <|
 And.intro afm <|
 And.intro afn <|
 And.intro afo <|
 And.intro afp <|
 And.intro afq <|
 And.intro afr <|
 And.intro afs <|
 And.intro aft <|
 And.intro afu <|
 And.intro afv <|
 And.intro afw <|
 And.intro afx <|
 And.intro afy <|
 And.intro afz <|
 And.intro afA <|
 And.intro afB <|
 And.intro afC <|
 And.intro afD <|
 And.intro afE <|
 And.intro afF <|
 And.intro afG <|
 And.intro afH <|
 And.intro afI <|
 And.intro afJ <|
 And.intro afK <|
 And.intro afL <|
 And.intro afM <|
 And.intro afN <|
 And.intro afO <|
 And.intro afP <|
 And.intro afQ <|
 And.intro afR <|
 And.intro afS <|
 trivial
theorem ay:Tryz.prog.follows .mixedOrders=true:=by kernel_rfl
def cfg(n:Nat):Cfg:=⟨n,0,true,tys⟩
def dP(n fix:Nat):Cfg:=⟨n,fix,true,tys⟩
end Go.Proofs.YtojhdmfkfkfcbaaGreatDoor
namespace Go.Proofs.YtojhdmfkfkfcbaaGreatDoor
open Go.Sx
set_option maxRecDepth 100000
theorem zB(r:Int):Pure PG 140 [.d (.int .i32 r)] (vb (decide (48≤r)&&decide (r≤57))) []:=by
 refine aG.mk (cfg 9) aA [] Tryz.func140 Z (by kernel_rfl) Z Z Z ?_
 intro C x
 refine x.exit Z ?_ ?_
 ·exact tR
 ·exact⟨.inr Z,Z,tR,Z⟩
def afT(n:Nat):Cfg:=dP n 1
theorem oF(r a b:Int):aG PG 189 1 [.d (.int .i32 a),.d (.int .i32 b),.ptr 0 0] [.box [.d (.int .i32 r)]] (vb (decide (a≤r)&&decide (r≤b))) [.box [.d (.int .i32 r)]]:=by
 refine aG.mk (afT 14) aA [0] Tryz.func189 Z (by kernel_rfl) Z Z Z ?_
 intro C x
 refine x.exit Z tR ?_
 exact⟨.inr Z,Z,⟨⟨Z,tR⟩,tR⟩,Z⟩
theorem D9(r:Int):Pure PG 164 [.d (.int .i32 r)] (vb (decide (97≤r)&&decide (r≤122)||decide (65≤r)&&decide (r≤90)||decide (r=95)||decide (945≤r)&&decide (r≤969)||decide (913≤r)&&decide (r≤937)&&!decide (r=930))) []:=by
 refine aG.mk (cfg 27) aA [] Tryz.func164 Z (by kernel_rfl) Z Z Z ?_
 intro C x
 refine x.call [0] Z tR Z (oF r 97 122) Z ⟨Z,Z,⟨Z,Z⟩,tR⟩ ⟨⟨Z,tR⟩,tR⟩ ?_
 refine x.pF [0] Z tR Z (λ_=>oF r 65 90) Z ⟨Z,Z,⟨Z,Z⟩,tR⟩ ⟨⟨Z,tR⟩,tR⟩ ⟨⟨Z,tR⟩,tR⟩ ?_
 refine x.pF [0] Z ?_ Z (λ_=>oF r 945 969) Z ⟨Z,Z,⟨Z,Z⟩,tR⟩ ⟨⟨Z,tR⟩,tR⟩ ⟨⟨Z,tR⟩,tR⟩ ?_
 ·exact tR
 refine x.pF [0] Z tR Z (λ_=>oF r 913 937) Z ⟨Z,Z,⟨Z,Z⟩,tR⟩ ⟨⟨Z,tR⟩,tR⟩ ⟨⟨Z,tR⟩,tR⟩ ?_
 refine x.exit Z ?_ ?_
 ·exact tR
 ·refine⟨.inr Z,?_,tR,Z⟩
  rfl
theorem ado(s:BY)(i:Nat):sb s i=((s.get! i).toNat:Int):=by
 unfold sb
 congr 2
 cases s with
 | mk d=>
  show d.toList.getD i 0=d[i]!
  simp [agM,getElem!_def]
  cases h:d[i]?<;>simp<;>rfl
theorem wrap_u8{n:Nat}(h:n<256):IntKind.u8.wrap (n:Int)=n:=by
 show (n:Int)%256=n
 omega
theorem mask(x:Nat)(m k:Nat)(hx:x<256)(hm:m=2 ^ k-1)(hm':m<256):ou .and .u8 (x:Int) (m:Int)=((x%2 ^ k:Nat):Int):=by
 unfold ou
 simp only
 rw[BitVec.toNat_and]
 have h1:(BitVec.ofInt IntKind.u8.bits (x:Int)).toNat=x:=by
  show (BitVec.ofInt 8 (x:Int)).toNat=x
  simp [BitVec.toNat_ofInt];omega
 have h2:(BitVec.ofInt IntKind.u8.bits (m:Int)).toNat=m:=by
  show (BitVec.ofInt 8 (m:Int)).toNat=m
  simp [BitVec.toNat_ofInt];omega
 rw[h1,h2,hm,Nat.and_two_pow_sub_one_eq_mod]
 refine wrap_u8 (Nat.lt_of_le_of_lt (Nat.mod_le _ _) hx)
theorem wo{α:Type}{c c':Prop}[Decidable c][Decidable c']{x x' y y':α}(h:c↔c')(e1:x=x')(e2:y=y'):ite c x y=ite c' x' y':=by
 subst e1 e2
 by_cases hc:c
 ·rw[if_pos hc,if_pos (h.1 hc)]
 ·rw[if_neg hc,if_neg (λh'=>hc (h.2 h'))]
def bt(s:BY)(i:Nat):Nat:=(s.get! i).toNat
theorem su(s:BY)(i:Nat):sb s i=(bt s i:Int):=ado s i
theorem AL(s:BY)(i:Nat):bt s i<256:=(s.get! i).toNat_lt
def dec(sz p a b c d:Nat):Nat×Nat:=
 if a<128 then (a,1)
 else if a/32=6∧p+1<sz∧b/64=2 then
  if 128≤a%32*64+b%64 then (a%32*64+b%64,2) else (65533,1)
 else if a/16=14∧p+1<sz∧b/64=2∧p+2<sz∧c/64=2 then
  if 2048≤a%16*4096+b%64*64+c%64∧¬(55296≤a%16*4096+b%64*64+c%64∧a%16*4096+b%64*64+c%64≤57343)
  then (a%16*4096+b%64*64+c%64,3) else (65533,1)
 else if a/8=30∧p+1<sz∧b/64=2∧p+2<sz∧c/64=2∧p+3<sz∧d/64=2 then
  if 65536≤a%8*262144+b%64*4096+c%64*64+d%64∧a%8*262144+b%64*4096+c%64*64+d%64≤1114111
  then (a%8*262144+b%64*4096+c%64*64+d%64,4) else (65533,1)
 else (65533,1)
theorem bK(s:BY)(p:Nat):Utf8.decode s p=dec s.size p (bt s p) (bt s (p+1)) (bt s (p+2)) (bt s (p+3)):=by
 unfold Utf8.decode dec
 have hr:Utf8.runeError=65533:=rfl
 have e:∀k,(s.get! k).toNat=bt s k:=λk=>rfl
 have h1:=AL s (p+1)
 have h2:=AL s (p+2)
 have h3:=AL s (p+3)
 have h0:=AL s p
 simp only[hr,e,Nat.add_zero,agN,agT,beq_iff_eq,and_assoc]
 refine wo Iff.rfl Z (wo Iff.rfl Z (wo Iff.rfl (wo ?_ Z Z) (wo Iff.rfl (wo ?_ Z Z) Z)))
 ·simp only[Utf8.valid,Bool.or_eq_true,agN,agT]
  omega
 ·simp only[Utf8.valid,Bool.or_eq_true,agN,agT]
  omega
def kI(s:BY)(i:Int):Int×Int:=
 if 0≤i∧i<s.size then
  if (Utf8.decode s i.toNat).2=1∧128≤bt s i.toNat then (0,0) else (((Utf8.decode s i.toNat).1:Int),((Utf8.decode s i.toNat).2:Int))
 else (0,0)
section
variable{s:BY}{i:Int}(h:0≤i∧i<s.size)
include h
end
section
variable{s:BY}{i:Int}(h:0≤i∧i<s.size)(hs:s.size≤9223372036854775807)
include h hs
end
def SQ(s:BY)(i:Int):Int:=if (kI s i).2=0 then i+1 else i+(kI s i).2
theorem aY(s:BY)(p:Nat):1≤(Utf8.decode s p).2∧(Utf8.decode s p).2≤4∧(Utf8.decode s p).1<4294967296:=by
 rw[bK]
 have h0:=AL s p
 unfold dec
 repeat' split
 all_goals simp
 all_goals omega
def KP(s:BY):Nat->Int->Int->Int
 | 0,_,c=>c
 | n+1,i,c=>if i<s.size then KP s n (SQ s i) (c+1) else c
def dB(s:BY):Nat->Int->Int
 | 0,_=>-1
 | n+1,i=>if i<s.size then if (kI s i).2=0 then i else dB s n (i+(kI s i).2) else -1
theorem lY{s:BY}{n:Nat}{i:Int}(h:¬i<s.size):dB s n i=-1:=by
 cases n with
 | zero=>rfl
 | succ n=>rw[dB,if_neg h]
theorem aaQ(sz p a b c d:Nat)(h1:(dec sz p a b c d).2=1)(h2:128≤a):(dec sz p a b c d).1=65533:=by
 unfold dec at *
 split
 ·omega
 split
 ·rw[if_neg (by omega)] at h1
  split
  ·rename_i h3 h4 h5;rw[if_pos h4,if_pos h5] at h1;simp at h1
  ·rfl
 split
 ·rename_i h3 h4 h5
  rw[if_neg h3,if_neg h4,if_pos h5] at h1
  split
  ·rename_i h6;rw[if_pos h6] at h1;simp at h1
  ·rfl
 split
 ·rename_i h3 h4 h5 h6
  rw[if_neg h3,if_neg h4,if_neg h5,if_pos h6] at h1
  split
  ·rename_i h7;rw[if_pos h7] at h1;simp at h1
  ·rfl
 ·rfl
theorem AO{s:BY}{p:Nat}(h:p<s.size):kI s (p:Int)=if (Utf8.decode s p).2=1∧128≤bt s p then (0,0) else (((Utf8.decode s p).1:Int),((Utf8.decode s p).2:Int)):=by
 unfold kI
 rw[if_pos (by omega),ag1]
theorem MV{s:BY}{p:Nat}(h:p<s.size):SQ s (p:Int)=((p+(Utf8.decode s p).2:Nat):Int):=by
 have hd:=aY s p
 unfold SQ
 rw[AO h]
 by_cases h1:(Utf8.decode s p).2=1∧128≤bt s p
 ·rw[if_pos h1,if_pos Z,h1.1];rfl
 ·rw[if_neg h1,if_neg (by show ¬((Utf8.decode s p).2:Int)=0;omega)];rfl
theorem MW{F:Nat->Prop}{w:World}(h:jG PG.env F w):Lib.Utf8Tabs 1 2 w:=by
 refine⟨λc hc=>(h _ _ _ (.head _)).2.1 c hc,λi hi=>⟨?_,?_⟩⟩
 ·have:=(h _ _ _ (.tail _ (.head _))).2.1 (2*i) (by omega)
  rw[this,if_pos (by omega),show 2*i/2=i by omega]
 ·have:=(h _ _ _ (.tail _ (.head _))).2.1 (2*i+1) (by omega)
  rw[this,if_neg (by omega),show (2*i+1)/2=i by omega]
theorem uo{A B:Nat×Nat×(Nat->Value)}{l:List (Nat×Nat×(Nat->Value))}{Q:Nat->Nat->(Nat->Value)->Prop}(h:Q B.1 B.2.1 B.2.2)(k:A∈l->Q A.1 A.2.1 A.2.2):A∈B::l->Q A.1 A.2.1 A.2.2:=λhm=>by
 rcases List.mem_cons.1 hm with rfl | hm
 ·exact h
 ·exact k hm
theorem MX{W:World}(h:Lib.Utf8Tabs 1 2 W)
  (hN:∀j,j<13->W.cell? ⟨3,j,none⟩=some (.string (opAt j)))
  (hT:∀j,j<64->W.cell? ⟨4,j,none⟩=some (.int .u8 (yS.getD j 0)))
  (hL:∃m,W.cell? ⟨0,0,none⟩=some (.int .i64 m))
  : jG PG.env (λk=>k<W.heap.size) W:=by
 have lt:∀{b j:Nat} {v:Value},W.cell? ⟨b,j,none⟩=some v->b<W.heap.size:=λ{b j v} hc=>by
  refine Classical.byContradiction λhn=>?_
  have:W.heap[b]?=none:=Array.getElem?_eq_none (by omega)
  simp [World.cell?,this] at hc
 intro g n f hm
 rcases List.mem_cons.1 hm with e | hm
 ·simp only[agW] at e
  obtain⟨rfl,rfl,rfl⟩:=e
  exact⟨lt (h.1 0 (by omega)),λj hj=>h.1 j hj,λh0=>by cases h0⟩
 ·rcases List.mem_cons.1 hm with e | hm
  ·simp only[agW] at e
   obtain⟨rfl,rfl,rfl⟩:=e
   refine⟨lt (h.2 0 (by omega)).1,λj hj=>?_,λh0=>by cases h0⟩
   obtain⟨h1,h2⟩:=h.2 (j/2) (by omega)
   by_cases hj2:j%2=0
   ·have e:2*(j/2)=j:=by omega
    dsimp only
    rw[if_pos hj2,←h1,e]
   ·have e:2*(j/2)+1=j:=by omega
    dsimp only
    rw[if_neg hj2,←h2,e]
  ·revert hm
   refine uo (A:=(g,n,f)) (Q:=λg n f=>(g<W.heap.size)∧(∀j,j<n->W.cell? ⟨g,j,none⟩=some (f j))∧(n=0->∃m,W.cell? ⟨g,0,none⟩=some (.int .i64 m))) ?_ ?_
   ·exact⟨lt (hN 0 (by omega)),λj hj=>hN j hj,λh0=>by cases h0⟩
   refine uo (A:=(g,n,f)) (Q:=λg n f=>(g<W.heap.size)∧(∀j,j<n->W.cell? ⟨g,j,none⟩=some (f j))∧(n=0->∃m,W.cell? ⟨g,0,none⟩=some (.int .i64 m))) ?_ ?_
   ·exact⟨lt (hT 0 (by omega)),λj hj=>hT j hj,λh0=>by cases h0⟩
   refine uo (A:=(g,n,f)) (Q:=λg n f=>(g<W.heap.size)∧(∀j,j<n->W.cell? ⟨g,j,none⟩=some (f j))∧(n=0->∃m,W.cell? ⟨g,0,none⟩=some (.int .i64 m))) ?_ ?_
   ·exact⟨lt hL.choose_spec,λj hj=>absurd hj (agV _),λ_=>hL⟩
   intro hm;cases hm
theorem EG(s:BY):Pure PG 81 [vs s] (.tup [.d (.int .i32 ((Lib.decodeGo s).1:Int)),vi ((Lib.decodeGo s).2:Int)]) []:=
 Pure.X0 (vals:=[.string s]) (eT Tryz.func81 (by kernel_rfl) (by kernel_rfl)) Z Z Z Z λw F hE=>Tryz.utf8_DecodeRuneInString s w (MW hE)
theorem extract_data(s:BY)(p:Nat):(s.extract p s.size).data.toList=s.data.toList.drop p:=by
 rw[ByteArray.data_extract,Array.toList_extract]
 show (s.data.toList.drop p).take (s.size-p)=_
 rw[List.take_of_length_le]
 rw[List.length_drop,show s.data.toList.length=s.size from Array.length_toList]
 omega
theorem extract_size(s:BY)(p:Nat):(s.extract p s.size).size=s.size-p:=by
 rw[show (s.extract p s.size).size=(s.extract p s.size).data.toList.length from (Array.length_toList).symm,extract_data,List.length_drop,Array.length_toList]
 rfl
theorem qP(s:BY)(i:Nat):bt s i=(s.data.toList.getD i 0).toNat:=by
 have:=su s i
 unfold sb at this
 omega
theorem ny(s:BY)(p k:Nat):bt (s.extract p s.size) k=bt s (p+k):=by
 rw[qP,qP,extract_data,agM,agM,List.getElem?_drop]
theorem Yk(sz p a b c d:Nat)(h:p≤sz):dec (sz-p) 0 a b c d=dec sz p a b c d:=by
 unfold dec
 have h1:(0+1<sz-p)↔(p+1<sz):=by omega
 have h2:(0+2<sz-p)↔(p+2<sz):=by omega
 have h3:(0+3<sz-p)↔(p+3<sz):=by omega
 simp only[h1,h2,h3]
theorem MZ{s:BY}{p:Nat}(h:p<s.size):Lib.decodeGo (s.extract p s.size)=Utf8.decode s p:=by
 unfold Lib.decodeGo
 rw[if_neg (by rw[extract_size];omega),bK,bK,extract_size,Yk _ _ _ _ _ _ (by omega)]
 simp only[ny,Nat.zero_add,Nat.add_zero]
theorem sw{s:BY}{p:Nat}(h:p<s.size):(kI s (p:Int)).2=0↔(Utf8.decode s p).1=65533∧(Utf8.decode s p).2=1:=by
 obtain⟨d1,d2,d3⟩:=aY s p
 rw[AO h]
 constructor
 ·intro hz
  split at hz
  ·rename_i hb
   refine⟨?_,hb.1⟩
   rw[bK] at hb ⊢
   exact aaQ _ _ _ _ _ _ hb.1 hb.2
  ·have:((Utf8.decode s p).2:Int)=0:=hz
   omega
 ·rintro ⟨h1,h2⟩
  have h128:128≤bt s p:=Classical.byContradiction λhlt=>by
   rw[bK,dec,if_pos (by omega)] at h1
   have h1':bt s p=65533:=h1
   omega
  rw[if_pos ⟨h2,h128⟩]
structure BW (s:BY) where
 n:Nat
 p:Nat
 fuel:s.size≤p+n
 same:dB s n p=dB s s.size 0
 hp:p≤s.size+4
theorem JB(s:BY)(hs:s.size≤9223372036854775807):Pure PG 35 [vs s] (vi (dB s s.size 0)) []:=by
 refine aG.mk (cfg 25) aA [] Tryz.func35 Z (by kernel_rfl) Z Z Z ?_
 intro C x
 refine x.loop (α:=BW s) (λy=>⟨[(0,vs s),(8,.ptr 0 0)],[(0,.iter s y.p)],1⟩) (λy=>s.size+4-y.p) ⟨s.size,0,by omega,Z,by omega⟩ Z tR ?_ (λy=>?_)
 ·exact⟨⟨Z,⟨Z,Z⟩,tR⟩,⟨⟨Z,Z⟩,tR⟩,Z⟩
 obtain⟨n,p,fuel,same,hp⟩:=y
 change Go C _ ⟨[(0,vs s),(8,.ptr 0 0)],[(0,.iter s p)],1⟩ _
 obtain⟨d1,d2,d3⟩:=aY s p
 refine x.next Z tR Z Z Z (λh=>?_) (λh=>?_)
 ·have h:p<s.size:=h
  refine x.cond rfl tR (λ_=>?_) (λh1=>by cases h1)
  cases n with
  | zero=>omega
  | succ n=>
   have hz:=sw h
   rw[dB,if_pos (by omega)] at same
   have hgo:¬(kI s (p:Int)).2=0->(p:Int)+(kI s (p:Int)).2=((p+(Utf8.decode s p).2:Nat):Int):=λhne=>by
    rw[AO h] at hne ⊢
    split
    ·rename_i hb;rw[if_pos hb] at hne;exact absurd Z hne
    ·rfl
   have next:¬(kI s (p:Int)).2=0->∃y:BW s,y.p=p+(Utf8.decode s p).2:=λhne=>by
    rw[if_neg hne,hgo hne] at same
    exact⟨⟨n,p+(Utf8.decode s p).2,by omega,same,by omega⟩,Z⟩
   refine x.cond Z tR (λh2=>?_) (λh2=>?_)
   ·have h2':(Utf8.decode s p).1=65533:=by
     simp only[agT] at h2
     omega
    refine x.pure Z ?_ Z (EG (s.extract p s.size)) ⟨?_,tR⟩ ?_
    ·simp only[ak];omega
    ·show s.extract (p:Int).toNat (s.size:Int).toNat=s.extract p s.size
     rw[ag1,ag1]
    rw[MZ h]
    refine x.cond Z tR (λh3=>?_) (λh3=>?_)
    ·have h3':(Utf8.decode s p).2=1:=by
      simp only[agT] at h3
      omega
     rw[if_pos (hz.2 ⟨h2',h3'⟩)] at same
     refine x.exit Z tR ?_
     refine⟨.inr Z,?_,tR,Z⟩
     rw[←same]
     exact Z
    ·have h3':¬(Utf8.decode s p).2=1:=by
      simp only[agX] at h3
      omega
     obtain⟨y,hy⟩:=next (λe=>h3' (hz.1 e).2)
     refine x.back Z tR ⟨y,by show s.size+4-y.p<s.size+4-p;rw[hy];omega,⟨Z,⟨Z,Z⟩,tR⟩,⟨⟨Z,hy.symm⟩,tR⟩,Z⟩
   ·have h2':¬(Utf8.decode s p).1=65533:=by
     simp only[agX] at h2
     omega
    obtain⟨y,hy⟩:=next (λe=>h2' (hz.1 e).1)
    refine x.back Z tR ⟨y,by show s.size+4-y.p<s.size+4-p;rw[hy];omega,⟨Z,⟨Z,Z⟩,tR⟩,⟨⟨Z,hy.symm⟩,tR⟩,Z⟩
 ·have h:¬p<s.size:=h
  refine x.cond rfl tR (λh1=>by cases h1) (λ_=>?_)
  refine x.exit Z tR ?_
  refine⟨.inr Z,?_,tR,Z⟩
  rw[←same,lY (by omega)]
  exact Z
def oG(r:Int):Bool:=(decide (97≤r)&&decide (r≤122)||decide (65≤r)&&decide (r≤90)||decide (r=95)||decide (945≤r)&&decide (r≤969)||decide (913≤r)&&decide (r≤937)&&!decide (r=930))
def yH(r:Int):Bool:=(decide (48≤r)&&decide (r≤57))
def jd(s:BY):Nat->Nat->Int->Bool
 | 0,_,c=>decide (0<c)
 | n+1,p,c=>if p<s.size then
   if (!oG (Utf8.decode s p).1&&(decide ((p:Int)=0)||!yH (Utf8.decode s p).1))=true then false
   else if 24<c+1 then false else jd s n (p+(Utf8.decode s p).2) (c+1)
  else decide (0<c)
theorem Va{s:BY}{n p:Nat}{c:Int}(h:¬p<s.size):jd s n p c=decide (0<c):=by
 cases n with
 | zero=>rfl
 | succ n=>rw[jd,if_neg h]
structure NI (s:BY) where
 n:Nat
 p:Nat
 c:Int
 fuel:s.size≤p+n
 same:jd s n p c=jd s s.size 0 0
 hc:0≤c∧c≤24
 hp:p≤s.size+4
theorem Ct(s:BY)(hs:s.size≤9223372036854775807):Pure PG 118 [vs s] (vb (jd s s.size 0 0)) []:=by
 refine aG.mk (cfg 30) aA [] Tryz.func118 Z (by kernel_rfl) Z Z Z ?_
 intro C x
 refine x.loop (α:=NI s) (λy=>⟨[(0,vs s),(3,vi y.c),(7,.ptr 0 0)],[(0,.iter s y.p)],1⟩) (λy=>s.size+4-y.p) ⟨s.size,0,0,by omega,Z,by omega,by omega⟩ Z tR ?_ (λy=>?_)
 ·exact⟨⟨Z,Z,⟨Z,Z⟩,tR⟩,⟨⟨Z,Z⟩,tR⟩,Z⟩
 obtain⟨n,p,c,fuel,same,hc,hp⟩:=y
 change Go C _ ⟨[(0,vs s),(3,vi c),(7,.ptr 0 0)],[(0,.iter s p)],1⟩ _
 obtain⟨d1,d2,d3⟩:=aY s p
 refine x.next Z tR Z Z Z (λh=>?_) (λh=>?_)
 ·refine x.cond rfl tR (λ_=>?_) (λh1=>by cases h1)
  refine x.pure Z tR Z (D9 _) ⟨Z,tR⟩ ?_
  refine x.gG Z tR Z (λ_ _=>zB _) Z ⟨Z,tR⟩ ?_
  cases n with
  | zero=>omega
  | succ n=>
   rw[jd,if_pos h] at same
   refine x.cond Z tR (λh2=>?_) (λh2=>?_)
   ·refine x.exit Z tR ?_
    refine⟨.inr Z,?_,tR,Z⟩
    rw[if_pos (show (!oG (Utf8.decode s p).1&&(decide ((p:Int)=0)||!yH (Utf8.decode s p).1))=true from h2)] at same
    rw[←same]
    exact Z
   ·rw[if_neg (by rw[show (!oG (Utf8.decode s p).1&&(decide ((p:Int)=0)||!yH (Utf8.decode s p).1))=false from h2];simp)] at same
    refine x.cond Z (show aj (c+1) by unfold aj;omega) (λh3=>?_) (λh3=>?_)
    ·refine x.exit Z tR ?_
     refine⟨.inr Z,?_,tR,Z⟩
     rw[if_pos (by simpa using h3)] at same
     rw[←same]
     exact Z
    ·rw[if_neg (by simpa using h3)] at same
     refine x.back Z tR ?_
     refine⟨⟨n,p+(Utf8.decode s p).2,c+1,by omega,same,by simp at h3;omega,by omega⟩,by show s.size+4-(p+(Utf8.decode s p).2)<s.size+4-p;omega,?_⟩
     exact⟨⟨Z,Z,⟨Z,Z⟩,tR⟩,⟨⟨Z,Z⟩,tR⟩,Z⟩
 ·refine x.cond rfl tR (λh1=>by cases h1) (λ_=>?_)
  refine x.exit Z tR ?_
  refine⟨.inr Z,?_,tR,Z⟩
  rw[←same,Va h]
  exact Z
def dl(s:BY):Nat->Nat->List (Nat×Nat×Nat)
 | 0,_=>[]
 | n+1,p=>if p<s.size then (p,(Utf8.decode s p).1,(Utf8.decode s p).2)::dl s n (p+(Utf8.decode s p).2) else []
theorem Gm{s:BY}{n p:Nat}(h:¬p<s.size):dl s n p=[]:=by
 cases n with
 | zero=>rfl
 | succ n=>rw[dl,if_neg h]
theorem KQ(s:BY):∀(n m p:Nat),s.size≤p+n->s.size≤p+m->dl s n p=dl s m p
 | 0,m,p,h1,h2=>by rw[Gm (by omega),Gm (by omega)]
 | n+1,0,p,h1,h2=>by rw[Gm (by omega),Gm (by omega)]
 | n+1,m+1,p,h1,h2=>by
  have:=aY s p
  rw[dl,dl,KQ s n m _ (by omega) (by omega)]
theorem Yl(s:BY):∀(n p:Nat) (c:Int),s.size≤p+n->KP s n p c=c+(dl s n p).length
 | 0,p,c,h=>by simp [KP,dl]
 | n+1,p,c,h=>by
  have:=aY s p
  rw[KP,dl]
  by_cases hp:p<s.size
  ·rw[if_pos (by omega),if_pos hp,MV hp,Yl s n _ _ (by omega)]
   simp
   omega
  ·rw[if_neg (by omega),if_neg hp]
   simp
def okR(x:Nat×Nat×Nat):Bool:=!(decide (x.2.1=65533)&&decide (x.2.2=1))
theorem Ym(s:BY):∀(n p:Nat),s.size≤p+n->(dB s n p<0↔dB s n p=-1)∧(dB s n p=-1↔(dl s n p).all okR=true)
 | 0,p,h=>by simp [dB,dl]
 | n+1,p,h=>by
  have:=aY s p
  rw[dB,dl]
  by_cases hp:p<s.size
  ·have hz:=sw hp
   rw[if_pos (by omega),if_pos hp]
   by_cases h0:(kI s (p:Int)).2=0
   ·rw[if_pos h0]
    have:=hz.1 h0
    simp only[List.all_cons,okR,this]
    simp
   ·rw[if_neg h0]
    have hgo:(p:Int)+(kI s (p:Int)).2=((p+(Utf8.decode s p).2:Nat):Int):=by
     rw[AO hp] at h0 ⊢
     split
     ·rename_i hb;rw[if_pos hb] at h0;exact absurd Z h0
     ·rfl
    have ih:=Ym s n (p+(Utf8.decode s p).2) (by omega)
    rw[hgo]
    refine⟨ih.1,?_⟩
    rw[ih.2,List.all_cons,show okR (p,(Utf8.decode s p).1,(Utf8.decode s p).2)=true from ?_,Bool.true_and]
    simp only[okR,agZ,Bool.and_eq_false_iff,agX]
    by_cases e:(Utf8.decode s p).1=65533
    ·exact .inr λe2=>h0 (hz.2 ⟨e,e2⟩)
    ·exact .inl e
  ·rw[if_neg (by omega),if_neg hp]
   simp
theorem Yn{sz sz' p a b c d b' c' d':Nat}(h:¬((dec sz p a b c d).1=65533∧(dec sz p a b c d).2=1))(hb:p+1<sz->b'=b)(hc:p+2<sz->c'=c)(hd:p+3<sz->d'=d)(hs:sz≤sz'):dec sz' p a b' c' d'=dec sz p a b c d:=by
 unfold dec at *
 by_cases h1:a<128
 ·rw[if_pos h1,if_pos h1]
 rw[if_neg h1] at h ⊢
 rw[if_neg h1]
 by_cases h2:a/32=6∧p+1<sz∧b/64=2
 ·obtain rfl:=hb h2.2.1
  rw[if_pos h2,if_pos (by omega)]
 rw[if_neg h2] at h ⊢
 by_cases h3:a/16=14∧p+1<sz∧b/64=2∧p+2<sz∧c/64=2
 ·obtain rfl:=hb h3.2.1
  obtain rfl:=hc h3.2.2.2.1
  rw[if_pos h3,if_neg (by omega),if_pos (by omega)]
 rw[if_neg h3] at h ⊢
 by_cases h4:a/8=30∧p+1<sz∧b/64=2∧p+2<sz∧c/64=2∧p+3<sz∧d/64=2
 ·obtain rfl:=hb h4.2.1
  obtain rfl:=hc h4.2.2.2.1
  obtain rfl:=hd h4.2.2.2.2.2.1
  rw[if_pos h4,if_neg (by omega),if_neg (by omega),if_pos (by omega)]
 rw[if_neg h4] at h
 exact absurd ⟨Z,Z⟩ h
theorem Yo(sz p a b c d:Nat)(h:p<sz):p+(dec sz p a b c d).2≤sz:=by
 unfold dec
 repeat' split
 all_goals (simp only;omega)
theorem eZ(s:BY):s.size=s.data.toList.length:=(Array.length_toList).symm
theorem fG(a b:BY):(a++b).data.toList=a.data.toList++b.data.toList:=by rw[ByteArray.data_append,Array.toList_append]
theorem au(a b:BY):(a++b).size=a.size+b.size:=by rw[eZ,fG,List.length_append,←eZ,←eZ]
theorem bQ{a b:BY}{i:Nat}(h:i<a.size):bt (a++b) i=bt a i:=by
 rw[eZ] at h
 rw[qP,qP,fG,agM,agM,List.getElem?_append_left h]
theorem iV(a b:BY)(i:Nat):bt (a++b) (a.size+i)=bt b i:=by
 rw[qP,qP,fG,agM,agM,eZ a,List.getElem?_append_right (by omega)]
 congr 3
 omega
theorem JC(sz p k a b c d:Nat):dec (k+sz) (k+p) a b c d=dec sz p a b c d:=by
 unfold dec
 have h1:(k+p+1<k+sz)↔(p+1<sz):=by omega
 have h2:(k+p+2<k+sz)↔(p+2<sz):=by omega
 have h3:(k+p+3<k+sz)↔(p+3<sz):=by omega
 simp only[h1,h2,h3]
theorem uq(a b:BY)(p:Nat):Utf8.decode (a++b) (a.size+p)=Utf8.decode b p:=by
 have b1:=iV a b (p+1)
 have b2:=iV a b (p+2)
 have b3:=iV a b (p+3)
 rw[←Nat.add_assoc] at b1 b2 b3
 rw[bK,bK,au,b1,b2,b3,iV,JC]
theorem M0{a:BY}(b:BY){p:Nat}(hp:p<a.size)(h:¬((Utf8.decode a p).1=65533∧(Utf8.decode a p).2=1)):Utf8.decode (a++b) p=Utf8.decode a p:=by
 rw[bK] at h
 rw[bK,bK,au,bQ hp]
 exact Yn h (λhh=>bQ hh) (λhh=>bQ hh) (λhh=>bQ hh) (Nat.le_add_right _ _)
theorem iw{s:BY}{p:Nat}(h:p<s.size):p+(Utf8.decode s p).2≤s.size:=by
 rw[bK]
 exact Yo _ _ _ _ _ _ h
def shR(k:Nat)(x:Nat×Nat×Nat):Nat×Nat×Nat:=(k+x.1,x.2.1,x.2.2)
theorem Gn(a b:BY):∀(n p:Nat),dl (a++b) n (a.size+p)=(dl b n p).map (shR a.size)
 | 0,p=>rfl
 | n+1,p=>by
  rw[dl,dl,uq,au]
  by_cases h:p<b.size
  ·rw[if_pos (by omega),if_pos h,List.map_cons,Nat.add_assoc,Gn a b n]
   rfl
  ·rw[if_neg (by omega),if_neg h]
   rfl
theorem Yp(a b:BY):∀(n p:Nat),p≤a.size->a.size≤p+n->(dl a n p).all okR=true->dl (a++b) (n+b.size) p=dl a n p++(dl b b.size 0).map (shR a.size)
 | 0,p,h1,h2,h3=>by
  obtain rfl:p=a.size:=by omega
  have:=Gn a b b.size 0
  rw[Nat.add_zero] at this
  rw[Nat.zero_add,this]
  rfl
 | n+1,p,h1,h2,h3=>by
  by_cases hp:p<a.size
  ·rw[dl,if_pos hp] at h3
   rw[show dl a (n+1) p=(p,(Utf8.decode a p).1,(Utf8.decode a p).2)::dl a n (p+(Utf8.decode a p).2) by rw[dl,if_pos hp]]
   simp only[List.all_cons,agN] at h3
   have hd:=M0 (a:=a) b hp (by
    have:=h3.1
    simp only[okR,agZ,Bool.and_eq_false_iff,agX] at this
    rintro ⟨e1,e2⟩
    rcases this with h | h
    ·exact h e1
    ·exact h e2)
   have hr:=iw hp
   have:=aY a p
   rw[show n+1+b.size=(n+b.size)+1 by omega,dl,if_pos (by rw[au];omega),hd,Yp a b n _ hr (by omega) h3.2]
   rfl
  ·obtain rfl:p=a.size:=by omega
   have h4:dl (a++b) (n+1+b.size) a.size=_:=Gn a b (n+1+b.size) 0
   rw[h4,Gm (s:=a) hp,KQ b (n+1+b.size) b.size 0 (by omega) (by omega)]
   rfl
def rl(s:BY):List (Nat×Nat×Nat):=dl s s.size 0
theorem agL{a:BY}(b:BY)(h:(rl a).all okR=true):rl (a++b)=rl a++(rl b).map (shR a.size):=by
 unfold rl at *
 rw[KQ (a++b) (a++b).size (a.size+b.size) 0 (by omega) (by rw[au];omega)]
 exact Yp a b a.size 0 (by omega) (by omega) h
theorem Yq(s:BY):(dB s s.size 0=-1↔(rl s).all okR=true)∧(dB s s.size 0<0↔(rl s).all okR=true):=by
 have:=Ym s s.size 0 (by omega)
 exact⟨this.2,this.1.trans this.2⟩
def Gp:List (List UInt8):=[[97,114,114,97,121],[102,110],[99,111,110,115,116],[112,104,105],[108,111,97,100],[119,114,97,112],[115,116,111,114,101],[99,97,108,108],[105,110,112,117,116],[111,117,116,112,117,116],[114,101,108,101,97,115,101],[106,117,109,112],[98,114,97,110,99,104],[114,101,116,117,114,110],[97,100,100],[115,117,98],[109,117,108],[100,105,118],[109,111,100],[97,110,100],[111,114],[120,111,114],[115,104,108],[115,104,114],[101,113],[108,101,115,115]]
def nR(s:BY):Bool:=decide (s.data.toList∈Gp)
theorem dw{s:BY}{l:List UInt8}(h:s.data.toList=l)(hl:l∈Gp):nR s=true:=by
 unfold nR;rw[h];exact decide_eq_true hl
theorem Cu(s:BY):Pure PG 119 [vs s] (vb (nR s)) []:=by
 refine aG.mk (cfg 32) aA [] Tryz.func119 Z (by kernel_rfl) Z Z Z ?_
 intro C x
 refine x.cond Z tR (λh=>?_) (λa0=>?_)
 ·refine x.cond Z tR (λ_=>?_) (λh2=>?_)
  ·refine x.exit Z tR ?_
   refine⟨.inr Z,?_,tR,Z⟩
   exact (dw (agP h) (l:=[97,114,114,97,121]) (by decide)).symm
  ·exact absurd (h.symm.trans h2) (by simp)
 have a0:¬s.data.toList=[97,114,114,97,121]:=agQ a0
 refine x.cond Z tR (λh=>?_) (λa1=>?_)
 ·refine x.cond Z tR (λ_=>?_) (λh2=>?_)
  ·refine x.exit Z tR ?_
   refine⟨.inr Z,?_,tR,Z⟩
   exact (dw (agP h) (l:=[102,110]) (by decide)).symm
  ·exact absurd (h.symm.trans h2) (by simp)
 have a1:¬s.data.toList=[102,110]:=agQ a1
 refine x.cond Z tR (λh=>?_) (λa2=>?_)
 ·refine x.cond Z tR (λ_=>?_) (λh2=>?_)
  ·refine x.exit Z tR ?_
   refine⟨.inr Z,?_,tR,Z⟩
   exact (dw (agP h) (l:=[99,111,110,115,116]) (by decide)).symm
  ·exact absurd (h.symm.trans h2) (by simp)
 have a2:¬s.data.toList=[99,111,110,115,116]:=agQ a2
 refine x.cond Z tR (λh=>?_) (λa3=>?_)
 ·refine x.cond Z tR (λ_=>?_) (λh2=>?_)
  ·refine x.exit Z tR ?_
   refine⟨.inr Z,?_,tR,Z⟩
   exact (dw (agP h) (l:=[112,104,105]) (by decide)).symm
  ·exact absurd (h.symm.trans h2) (by simp)
 have a3:¬s.data.toList=[112,104,105]:=agQ a3
 refine x.cond Z tR (λh=>?_) (λa4=>?_)
 ·refine x.cond Z tR (λ_=>?_) (λh2=>?_)
  ·refine x.exit Z tR ?_
   refine⟨.inr Z,?_,tR,Z⟩
   exact (dw (agP h) (l:=[108,111,97,100]) (by decide)).symm
  ·exact absurd (h.symm.trans h2) (by simp)
 have a4:¬s.data.toList=[108,111,97,100]:=agQ a4
 refine x.cond Z tR (λh=>?_) (λa5=>?_)
 ·refine x.cond Z tR (λ_=>?_) (λh2=>?_)
  ·refine x.exit Z tR ?_
   refine⟨.inr Z,?_,tR,Z⟩
   exact (dw (agP h) (l:=[119,114,97,112]) (by decide)).symm
  ·exact absurd (h.symm.trans h2) (by simp)
 have a5:¬s.data.toList=[119,114,97,112]:=agQ a5
 refine x.cond Z tR (λh=>?_) (λa6=>?_)
 ·refine x.cond Z tR (λ_=>?_) (λh2=>?_)
  ·refine x.exit Z tR ?_
   refine⟨.inr Z,?_,tR,Z⟩
   exact (dw (agP h) (l:=[115,116,111,114,101]) (by decide)).symm
  ·exact absurd (h.symm.trans h2) (by simp)
 have a6:¬s.data.toList=[115,116,111,114,101]:=agQ a6
 refine x.cond Z tR (λh=>?_) (λa7=>?_)
 ·refine x.cond Z tR (λ_=>?_) (λh2=>?_)
  ·refine x.exit Z tR ?_
   refine⟨.inr Z,?_,tR,Z⟩
   exact (dw (agP h) (l:=[99,97,108,108]) (by decide)).symm
  ·exact absurd (h.symm.trans h2) (by simp)
 have a7:¬s.data.toList=[99,97,108,108]:=agQ a7
 refine x.cond Z tR (λh=>?_) (λa8=>?_)
 ·refine x.cond Z tR (λ_=>?_) (λh2=>?_)
  ·refine x.exit Z tR ?_
   refine⟨.inr Z,?_,tR,Z⟩
   exact (dw (agP h) (l:=[105,110,112,117,116]) (by decide)).symm
  ·exact absurd (h.symm.trans h2) (by simp)
 have a8:¬s.data.toList=[105,110,112,117,116]:=agQ a8
 refine x.cond Z tR (λh=>?_) (λa9=>?_)
 ·refine x.cond Z tR (λ_=>?_) (λh2=>?_)
  ·refine x.exit Z tR ?_
   refine⟨.inr Z,?_,tR,Z⟩
   exact (dw (agP h) (l:=[111,117,116,112,117,116]) (by decide)).symm
  ·exact absurd (h.symm.trans h2) (by simp)
 have a9:¬s.data.toList=[111,117,116,112,117,116]:=agQ a9
 refine x.cond Z tR (λh=>?_) (λa10=>?_)
 ·refine x.cond Z tR (λ_=>?_) (λh2=>?_)
  ·refine x.exit Z tR ?_
   refine⟨.inr Z,?_,tR,Z⟩
   exact (dw (agP h) (l:=[114,101,108,101,97,115,101]) (by decide)).symm
  ·exact absurd (h.symm.trans h2) (by simp)
 have a10:¬s.data.toList=[114,101,108,101,97,115,101]:=agQ a10
 refine x.cond Z tR (λh=>?_) (λa11=>?_)
 ·refine x.cond Z tR (λ_=>?_) (λh2=>?_)
  ·refine x.exit Z tR ?_
   refine⟨.inr Z,?_,tR,Z⟩
   exact (dw (agP h) (l:=[106,117,109,112]) (by decide)).symm
  ·exact absurd (h.symm.trans h2) (by simp)
 have a11:¬s.data.toList=[106,117,109,112]:=agQ a11
 refine x.cond Z tR (λh=>?_) (λa12=>?_)
 ·refine x.cond Z tR (λ_=>?_) (λh2=>?_)
  ·refine x.exit Z tR ?_
   refine⟨.inr Z,?_,tR,Z⟩
   exact (dw (agP h) (l:=[98,114,97,110,99,104]) (by decide)).symm
  ·exact absurd (h.symm.trans h2) (by simp)
 have a12:¬s.data.toList=[98,114,97,110,99,104]:=agQ a12
 refine x.cond Z tR (λh=>?_) (λa13=>?_)
 ·refine x.exit Z tR ?_
  refine⟨.inr Z,?_,tR,Z⟩
  exact (dw (agP h) (l:=[114,101,116,117,114,110]) (by decide)).symm
 have a13:¬s.data.toList=[114,101,116,117,114,110]:=agQ a13
 refine x.cond Z tR (λh=>?_) (λb0=>?_)
 ·refine x.cond Z tR (λ_=>?_) (λh2=>?_)
  ·refine x.exit Z tR ?_
   refine⟨.inr Z,?_,tR,Z⟩
   exact (dw (agP h) (l:=[97,100,100]) (by decide)).symm
  ·exact absurd (h.symm.trans h2) (by simp)
 have b0:¬s.data.toList=[97,100,100]:=agQ b0
 refine x.cond Z tR (λh=>?_) (λb1=>?_)
 ·refine x.cond Z tR (λ_=>?_) (λh2=>?_)
  ·refine x.exit Z tR ?_
   refine⟨.inr Z,?_,tR,Z⟩
   exact (dw (agP h) (l:=[115,117,98]) (by decide)).symm
  ·exact absurd (h.symm.trans h2) (by simp)
 have b1:¬s.data.toList=[115,117,98]:=agQ b1
 refine x.cond Z tR (λh=>?_) (λb2=>?_)
 ·refine x.cond Z tR (λ_=>?_) (λh2=>?_)
  ·refine x.exit Z tR ?_
   refine⟨.inr Z,?_,tR,Z⟩
   exact (dw (agP h) (l:=[109,117,108]) (by decide)).symm
  ·exact absurd (h.symm.trans h2) (by simp)
 have b2:¬s.data.toList=[109,117,108]:=agQ b2
 refine x.cond Z tR (λh=>?_) (λb3=>?_)
 ·refine x.cond Z tR (λ_=>?_) (λh2=>?_)
  ·refine x.exit Z tR ?_
   refine⟨.inr Z,?_,tR,Z⟩
   exact (dw (agP h) (l:=[100,105,118]) (by decide)).symm
  ·exact absurd (h.symm.trans h2) (by simp)
 have b3:¬s.data.toList=[100,105,118]:=agQ b3
 refine x.cond Z tR (λh=>?_) (λb4=>?_)
 ·refine x.cond Z tR (λ_=>?_) (λh2=>?_)
  ·refine x.exit Z tR ?_
   refine⟨.inr Z,?_,tR,Z⟩
   exact (dw (agP h) (l:=[109,111,100]) (by decide)).symm
  ·exact absurd (h.symm.trans h2) (by simp)
 have b4:¬s.data.toList=[109,111,100]:=agQ b4
 refine x.cond Z tR (λh=>?_) (λb5=>?_)
 ·refine x.cond Z tR (λ_=>?_) (λh2=>?_)
  ·refine x.exit Z tR ?_
   refine⟨.inr Z,?_,tR,Z⟩
   exact (dw (agP h) (l:=[97,110,100]) (by decide)).symm
  ·exact absurd (h.symm.trans h2) (by simp)
 have b5:¬s.data.toList=[97,110,100]:=agQ b5
 refine x.cond Z tR (λh=>?_) (λb6=>?_)
 ·refine x.cond Z tR (λ_=>?_) (λh2=>?_)
  ·refine x.exit Z tR ?_
   refine⟨.inr Z,?_,tR,Z⟩
   exact (dw (agP h) (l:=[111,114]) (by decide)).symm
  ·exact absurd (h.symm.trans h2) (by simp)
 have b6:¬s.data.toList=[111,114]:=agQ b6
 refine x.cond Z tR (λh=>?_) (λb7=>?_)
 ·refine x.cond Z tR (λ_=>?_) (λh2=>?_)
  ·refine x.exit Z tR ?_
   refine⟨.inr Z,?_,tR,Z⟩
   exact (dw (agP h) (l:=[120,111,114]) (by decide)).symm
  ·exact absurd (h.symm.trans h2) (by simp)
 have b7:¬s.data.toList=[120,111,114]:=agQ b7
 refine x.cond Z tR (λh=>?_) (λb8=>?_)
 ·refine x.cond Z tR (λ_=>?_) (λh2=>?_)
  ·refine x.exit Z tR ?_
   refine⟨.inr Z,?_,tR,Z⟩
   exact (dw (agP h) (l:=[115,104,108]) (by decide)).symm
  ·exact absurd (h.symm.trans h2) (by simp)
 have b8:¬s.data.toList=[115,104,108]:=agQ b8
 refine x.cond Z tR (λh=>?_) (λb9=>?_)
 ·refine x.cond Z tR (λ_=>?_) (λh2=>?_)
  ·refine x.exit Z tR ?_
   refine⟨.inr Z,?_,tR,Z⟩
   exact (dw (agP h) (l:=[115,104,114]) (by decide)).symm
  ·exact absurd (h.symm.trans h2) (by simp)
 have b9:¬s.data.toList=[115,104,114]:=agQ b9
 refine x.cond Z tR (λh=>?_) (λb10=>?_)
 ·refine x.cond Z tR (λ_=>?_) (λh2=>?_)
  ·refine x.exit Z tR ?_
   refine⟨.inr Z,?_,tR,Z⟩
   exact (dw (agP h) (l:=[101,113]) (by decide)).symm
  ·exact absurd (h.symm.trans h2) (by simp)
 have b10:¬s.data.toList=[101,113]:=agQ b10
 refine x.cond Z tR (λh=>?_) (λb11=>?_)
 ·refine x.exit Z tR ?_
  refine⟨.inr Z,?_,tR,Z⟩
  exact (dw (agP h) (l:=[108,101,115,115]) (by decide)).symm
 have b11:¬s.data.toList=[108,101,115,115]:=agQ b11
 refine x.exit Z tR ?_
 refine⟨.inr Z,?_,tR,Z⟩
 show false=nR s
 rw[eq_comm]
 unfold nR Gp
 rw[agX]
 simp only[List.mem_cons,List.not_mem_nil,or_false,not_or]
 exact⟨a0,a1,a2,a3,a4,a5,a6,a7,a8,a9,a10,a11,a12,a13,b0,b1,b2,b3,b4,b5,b6,b7,b8,b9,b10,b11⟩
def j6(c:Nat):Bool:=(((((((decide (c=40)||decide (c=41))||decide (c=123))||decide (c=125))||decide (c=91))||decide (c=93))||decide (c=44))||decide (c=58))||decide (c=61)
def lZ(s:BY)(p:Nat):Bool:=decide (p<s.size)&&(decide (48≤bt s p)&&decide (bt s p≤57))
theorem wu(s:BY)(c:Int):Pure PG 147 [vs s,.d (.int .u8 c)] (vi (Lib.indexByte s.data.toList c.toNat.toUInt8)) []:=
 Pure.X0 (vals:=[.string s,.int .u8 c]) (eT Tryz.func147 (by kernel_rfl) (by kernel_rfl)) rfl rfl rfl rfl λw F hE=>(Tryz.strings_IndexByte s c w).mono λe w' ⟨h1,h2⟩=>⟨h1,by subst h2;exact Go.RowKit.Below.refl _ _⟩
theorem M4{c:UInt8}:∀{l:List UInt8},0≤Lib.indexByte l c->(Lib.indexByte l c).toNat<l.length∧l.getD (Lib.indexByte l c).toNat 0=c∧∀j,j<(Lib.indexByte l c).toNat->l.getD j 0≠c
 | [],h=>by exact absurd h (by unfold Lib.indexByte;omega)
 | b::l,h=>by
  unfold Lib.indexByte at h ⊢
  split at h
  ·rename_i hb
   rw[if_pos hb]
   refine⟨by simp,by simpa using hb,λj hj=>absurd hj (agV _)⟩
  ·rename_i hb
   rw[if_neg hb]
   split at h
   ·omega
   ·rename_i h2
    rw[if_neg h2]
    have hge:=Lib.indexByte_ge l c
    have h2:¬Lib.indexByte l c=-1:=by simpa using h2
    obtain⟨h3,h4,h5⟩:=M4 (l:=l) (c:=c) (by omega)
    have e:(Lib.indexByte l c+1).toNat=(Lib.indexByte l c).toNat+1:=by omega
    rw[e]
    refine⟨by simpa using h3,by simpa using h4,λj hj=>?_⟩
    match j with
    | 0=>simpa using hb
    | j+1=>simpa using h5 j (by omega)
theorem M5{c:UInt8}:∀{l:List UInt8},Lib.indexByte l c<0->∀j,j<l.length->l.getD j 0≠c
 | [],h,j,hj=>absurd hj (agV _)
 | b::l,h,j,hj=>by
  unfold Lib.indexByte at h
  split at h
  ·omega
  ·rename_i hb
   split at h
   ·rename_i h2
    have h2:Lib.indexByte l c=-1:=by simpa using h2
    match j with
    | 0=>simpa using hb
    | j+1=>simpa using M5 (l:=l) (c:=c) (by omega) j (by simpa using hj)
   ·have hge:=Lib.indexByte_ge l c
    rename_i h2
    have h2:¬Lib.indexByte l c=-1:=by simpa using h2
    omega
def nextR(c:Nat)(rm:Bool):Bool:=if c=10 then false else if c=35 then true else rm
def l7(rm:Bool)(c:Nat):Bool:=((!rm&&!decide (c=32))&&!decide (c=9))&&!decide (c=10)
def skF(s:BY):Nat->Bool->Nat->Nat
 | 0,_,p=>p
 | n+1,rm,p=>if p<s.size then (if l7 (nextR (bt s p) rm) (bt s p) then p else skF s n (nextR (bt s p) rm) (p+1)) else p
theorem AP(s:BY):∀(n m:Nat) (rm:Bool) (p:Nat),s.size≤p+n->s.size≤p+m->skF s n rm p=skF s m rm p
 | 0,0,_,_,_,_=>rfl
 | 0,m+1,rm,p,h,_=>by rw[skF,skF,if_neg (by omega)]
 | n+1,0,rm,p,_,h=>by rw[skF,skF,if_neg (by omega)]
 | n+1,m+1,rm,p,h1,h2=>by
  rw[skF,skF]
  split
  ·split
   ·rfl
   ·exact AP s n m _ _ (by omega) (by omega)
  ·rfl
def skV(s:BY)(rm:Bool)(p:Nat):Nat:=skF s s.size rm p
theorem qQ{s:BY}{rm:Bool}{p:Nat}(h:s.size≤p):skV s rm p=p:=by
 unfold skV
 rw[AP s s.size 0 rm p (by omega) (by omega),skF]
theorem pR{s:BY}{rm:Bool}{p:Nat}(h:p<s.size):skV s rm p=if l7 (nextR (bt s p) rm) (bt s p) then p else skV s (nextR (bt s p) rm) (p+1):=by
 unfold skV
 obtain⟨n,hn⟩:∃n,s.size=n+1:=⟨s.size-1,by omega⟩
 rw[AP s s.size (n+1) rm p (by omega) (by omega),skF,if_pos h,AP s n s.size _ (p+1) (by omega) (by omega)]
theorem zC{s:BY}{rm:Bool}{p:Nat}(h:p<s.size)(hs:l7 (nextR (bt s p) rm) (bt s p)=false):skV s rm p=skV s (nextR (bt s p) rm) (p+1):=by
 rw[pR h,if_neg (by rw[hs];simp)]
theorem Gq{s:BY}{rm:Bool}{p:Nat}(h:p<s.size)(hs:l7 (nextR (bt s p) rm) (bt s p)=true):skV s rm p=p:=by
 rw[pR h,if_pos hs]
theorem Cv(s:BY):∀(n:Nat) (rm:Bool) (p:Nat),s.size≤p+n->p≤s.size->p≤skV s rm p∧skV s rm p≤s.size∧(skV s rm p<s.size->l7 false (bt s (skV s rm p))=true∧bt s (skV s rm p)≠35)
 | 0,rm,p,h,hp=>by rw[qQ (by omega)];exact⟨by omega,hp,λh=>by omega⟩
 | n+1,rm,p,h,hp=>by
  by_cases hl:p<s.size
  ·cases hs:l7 (nextR (bt s p) rm) (bt s p) with
   | true=>
    rw[Gq hl hs]
    refine⟨Nat.le_refl _,hp,λ_=>?_⟩
    unfold l7 at hs
    simp only[agN,agZ,agX] at hs
    obtain⟨⟨⟨h1,h2⟩,h3⟩,h4⟩:=hs
    refine⟨?_,λe=>?_⟩
    ·unfold l7;simp [h2,h3,h4]
    ·rw[e] at h1;simp [nextR] at h1
   | false=>
    rw[zC hl hs]
    have:=Cv s n (nextR (bt s p) rm) (p+1) (by omega) (by omega)
    exact⟨by omega,this.2.1,this.2.2⟩
  ·rw[qQ (by omega)];exact⟨by omega,hp,λh=>by omega⟩
theorem Gs(s:BY):∀(k p:Nat),p+k<s.size->bt s (p+k)=10->(∀j,j<k->bt s (p+j)≠10)->skV s true p=skV s false (p+k+1)
 | 0,p,h,h10,_=>by
  have h10:bt s p=10:=h10
  have h:p<s.size:=h
  rw[zC h (by rw[h10];rfl),h10];rfl
 | k+1,p,h,h10,hno=>by
  have h0:bt s p≠10:=hno 0 (by omega)
  have e:nextR (bt s p) true=true:=by unfold nextR;rw[if_neg h0];split<;>rfl
  rw[zC (by omega) (by rw[e];rfl),e,Gs s k (p+1) (by omega) (by rw[←h10];congr 1;omega) (λj hj=>by rw[show p+1+j=p+(j+1) by omega];exact hno (j+1) (by omega))]
  congr 1
  omega
theorem wC(s:BY):∀(n p:Nat),s.size≤p+n->p≤s.size->(∀j,p≤j->j<s.size->bt s j≠10)->skV s true p=s.size
 | 0,p,h,hp,_=>by rw[qQ (by omega)];omega
 | n+1,p,h,hp,hno=>by
  by_cases hl:p<s.size
  ·have h0:=hno p (Nat.le_refl _) hl
   have e:nextR (bt s p) true=true:=by unfold nextR;rw[if_neg h0];split<;>rfl
   rw[zC hl (by rw[e];rfl),e]
   exact wC s n (p+1) (by omega) (by omega) λj h1 h2=>hno j (by omega) h2
  ·rw[qQ (by omega)];omega
theorem Vb(s:BY)(p0:Nat)(hs:s.size≤9223372036854775807)(hp0:p0≤s.size):Pure PG 146 [vs s,vi (p0:Int)] (vi (skV s false p0:Int)) []:=by
 refine aG.mk (cfg 34) aA [] Tryz.func146 Z (by kernel_rfl) Z Z Z ?_
 intro C x
 refine x.loop (α:={p:Nat // p≤s.size∧skV s false p=skV s false p0}) (λy=>⟨[(0,vs s),(1,vi (y.1:Int))],[],0⟩) (λy=>s.size-y.1) ⟨p0,hp0,Z⟩ Z tR ⟨⟨Z,Z,tR⟩,tR,Z⟩ (λy=>?_)
 obtain⟨p,hp,same⟩:=y
 change Go C _ ⟨[(0,vs s),(1,vi (p:Int))],[],0⟩ _
 refine x.cond Z tR (λh1=>?_) (λh1=>?_)
 ·have h1:p<s.size:=by have:=agP h1;omega
  have ec:sb s ((p:Int)).toNat=(bt s p:Int):=su s p
  refine x.cond Z ?_ (λh2=>?_) (λh2=>?_)
  ·simp only[ak];omega
  ·have h2:bt s p=35:=by have h2:sb s ((p:Int)).toNat=35:=agP h2;omega
   have e1:nextR (bt s p) false=true:=by rw[h2];rfl
   have g1:=zC (rm:=false) h1 (by rw[e1,h2];rfl)
   rw[e1] at g1
   refine x.pure Z ?_ Z (wu (s.extract p s.size) 10) ⟨Z,Z,tR⟩ ?_
   ·simp only[ak];omega
   obtain⟨n,hn⟩:∃n,Lib.indexByte (s.extract p s.size).data.toList (10:Int).toNat.toUInt8=n:=⟨_,Z⟩
   rw[hn]
   have hlen:(s.extract p s.size).data.toList.length=s.size-p:=by
    rw[extract_data,List.length_drop,←eZ]
   have hbt:∀j,((s.extract p s.size).data.toList.getD j 0).toNat=bt s (p+j):=λj=>by rw[←qP,ny]
   refine x.cond Z tR (λh3=>?_) (λh3=>?_)
   ·have h3:n<0:=agP h3
    have hno:=M5 (by rw[hn];exact h3)
    refine x.exit Z tR ?_
    refine⟨.inr Z,?_,tR,Z⟩
    show (s.size:Int)=(skV s false p0:Int)
    rw[←same,g1,wC s s.size (p+1) (by omega) (by omega)]
    intro j hj1 hj2 e
    refine hno (j-p) (by omega) ?_
    have:=hbt (j-p)
    rw[show p+(j-p)=j by omega,e] at this
    exact UInt8.toNat_inj.1 this
   ·have h3:0≤n:=by have:=agQ h3;omega
    obtain⟨a1,a2,a3⟩:=M4 (by rw[hn];exact h3)
    rw[hn] at a1 a2 a3
    have b2:bt s (p+n.toNat)=10:=by rw[←hbt,a2];rfl
    have b3:∀j,j<n.toNat->bt s (p+j)≠10:=λj hj e=>by
     refine a3 j hj ?_
     have:=hbt j
     rw[e] at this
     exact UInt8.toNat_inj.1 this
    have hn0:n.toNat≠0:=λe=>by rw[e,Nat.add_zero] at b2;omega
    obtain⟨m,hm⟩:∃m,n.toNat=m+1:=⟨n.toNat-1,by omega⟩
    have g2:=Gs s m (p+1) (by omega) (by rw[show p+1+m=p+n.toNat by omega];exact b2) (λj hj=>by rw[show p+1+j=p+(j+1) by omega];exact b3 (j+1) (by omega))
    refine x.back Z ?_ ⟨⟨p+n.toNat+1,by omega,?_⟩,by show s.size-(p+n.toNat+1)<s.size-p;omega,⟨Z,?_,tR⟩,tR,Z⟩
    ·simp only[ak,aj];omega
    ·rw[←same,g1,g2];congr 1;omega
    ·show (p:Int)+n+1=((p+n.toNat+1:Nat):Int);omega
  have h2:bt s p≠35:=by have h2:¬sb s ((p:Int)).toNat=35:=agQ h2;omega
  have blank:(bt s p=32∨bt s p=9∨bt s p=10)->∃z:{p:Nat // p≤s.size∧skV s false p=skV s false p0},z.1=p+1:=λhb=>by
   refine⟨⟨p+1,by omega,?_⟩,Z⟩
   have e1:nextR (bt s p) false=false:=by unfold nextR;rw[if_neg h2];split<;>rfl
   have g1:=zC (rm:=false) h1 (by rw[e1];unfold l7;rcases hb with e | e | e<;>rw[e]<;>rfl)
   rw[←same,g1,e1]
  refine x.cond Z tR (λh3=>?_) (λh3=>?_)
  ·have h3b:bt s p=32:=by have h3:sb s ((p:Int)).toNat=32:=agP h3;omega
   refine x.cond Z tR (λ_=>?_) (λh4=>absurd (h3.symm.trans h4) (by simp))
   obtain⟨z,hz⟩:=blank (.inl h3b)
   refine x.back Z (show aj _ by unfold aj;omega) ⟨z,by show s.size-z.1<s.size-p;omega,⟨Z,?_,tR⟩,tR,Z⟩
   show (p:Int)+1=(z.1:Int);omega
  have h3b:bt s p≠32:=by have h3:¬sb s ((p:Int)).toNat=32:=agQ h3;omega
  refine x.cond Z tR (λh4=>?_) (λh4=>?_)
  ·have h4b:bt s p=9:=by have h4:sb s ((p:Int)).toNat=9:=agP h4;omega
   refine x.cond Z tR (λ_=>?_) (λh5=>absurd (h4.symm.trans h5) (by simp))
   obtain⟨z,hz⟩:=blank (.inr (.inl h4b))
   refine x.back Z (show aj _ by unfold aj;omega) ⟨z,by show s.size-z.1<s.size-p;omega,⟨Z,?_,tR⟩,tR,Z⟩
   show (p:Int)+1=(z.1:Int);omega
  have h4b:bt s p≠9:=by have h4:¬sb s ((p:Int)).toNat=9:=agQ h4;omega
  refine x.cond Z tR (λh5=>?_) (λh5=>?_)
  ·have h5b:bt s p=10:=by have h5:sb s ((p:Int)).toNat=10:=agP h5;omega
   obtain⟨z,hz⟩:=blank (.inr (.inr h5b))
   refine x.back Z (show aj _ by unfold aj;omega) ⟨z,by show s.size-z.1<s.size-p;omega,⟨Z,?_,tR⟩,tR,Z⟩
   show (p:Int)+1=(z.1:Int);omega
  have h5b:bt s p≠10:=by have h5:¬sb s ((p:Int)).toNat=10:=agQ h5;omega
  refine x.exit Z tR ?_
  refine⟨.inr Z,?_,tR,Z⟩
  show (p:Int)=(skV s false p0:Int)
  rw[←same,Gq h1]
  unfold nextR l7
  rw[if_neg h5b,if_neg h2]
  simp [h3b,h4b,h5b]
 ·have h1:p=s.size:=by have:=agQ h1;omega
  refine x.exit Z tR ?_
  refine⟨.inr Z,?_,tR,Z⟩
  show (p:Int)=(skV s false p0:Int)
  rw[←same,qQ (by omega)]
def eX(s:BY)(p:Nat):Bool:=oG (Utf8.decode s p).1||yH (Utf8.decode s p).1
def KR(s:BY):Nat->Nat->Nat
 | 0,p=>p
 | n+1,p=>if p<s.size then (if eX s p then KR s n (p+(Utf8.decode s p).2) else p) else p
theorem wD{s:BY}{n p:Nat}(h:s.size≤p):KR s n p=p:=by
 cases n with
 | zero=>rfl
 | succ n=>rw[KR,if_neg (by omega)]
theorem Cw(s:BY):∀(n m p:Nat),s.size≤p+n->s.size≤p+m->KR s n p=KR s m p
 | 0,m,p,h,_=>by rw[wD (by omega),wD (by omega)]
 | n+1,0,p,_,h=>by rw[wD (by omega),wD (by omega)]
 | n+1,m+1,p,h1,h2=>by
  have:=(aY s p).1
  rw[KR,KR]
  split
  ·split
   ·exact Cw s n m _ (by omega) (by omega)
   ·rfl
  ·rfl
def l8(s:BY)(p:Nat):Nat:=KR s s.size p
theorem jw{s:BY}{p:Nat}(h:s.size≤p):l8 s p=p:=wD h
theorem dA{s:BY}{p:Nat}(h:p<s.size):l8 s p=if eX s p then l8 s (p+(Utf8.decode s p).2) else p:=by
 unfold l8
 obtain⟨n,hn⟩:∃n,s.size=n+1:=⟨s.size-1,by omega⟩
 have:=(aY s p).1
 rw[Cw s s.size (n+1) p (by omega) (by omega),KR,if_pos h,Cw s n s.size _ (by omega) (by omega)]
theorem xQ(s:BY):∀(n p:Nat),s.size≤p+n->p≤s.size->p≤l8 s p∧l8 s p≤s.size
 | 0,p,h,hp=>by rw[jw (by omega)];omega
 | n+1,p,h,hp=>by
  by_cases hl:p<s.size
  ·rw[dA hl]
   split
   ·have h1:=(aY s p).1
    have h2:=iw hl
    have:=xQ s n (p+(Utf8.decode s p).2) (by omega) h2
    omega
   ·omega
  ·rw[jw (by omega)];omega
theorem decode_extract{s:BY}{p:Nat}(hp:p≤s.size)(q:Nat):Utf8.decode (s.extract p s.size) q=Utf8.decode s (p+q):=by
 have h:=JC (s.size-p) q p (bt s (p+q)) (bt s (p+q+1)) (bt s (p+q+2)) (bt s (p+q+3))
 rw[show p+(s.size-p)=s.size by omega] at h
 rw[bK,bK,extract_size,ny,ny,ny,ny,←Nat.add_assoc,←Nat.add_assoc,←Nat.add_assoc,h]
theorem uw{s:BY}{p:Nat}(hp:p≤s.size):∀(n q:Nat),s.size≤p+q+n->p+l8 (s.extract p s.size) q=l8 s (p+q)
 | 0,q,h=>by rw[jw (by rw[extract_size];omega),jw (by omega)]
 | n+1,q,h=>by
  by_cases hl:p+q<s.size
  ·rw[dA (by rw[extract_size];omega),dA hl,eX,eX,decode_extract hp]
   have:=(aY s (p+q)).1
   split
   ·rw[uw hp n _ (by omega),Nat.add_assoc]
   ·rfl
  ·rw[jw (by rw[extract_size];omega),jw (by omega)]
theorem M6(s:BY)(hs:s.size≤9223372036854775807):Pure PG 148 [vs s] (vi (l8 s 0:Int)) []:=by
 refine aG.mk (cfg 22) aA [] Tryz.func148 Z (by kernel_rfl) Z Z Z ?_
 intro C x
 refine x.loop (α:={p:Nat // p≤s.size∧l8 s p=l8 s 0}) (λy=>⟨[(0,vs s),(6,.ptr 0 0)],[(0,.iter s y.1)],1⟩) (λy=>s.size-y.1) ⟨0,by omega,Z⟩ Z tR ?_ (λy=>?_)
 ·exact⟨⟨Z,⟨Z,Z⟩,tR⟩,⟨⟨Z,Z⟩,tR⟩,Z⟩
 obtain⟨p,hp,same⟩:=y
 change Go C _ ⟨[(0,vs s),(6,.ptr 0 0)],[(0,.iter s p)],1⟩ _
 obtain⟨d1,d2,d3⟩:=aY s p
 refine x.next Z tR Z Z Z (λh=>?_) (λh=>?_)
 ·have h:p<s.size:=h
  have hr:=iw h
  rw[dA h] at same
  refine x.cond rfl tR (λ_=>?_) (λh1=>by cases h1)
  refine x.pure Z tR Z (D9 _) ⟨Z,tR⟩ ?_
  refine x.gG Z tR Z (λ_=>zB _) Z ⟨Z,tR⟩ ?_
  refine x.cond Z tR (λh2=>?_) (λh2=>?_)
  ·have h2:(!oG (Utf8.decode s p).1&&!yH (Utf8.decode s p).1)=true:=h2
   have h3:eX s p=false:=by
    unfold eX
    simp only[agN,agZ] at h2
    rw[h2.1,h2.2];rfl
   rw[if_neg (by rw[h3];simp)] at same
   refine x.exit Z tR ?_
   refine⟨.inr Z,?_,tR,Z⟩
   rw[←same]
   exact Z
  ·have h2:(!oG (Utf8.decode s p).1&&!yH (Utf8.decode s p).1)=false:=h2
   have h3:eX s p=true:=by
    unfold eX
    cases e:oG (Utf8.decode s p).1 with
    | true=>rfl
    | false=>rw[e] at h2;simpa using h2
   rw[if_pos h3] at same
   refine x.back Z tR ⟨⟨p+(Utf8.decode s p).2,hr,same⟩,by show s.size-(p+(Utf8.decode s p).2)<s.size-p;omega,?_⟩
   exact⟨⟨Z,⟨Z,Z⟩,tR⟩,⟨⟨Z,Z⟩,tR⟩,Z⟩
 ·have h:¬p<s.size:=h
  refine x.cond rfl tR (λh1=>by cases h1) (λ_=>?_)
  refine x.exit Z tR ?_
  refine⟨.inr Z,?_,tR,Z⟩
  rw[jw (by omega)] at same
  show (s.size:Int)=(l8 s 0:Int)
  rw[←same];omega
def nA(u:Nat):List UInt8:=if u<10 then [UInt8.ofNat (48+u)] else nA (u/10)++[UInt8.ofNat (48+u%10)]
termination_by u
decreasing_by omega
theorem oH{u:Nat}(h:u<10):nA u=[UInt8.ofNat (48+u)]:=by rw[nA,if_pos h]
theorem xR{u:Nat}(h:¬u<10):nA u=nA (u/10)++[UInt8.ofNat (48+u%10)]:=by rw[nA,if_neg h]
def AQ(u:Nat):List UInt8:=if u=0 then [] else nA u
theorem Vd(u:Nat):AQ (u/10)++[UInt8.ofNat (48+u%10)]=nA u:=by
 by_cases h:u<10
 ·rw[oH h,AQ,if_pos (by omega),Nat.mod_eq_of_lt h];rfl
 ·rw[xR h,AQ,if_neg (by omega)]
def sgV(n:Int):List UInt8:=if n<0 then [45] else []
def bF(n:Int):BY:=ba (sgV n++nA n.natAbs)
theorem wE:∀(k u:Nat),u<10 ^ (k+1)->(nA u).length≤k+1
 | 0,u,h=>by rw[oH (by simpa using h)];simp
 | k+1,u,h=>by
  by_cases hu:u<10
  ·rw[oH hu];simp
  ·rw[xR hu]
   have:=wE k (u/10) (by rw[Nat.pow_succ] at h;omega)
   simp;omega
theorem Gt(s p:BY) :
  Pure PG 197 [vs s,vs p] (vb (decide ((p.size:Int)≤s.size)&&decide ((s.extract 0 p.size).data.toList=p.data.toList))) []:=by
 refine aG.mk (cfg 18) aA [] Tryz.func197 Z (by kernel_rfl) Z Z Z ?_
 intro C x
 refine x.exit Z ?_ ?_
 ·intro h
  exact⟨by omega,by simpa using h⟩
 refine⟨.inr Z,?_,tR,Z⟩
 show _=_
 rfl
def cutV(s p:BY):BY×Bool:=if (decide ((p.size:Int)≤s.size)&&decide ((s.extract 0 p.size).data.toList=p.data.toList))=true then (s.extract p.size s.size,true) else (s,false)
theorem Ve(s p:BY):Pure PG 177 [vs s,vs p] (.tup [vs (cutV s p).1,vb (cutV s p).2]) []:=by
 refine aG.mk (cfg 15) aA [] Tryz.func177 Z (by kernel_rfl) Z Z Z ?_
 intro C x
 refine x.pure Z tR Z (Gt s p) ⟨Z,Z,tR⟩ ?_
 refine x.cond Z tR (λh=>?_) (λh=>?_)
 ·refine x.exit Z tR ?_
  refine⟨.inr Z,?_,tR,Z⟩
  rw[cutV,if_neg (by simpa only[agZ,Bool.not_eq_true] using h)]
  exact⟨Z,Z,tR⟩
 ·have h':(decide ((p.size:Int)≤s.size)&&decide ((s.extract 0 p.size).data.toList=p.data.toList))=true:=by simpa using h
  refine x.exit Z ?_ ?_
  ·simp only[agN,agT] at h'
   simp only[ak]
   omega
  refine⟨.inr Z,?_,tR,Z⟩
  rw[cutV,if_pos h']
  exact⟨Z,Z,tR⟩
theorem Yr(s p:BY):Pure PG 139 [vs s,vs p] (.tup [vs (cutV s p).1,vb (cutV s p).2]) []:=by
 refine aG.mk (cfg 11) aA [] Tryz.func139 Z (by kernel_rfl) Z Z Z ?_
 intro C x
 refine x.pure Z tR Z (Ve s p) ⟨Z,Z,tR⟩ ?_
 refine x.exit Z tR ?_
 exact⟨.inr Z,⟨Z,Z,tR⟩,tR,Z⟩
def dv(s:BY):Nat->Nat->Nat->Option Nat
 | 0,_,u=>some u
 | n+1,i,u=>if i<s.size then if 48≤bt s i∧bt s i≤57 then dv s n (i+1) (10*u+(bt s i-48)) else none else some u
theorem adp{s:BY}{n i u:Nat}(h:¬i<s.size):dv s n i u=some u:=by
 cases n with
 | zero=>rfl
 | succ n=>rw[dv,if_neg h]
theorem Vf{sz p a b c d:Nat}(h:a<128):dec sz p a b c d=(a,1):=by rw[dec,if_pos h]
theorem Yt{sz p a b c d:Nat}(h:¬a<128):128≤(dec sz p a b c d).1:=by
 unfold dec
 rw[if_neg h]
 split
 ·split
  ·rename_i h;exact h
  ·simp
 split
 ·split
  ·rename_i h;exact Nat.le_trans (by omega) h.1
  ·simp
 split
 ·split
  ·rename_i h;exact Nat.le_trans (by omega) h.1
  ·simp
 ·simp
theorem decode_ascii{s:BY}{p:Nat}(h:bt s p<128):Utf8.decode s p=(bt s p,1):=by rw[bK];exact Vf h
theorem decode_high{s:BY}{p:Nat}(h:¬bt s p<128):128≤(Utf8.decode s p).1:=by rw[bK];exact Yt h
def fQ(s:BY):Int×Bool:=
 let d:=(cutV s ⟨#[45]⟩).1
 let neg:=(cutV s ⟨#[45]⟩).2
 if d.size=0∨19<d.size∨(bt d 0=48∧(neg=true∨1<d.size)) then (0,false)
 else match dv d d.size 0 0 with
  | none=>(0,false)
  | some u=>if neg=true∧u≤9223372036854775808 then (-(u:Int),true) else if neg=false∧u<9223372036854775808 then ((u:Int),true) else (0,false)
structure WI (s:BY) where
 n:Nat
 p:Nat
 u:Nat
 fuel:s.size≤p+n
 same:dv s n p u=dv s s.size 0 0
 hp:p≤s.size
 hu:u<10 ^ p
theorem nS(s:BY):Pure PG 84 [vs s] (.tup [vi (fQ s).1,vb (fQ s).2]) []:=by
 refine aG.mk ⟨66,0,false,tys⟩ aA [] Tryz.func84 Z (by kernel_rfl) Z Z Z ?_
 intro C x
 refine x.pure Z tR Z (Yr s ⟨#[45]⟩) ⟨Z,Z,tR⟩ ?_
 generalize hd:(cutV s ⟨#[45]⟩).1=d
 generalize hng:(cutV s ⟨#[45]⟩).2=ng
 have hnil:d.data.toList=(⟨#[]⟩:BY).data.toList↔d.size=0:=by
  rw[show d.size=d.data.toList.length from (Array.length_toList).symm,List.length_eq_zero_iff]
 have hsb:sb d (Int.toNat 0)=(bt d 0:Int):=su d 0
 have hcond:(decide (d.data.toList=(⟨#[]⟩:BY).data.toList)||decide ((19:Int)<d.size)||decide (sb d (Int.toNat 0)=48)&&(ng||decide ((1:Int)<d.size)))=decide (d.size=0∨19<d.size∨(bt d 0=48∧(ng=true∨1<d.size))):=by
  rw[Bool.eq_iff_iff]
  simp only[Bool.or_eq_true,agN,agT,hnil,hsb]
  cases ng<;>simp only[ag0,false_or,true_or,and_true]<;>omega
 refine x.cond Z ?_ (λh=>?_) (λh=>?_)
 ·intro h
  simp only[ag2,agX] at h
  have:¬d.size=0:=λe=>h.1 (hnil.2 e)
  omega
 ·refine x.exit Z tR ?_
  refine⟨.inr Z,?_,tR,Z⟩
  have:d.size=0∨19<d.size∨(bt d 0=48∧(ng=true∨1<d.size)):=by
   rw[hcond] at h
   simpa only[agT] using h
  simp only[fQ,hd,hng]
  rw[if_pos this]
  exact⟨Z,Z,tR⟩
 have hno:¬(d.size=0∨19<d.size∨(bt d 0=48∧(ng=true∨1<d.size))):=by
  rw[hcond] at h
  simpa only[agX] using h
 have hsz:d.size≤19:=by omega
 refine x.loop (α:=WI d) (λy=>⟨[(5,vb ng),(6,.d (.int .u64 (y.u:Int))),(35,.ptr 0 0)],[(0,.iter d y.p)],1⟩) (λy=>d.size+4-y.p) ⟨d.size,0,0,by omega,Z,by omega,by simp⟩ Z tR ?_ (λy=>?_)
 ·exact⟨⟨Z,Z,⟨Z,Z⟩,tR⟩,⟨⟨Z,Z⟩,tR⟩,Z⟩
 obtain⟨n,p,u,fuel,same,hp,hu⟩:=y
 change Go C _ ⟨[(5,vb ng),(6,.d (.int .u64 (u:Int))),(35,.ptr 0 0)],[(0,.iter d p)],1⟩ _
 refine x.next Z tR Z Z Z (λh=>?_) (λh=>?_)
 ·refine x.cond rfl tR (λ_=>?_) (λh1=>by cases h1)
  refine x.pure Z tR Z (zB _) ⟨Z,tR⟩ ?_
  cases n with
  | zero=>omega
  | succ n=>
   rw[dv,if_pos h] at same
   refine x.cond Z tR (λh2=>?_) (λh2=>?_)
   ·have hnd:¬(48≤bt d p∧bt d p≤57):=λhh=>by
     rw[decode_ascii (by omega)] at h2
     simp at h2
     omega
    rw[if_neg hnd] at same
    refine x.exit Z tR ?_
    refine⟨.inr Z,?_,tR,Z⟩
    simp only[fQ,hd,hng]
    rw[if_neg hno,←same]
    exact⟨Z,Z,tR⟩
   ·have hdg:48≤bt d p∧bt d p≤57:=by
     by_cases ha:bt d p<128
     ·rw[decode_ascii ha] at h2
      simp at h2
      omega
     ·have:=decode_high ha
      simp at h2
      omega
    rw[if_pos hdg] at same
    have hdec:=decode_ascii (s:=d) (p:=p) (by omega)
    have hpow:10 ^ (p+1)≤10 ^ 19:=Nat.pow_le_pow_right (by omega) (by omega)
    have hu':10*u+(bt d p-48)<10 ^ (p+1):=by rw[Nat.pow_succ];omega
    refine x.back Z tR ?_
    refine⟨⟨n,p+(Utf8.decode d p).2,10*u+(bt d p-48),by rw[hdec];omega,by rw[hdec];exact same,by rw[hdec];show p+1≤_;omega,by rw[hdec];exact hu'⟩,by show d.size+4-(p+(Utf8.decode d p).2)<d.size+4-p;rw[hdec];show d.size+4-(p+1)<d.size+4-p;omega,?_⟩
    refine⟨⟨Z,?_,⟨Z,Z⟩,tR⟩,⟨⟨Z,Z⟩,tR⟩,Z⟩
    show IntKind.u64.wrap (IntKind.u64.wrap (10*(u:Int))+IntKind.u64.wrap (IntKind.i32.wrap (((Utf8.decode d p).1:Int)-48)))=((10*u+(bt d p-48):Nat):Int)
    rw[hdec,IntKind.wrap_u64,IntKind.wrap_u64,IntKind.wrap_u64,IntKind.wrap_i32]
    omega
 ·refine x.cond rfl tR (λh1=>by cases h1) (λ_=>?_)
  rw[adp h] at same
  have hpow:10 ^ p≤10 ^ 19:=Nat.pow_le_pow_right (by omega) (by omega)
  have hres:fQ s=if ng=true∧u≤9223372036854775808 then (-(u:Int),true) else if ng=false∧u<9223372036854775808 then ((u:Int),true) else (0,false):=by
   simp only[fQ,hd,hng]
   rw[if_neg hno,←same]
  rw[hres]
  refine x.cond Z tR (λh1=>?_) (λh1=>?_)
  ·simp only[agN,agT] at h1
   refine x.exit Z tR ?_
   refine⟨.inr Z,?_,tR,Z⟩
   rw[if_pos ⟨h1.1,by omega⟩]
   refine⟨?_,Z,tR⟩
   show IntKind.i64.wrap (IntKind.u64.wrap (0-(u:Int)))=-(u:Int)
   rw[IntKind.wrap_i64,IntKind.wrap_u64]
   omega
  ·rw[if_neg (by rintro ⟨rfl,hh⟩;simp at h1;omega)]
   refine x.cond Z tR (λh2=>?_) (λh2=>?_)
   ·simp only[agN,agZ,agT] at h2
    refine x.exit Z tR ?_
    refine⟨.inr Z,?_,tR,Z⟩
    rw[if_pos ⟨h2.1,by omega⟩]
    refine⟨?_,Z,tR⟩
    show IntKind.i64.wrap (u:Int)=(u:Int)
    rw[IntKind.wrap_i64]
    omega
   ·refine x.exit Z tR ?_
    refine⟨.inr Z,?_,tR,Z⟩
    rw[if_neg (by rintro ⟨rfl,hh⟩;simp at h2;omega)]
    exact⟨Z,Z,tR⟩
def dvl:List UInt8->Nat->Option Nat
 | [],u=>some u
 | c::r,u=>if 48≤c.toNat∧c.toNat≤57 then dvl r (10*u+(c.toNat-48)) else none
theorem M7(s:BY):s.data.toList.length=s.size:=Array.length_toList
theorem SS(s:BY)(i:Nat)(h:i<s.size):∃c,s.data.toList[i]?=some c∧bt s i=c.toNat:=by
 have h':i<s.data.size:=h
 refine⟨s.data[i],by simp [h'],?_⟩
 unfold bt
 cases s with
 | mk d=>show d[i]!.toNat=_;rw[getElem!_pos d i h']
theorem KS(s:BY):∀(n i u:Nat),s.size≤i+n->dv s n i u=dvl (s.data.toList.drop i) u
 | 0,i,u,h=>by
  rw[dv,List.drop_eq_nil_of_le (by rw[M7];omega)]
  rfl
 | n+1,i,u,h=>by
  rw[dv]
  by_cases hi:i<s.size
  ·obtain⟨c,hc,hb⟩:=SS s i hi
   have hl:i<s.data.toList.length:=(List.getElem?_eq_some_iff.1 hc).1
   rw[if_pos hi,List.drop_eq_getElem_cons hl,(List.getElem?_eq_some_iff.1 hc).2,dvl,hb,KS s n (i+1) _ (by omega)]
  ·rw[if_neg hi,List.drop_eq_nil_of_le (by rw[M7];omega)]
   rfl
theorem SV:∀(l:List UInt8) (c:UInt8) (u:Nat),dvl (l++[c]) u=(dvl l u).bind λv=>if 48≤c.toNat∧c.toNat≤57 then some (10*v+(c.toNat-48)) else none
 | [],c,u=>rfl
 | x::l,c,u=>by
  rw[List.cons_append,dvl,dvl]
  split
  ·exact SV l c _
  ·rfl
theorem Qr(v:Nat)(h:v<10):(UInt8.ofNat (48+v)).toNat=48+v:=by
 rw[UInt8.toNat_ofNat']
 omega
theorem Cy:∀(u:Nat),∃c r,nA u=c::r∧48≤c.toNat∧c.toNat≤57∧(0<u->c.toNat≠48):=by
 intro u
 induction u using Nat.strongRecOn with
 | _ u ih=>
  by_cases h:u<10
  ·refine⟨_,[],oH h,?_⟩
   rw[Qr u h]
   omega
  ·obtain⟨c,r,h1,h2,h3,h4⟩:=ih (u/10) (by omega)
   exact⟨c,r++[_],by rw[xR h,h1];rfl,h2,h3,λ_=>h4 (by omega)⟩
theorem M8:∀(u:Nat),dvl (nA u) 0=some u:=by
 intro u
 induction u using Nat.strongRecOn with
 | _ u ih=>
  by_cases h:u<10
  ·rw[oH h,dvl,Qr u h,if_pos (by omega)]
   show some _=some _
   congr 1
   omega
  ·rw[xR h,SV,ih (u/10) (by omega),Qr _ (by omega)]
   show (if _ then some _ else none)=_
   rw[if_pos (by omega)]
   congr 1
   omega
theorem afU(c:UInt8):UInt8.ofNat c.toNat=c:=by simp
theorem aaR{s:BY}{r:List UInt8}(h:s.data.toList=45::r):cutV s ⟨#[45]⟩=(ba r,true):=by
 have hs:s.size=r.length+1:=by rw[show s.size=s.data.toList.length from (Array.length_toList).symm,h];rfl
 have e1:(s.extract 0 (ByteArray.size ⟨#[45]⟩)).data.toList=[45]:=by
  rw[ByteArray.data_extract,Array.toList_extract,h];rfl
 have e2:s.extract (ByteArray.size ⟨#[45]⟩) s.size=ba r:=by
  apply ByteArray.ext
  apply Array.toList_inj.1
  rw[ByteArray.data_extract,Array.toList_extract,h,hs]
  simp [ba,ByteArray.size,List.extract]
 rw[cutV,if_pos,e2]
 rw[e1]
 simp only[agN,agT]
 exact⟨by rw[hs];show (1:Int)≤_;omega,tR⟩
theorem aaS{s:BY}(h:s.data.toList.head?≠some 45):cutV s ⟨#[45]⟩=(s,false):=by
 rw[cutV,if_neg]
 simp only[agN,agT]
 rintro ⟨h1,h2⟩
 apply h
 rw[ByteArray.data_extract,Array.toList_extract] at h2
 cases hl:s.data.toList with
 | nil=>rw[hl] at h2;cases h2
 | cons a b=>
  rw[hl] at h2
  have:[a]=[45]:=h2
  simp at this
  simp [this]
theorem M9{s:BY}{c:UInt8}{r:List UInt8}(h:s.data.toList=c::r):bt s 0=c.toNat∧s.size=r.length+1:=by
 have hs:s.size=r.length+1:=by rw[show s.size=s.data.toList.length from (Array.length_toList).symm,h];rfl
 obtain⟨d,hd,hb⟩:=SS s 0 (by omega)
 rw[h] at hd
 simp at hd
 subst hd
 exact⟨hb,hs⟩
theorem ab7{c:UInt8}{n:Nat}(hn:n<256):c.toNat=n↔c=UInt8.ofNat n:=by
 constructor
 ·rintro rfl;exact (afU c).symm
 ·rintro rfl;rw[UInt8.toNat_ofNat'];omega
theorem Yu{s:BY}{r:List UInt8}(h:s.data.toList=45::r) :
  fQ s=if r.length=0∨19<r.length∨r.head?=some 48 then (0,false) else match dvl r 0 with
   | none=>(0,false)
   | some u=>if u≤9223372036854775808 then (-(u:Int),true) else (0,false):=by
 have hc:=aaR h
 have hd:dv (ba r) r.length 0 0=dvl r 0:=by rw[KS _ _ _ _ (by rw[xL];omega)];rfl
 unfold fQ
 rw[hc]
 simp only[xL,hd]
 cases r with
 | nil=>rw[if_pos (by simp),if_pos (by simp)]
 | cons c r=>
  have hb:bt (ba (c::r)) 0=c.toNat:=(M9 (s:=ba (c::r)) Z).1
  have h48:c.toNat=48↔(c::r).head?=some 48:=by rw[ab7 (by omega)];simp
  refine wo (by rw[hb,h48];simp) Z ?_
  cases dvl (c::r) 0<;>simp
theorem Yv{s:BY}{l:List UInt8}(hl:s.data.toList=l)(h:l.head?≠some 45) :
  fQ s=if l.length=0∨19<l.length∨(l.head?=some 48∧1<l.length) then (0,false) else match dvl l 0 with
   | none=>(0,false)
   | some u=>if u<9223372036854775808 then ((u:Int),true) else (0,false):=by
 subst hl
 have hc:=aaS h
 have hs:s.size=s.data.toList.length:=(Array.length_toList).symm
 have hd:dv s s.size 0 0=dvl s.data.toList 0:=by rw[KS _ _ _ _ (by omega)];rfl
 unfold fQ
 rw[hc]
 simp only[hd]
 rw[hs]
 cases hl:s.data.toList with
 | nil=>rw[if_pos (by simp),if_pos (by simp)]
 | cons c r=>
  have hb:=(M9 hl).1
  have h48:c.toNat=48↔(c::r).head?=some 48:=by rw[ab7 (by omega)];simp
  refine wo (by rw[hb,h48];simp) Z ?_
  cases dvl (c::r) 0<;>simp
theorem pU(n:Int):(bF n).data.toList=sgV n++nA n.natAbs:=rfl
theorem wF(n:Int)(hn:aj n):fQ (bF n)=(n,true):=by
 unfold aj at hn
 obtain⟨c,q,e1,e2,e3,e4⟩:=Cy n.natAbs
 have hlen:=wE 18 n.natAbs (by show n.natAbs<10000000000000000000;omega)
 by_cases h0:n<0
 ·have hl:(bF n).data.toList=45::nA n.natAbs:=by rw[pU,sgV,if_pos h0];rfl
  have h48:(nA n.natAbs).head?≠some 48:=by
   rw[e1]
   intro e
   simp at e
   exact e4 (by omega) (by rw[e];rfl)
  rw[Yu hl,if_neg,M8]
  ·simp only
   rw[if_pos (by omega)]
   congr 1
   omega
  ·rintro (h | h | h)
   ·rw[e1] at h;simp at h
   ·omega
   ·exact h48 h
 ·have hl:(bF n).data.toList=nA n.natAbs:=by rw[pU,sgV,if_neg h0];rfl
  have h45:(nA n.natAbs).head?≠some 45:=by
   rw[e1]
   intro e
   simp at e
   rw[e] at e2
   simp at e2
  rw[Yv hl h45,if_neg,M8]
  ·simp only
   rw[if_pos (by omega)]
   congr 1
   omega
  ·rintro (h | h | h)
   ·rw[e1] at h;simp at h
   ·omega
   ·by_cases hz:n.natAbs=0
    ·rw[hz,oH (by omega)] at h
     simp at h
    ·rw[e1] at h
     simp at h
     exact e4 (by omega) (by rw[h.1];rfl)
end Go.Proofs.YtojhdmfkfkfcbaaGreatDoor
