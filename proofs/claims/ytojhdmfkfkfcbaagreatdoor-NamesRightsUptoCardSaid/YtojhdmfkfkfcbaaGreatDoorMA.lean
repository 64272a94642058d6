import Derived.Test.YtojhdmfkfkfcbaaGreatDoorSxF
import Derived.Test.YtojhdmfkfkfcbaaGreatDoorProg
import Derived.Lib.DecodeN
import Derived.Test.YtojhdmfkfkfcbaaGreatDoorSxE
import Derived.Test.YtojhdmfkfkfcbaaGreatDoorShelf
set_option maxHeartbeats 1000000000
set_option linter.unusedSimpArgs false
set_option linter.unusedVariables false
namespace Go.Proofs.YtojhdmfkfkfcbaaGreatDoor
open Go.Sx
def iK:List (List UInt8):=[[],[97,100,100],[115,117,98],[109,117,108],[100,105,118],[109,111,100],[97,110,100],[111,114],[120,111,114],[115,104,108],[115,104,114],[101,113],[108,101,115,115]]
def opAt(c:Nat):BY:=⟨(iK.getD c []).toArray⟩
def xX:List Int:=[0,1,56,2,57,49,28,3,61,58,42,50,38,29,17,4,62,47,59,36,45,43,51,22,53,39,33,30,24,18,12,5,63,55,48,27,60,41,37,16,46,35,44,21,52,32,23,11,54,26,40,15,34,20,31,10,25,14,19,9,13,8,7,6]
noncomputable def PG:Pg:=⟨Tryz.prog,
 (1,256,λc=>.int .u8 (Lib.firstT c))::
 (2,32,λc=>.int .u8 (if c%2=0 then Lib.accLo (c/2) else Lib.accHi (c/2)))::
 (3,13,λc=>.string (opAt c))::
 (4,64,λc=>.int .u8 (xX.getD c 0))::
 (0,0,λ_=>undef)::
 []⟩
theorem ty_0:TI.OK Tryz.prog 2 ⟨.int .i64,1,8,[.d (.int .i64 0)]⟩:=TI.mk' (z:=.int .i64 0) Tryz.underlying2 (by kernel_rfl) Z ⟨Z,tR⟩
theorem ty_1:TI.OK Tryz.prog 3 ⟨.int .i64,1,8,[.d (.int .i64 0)]⟩:=TI.mk' (z:=.int .i64 0) Tryz.underlying3 (by kernel_rfl) Z ⟨Z,tR⟩
theorem ty_2:TI.OK Tryz.prog 4 ⟨.bool,1,1,[.d (.bool false)]⟩:=TI.mk' (z:=.bool false) Tryz.underlying4 (by kernel_rfl) Z ⟨Z,tR⟩
theorem ty_3:TI.OK Tryz.prog 5 ⟨.int .u8,1,1,[.d (.int .u8 0)]⟩:=TI.mk' (z:=.int .u8 0) Tryz.underlying5 (by kernel_rfl) Z ⟨Z,tR⟩
theorem ty_4:TI.OK Tryz.prog 9 ⟨.str,1,16,[.d (.str .empty)]⟩:=TI.mk' (z:=.string .empty) Tryz.underlying9 (by kernel_rfl) Z ⟨Z,tR⟩
theorem ty_5:TI.OK Tryz.prog 21 ⟨.int .i32,1,4,[.d (.int .i32 0)]⟩:=TI.mk' (z:=.int .i32 0) Tryz.underlying21 (by kernel_rfl) Z ⟨Z,tR⟩
theorem ty_6:TI.OK Tryz.prog 178 ⟨.int .u64,1,8,[.d (.int .u64 0)]⟩:=TI.mk' (z:=.int .u64 0) Tryz.underlying178 (by kernel_rfl) Z ⟨Z,tR⟩
theorem ty_7:TI.OK Tryz.prog 36 ⟨.int .i64,1,8,[.d (.int .i64 0)]⟩:=TI.mk' (z:=.int .i64 0) Tryz.underlying36 (by kernel_rfl) Z ⟨Z,tR⟩
theorem ty_8:TI.OK Tryz.prog 141 ⟨.slice 5,1,24,[.aF]⟩:=TI.mk' (z:=.slice none 0 0) Tryz.underlying141 (by kernel_rfl) Z ⟨Z,tR⟩
theorem ty_9:TI.OK Tryz.prog 70 ⟨.slice 3,1,24,[.aF]⟩:=TI.mk' (z:=.slice none 0 0) Tryz.underlying70 (by kernel_rfl) Z ⟨Z,tR⟩
theorem adJ:TI.OK Tryz.prog 22 ⟨.slice 9,1,24,[.aF]⟩:=TI.mk' (z:=.slice none 0 0) Tryz.underlying22 (by kernel_rfl) Z ⟨Z,tR⟩
theorem adK:TI.OK Tryz.prog 23 ⟨.slice 178,1,24,[.aF]⟩:=TI.mk' (z:=.slice none 0 0) Tryz.underlying23 (by kernel_rfl) Z ⟨Z,tR⟩
theorem adL:TI.OK Tryz.prog 259 ⟨.array 13 9,13,208,[.d (.str .empty)]⟩:=TI.mk' (z:=.agg (List.replicate 13 [Value.string .empty]).flatten.toArray) Tryz.underlying259 (by kernel_rfl) (by kernel_rfl) (EY (us:=[.d (.str .empty)]) (cs:=[.string .empty]) ⟨Z,tR⟩ 13)
theorem adM:TI.OK Tryz.prog 199 ⟨.other,1,8,[.dead]⟩:=TI.mk' (z:=.nilFunc) ⟨_,Tryz.underlying199,tR⟩ (by kernel_rfl) Z ⟨Z,tR⟩
theorem adN:TI.OK Tryz.prog 72 ⟨.struct [(0,5),(1,5),(2,3),(3,3),(4,3),(5,70),(6,70),(7,2),(8,3)] [],9,96,[.d (.int .u8 0),.d (.int .u8 0),.d (.int .i64 0),.d (.int .i64 0),.d (.int .i64 0),.aF,.aF,.d (.int .i64 0),.d (.int .i64 0)]⟩:=TI.mk' (z:=.agg #[.int .u8 0,.int .u8 0,.int .i64 0,.int .i64 0,.int .i64 0,.slice none 0 0,.slice none 0 0,.int .i64 0,.int .i64 0]) ⟨⟨_,Tryz.underlying72,Z⟩,.inl Z⟩ (by kernel_rfl) Z ⟨Z,Z,Z,Z,Z,Z,Z,Z,Z,tR⟩
theorem adO:TI.OK Tryz.prog 61 ⟨.slice 72,1,24,[.aF]⟩:=TI.mk' (z:=.slice none 0 0) Tryz.underlying61 (by kernel_rfl) Z ⟨Z,tR⟩
theorem adP:TI.OK Tryz.prog 58 ⟨.slice 61,1,24,[.aF]⟩:=TI.mk' (z:=.slice none 0 0) Tryz.underlying58 (by kernel_rfl) Z ⟨Z,tR⟩
theorem adQ:TI.OK Tryz.prog 60 ⟨.struct [(0,3),(1,3),(2,58)] [],3,40,[.d (.int .i64 0),.d (.int .i64 0),.aF]⟩:=TI.mk' (z:=.agg #[.int .i64 0,.int .i64 0,.slice none 0 0]) ⟨⟨_,Tryz.underlying60,Z⟩,.inl Z⟩ (by kernel_rfl) Z ⟨Z,Z,Z,tR⟩
theorem adR:TI.OK Tryz.prog 183 ⟨.struct [(0,5),(1,3),(2,3)] [0,0,0],3,24,[.d (.int .u8 0),.d (.int .i64 0),.d (.int .i64 0)]⟩:=TI.mk' (z:=.agg #[.int .u8 0,.int .i64 0,.int .i64 0]) ⟨⟨_,Tryz.underlying183,Z⟩,.inr (by kernel_rfl)⟩ (by kernel_rfl) Z ⟨Z,Z,Z,tR⟩
theorem adS:TI.OK Tryz.prog 102 ⟨.slice 183,1,24,[.aF]⟩:=TI.mk' (z:=.slice none 0 0) Tryz.underlying102 (by kernel_rfl) Z ⟨Z,tR⟩
theorem adT:TI.OK Tryz.prog 78 ⟨.struct [(0,9),(1,3),(2,9),(3,3)] [2,0,2,0],4,48,[.d (.str .empty),.d (.int .i64 0),.d (.str .empty),.d (.int .i64 0)]⟩:=TI.mk' (z:=.agg #[.string .empty,.int .i64 0,.string .empty,.int .i64 0]) ⟨⟨_,Tryz.underlying78,Z⟩,.inr (by kernel_rfl)⟩ (by kernel_rfl) Z ⟨Z,Z,Z,Z,tR⟩
theorem adU:TI.OK Tryz.prog 87 ⟨.struct [(0,5),(1,5),(2,9),(3,9),(4,9),(5,22),(6,22),(7,2),(8,3)] [],9,120,[.d (.int .u8 0),.d (.int .u8 0),.d (.str .empty),.d (.str .empty),.d (.str .empty),.aF,.aF,.d (.int .i64 0),.d (.int .i64 0)]⟩:=TI.mk' (z:=.agg #[.int .u8 0,.int .u8 0,.string .empty,.string .empty,.string .empty,.slice none 0 0,.slice none 0 0,.int .i64 0,.int .i64 0]) ⟨⟨_,Tryz.underlying87,Z⟩,.inl Z⟩ (by kernel_rfl) Z ⟨Z,Z,Z,Z,Z,Z,Z,Z,Z,tR⟩
theorem adV:TI.OK Tryz.prog 32 ⟨.slice 78,1,24,[.aF]⟩:=TI.mk' (z:=.slice none 0 0) Tryz.underlying32 (by kernel_rfl) Z ⟨Z,tR⟩
theorem adW:TI.OK Tryz.prog 83 ⟨.slice 87,1,24,[.aF]⟩:=TI.mk' (z:=.slice none 0 0) Tryz.underlying83 (by kernel_rfl) Z ⟨Z,tR⟩
theorem adX:TI.OK Tryz.prog 85 ⟨.struct [(0,9),(1,83),(2,3)] [],3,48,[.d (.str .empty),.aF,.d (.int .i64 0)]⟩:=TI.mk' (z:=.agg #[.string .empty,.slice none 0 0,.int .i64 0]) ⟨⟨_,Tryz.underlying85,Z⟩,.inl Z⟩ (by kernel_rfl) Z ⟨Z,Z,Z,tR⟩
theorem adY:TI.OK Tryz.prog 80 ⟨.slice 85,1,24,[.aF]⟩:=TI.mk' (z:=.slice none 0 0) Tryz.underlying80 (by kernel_rfl) Z ⟨Z,tR⟩
theorem adZ:TI.OK Tryz.prog 82 ⟨.struct [(0,9),(1,22),(2,80),(3,3)] [],4,72,[.d (.str .empty),.aF,.aF,.d (.int .i64 0)]⟩:=TI.mk' (z:=.agg #[.string .empty,.slice none 0 0,.slice none 0 0,.int .i64 0]) ⟨⟨_,Tryz.underlying82,Z⟩,.inl Z⟩ (by kernel_rfl) Z ⟨Z,Z,Z,Z,tR⟩
theorem ad1:TI.OK Tryz.prog 33 ⟨.slice 82,1,24,[.aF]⟩:=TI.mk' (z:=.slice none 0 0) Tryz.underlying33 (by kernel_rfl) Z ⟨Z,tR⟩
theorem ad2:TI.OK Tryz.prog 35 ⟨.struct [(0,32),(1,33)] [],2,48,[.aF,.aF]⟩:=TI.mk' (z:=.agg #[.slice none 0 0,.slice none 0 0]) ⟨⟨_,Tryz.underlying35,Z⟩,.inl Z⟩ (by kernel_rfl) Z ⟨Z,Z,tR⟩
theorem ad3:TI.OK Tryz.prog 106 ⟨.struct [(0,3),(1,36)] [0,0],2,16,[.d (.int .i64 0),.d (.int .i64 0)]⟩:=TI.mk' (z:=.agg #[.int .i64 0,.int .i64 0]) ⟨⟨_,Tryz.underlying106,Z⟩,.inr (by kernel_rfl)⟩ (by kernel_rfl) Z ⟨Z,Z,tR⟩
theorem ad4:TI.OK Tryz.prog 110 ⟨.struct [(0,9),(1,102),(2,3),(3,3)] [],4,56,[.d (.str .empty),.aF,.d (.int .i64 0),.d (.int .i64 0)]⟩:=TI.mk' (z:=.agg #[.string .empty,.slice none 0 0,.int .i64 0,.int .i64 0]) ⟨⟨_,Tryz.underlying110,Z⟩,.inl Z⟩ (by kernel_rfl) Z ⟨Z,Z,Z,Z,tR⟩
theorem ad5:TI.OK Tryz.prog 108 ⟨.other,1,8,[.dead]⟩:=TI.mk' (z:=.pointer none) ⟨_,Tryz.underlying108,tR⟩ (by kernel_rfl) Z ⟨Z,tR⟩
theorem ad6:TI.OK Tryz.prog 250 ⟨.other,1,8,[.dead]⟩:=TI.mk' (z:=.pointer none) ⟨_,Tryz.underlying250,tR⟩ (by kernel_rfl) Z ⟨Z,tR⟩
theorem ad7:TI.OK Tryz.prog 1 ⟨.func,1,8,[.d .nf]⟩:=TI.mk' (z:=.nilFunc) ⟨_,_,_,Tryz.underlying1⟩ (by kernel_rfl) Z ⟨Z,tR⟩
theorem ad8:TI.OK Tryz.prog 247 ⟨.func,1,8,[.d .nf]⟩:=TI.mk' (z:=.nilFunc) ⟨_,_,_,Tryz.underlying247⟩ (by kernel_rfl) Z ⟨Z,tR⟩
theorem ad9:TI.OK Tryz.prog 143 ⟨.struct [(0,140),(1,141)] [],2,32,[.d .np,.aF]⟩:=TI.mk' (z:=.agg #[.pointer none,.slice none 0 0]) ⟨⟨_,Tryz.underlying143,Z⟩,.inl Z⟩ (by kernel_rfl) Z ⟨Z,Z,tR⟩
theorem aea:TI.OK Tryz.prog 253 ⟨.struct [(0,3),(1,4),(2,4),(3,4)] [0,1,1,1],4,16,[.d (.int .i64 0),.d (.bool false),.d (.bool false),.d (.bool false)]⟩:=TI.mk' (z:=.agg #[.int .i64 0,.bool false,.bool false,.bool false]) ⟨⟨_,Tryz.underlying253,Z⟩,.inr (by kernel_rfl)⟩ (by kernel_rfl) Z ⟨Z,Z,Z,Z,tR⟩
theorem aeb:TI.OK Tryz.prog 255 ⟨.map 5 253,1,8,[.d .nm]⟩:=TI.mk' (z:=.map none) Tryz.underlying255 (by kernel_rfl) Z ⟨Z,tR⟩
theorem aec:TI.OK Tryz.prog 145 ⟨.iface,1,16,[.d .ni]⟩:=TI.mk' (z:=.nilIface) ⟨_,Tryz.underlying145⟩ (by kernel_rfl) Z ⟨Z,tR⟩
theorem aed:TI.OK Tryz.prog 140 ⟨.other,1,8,[.dead]⟩:=TI.mk' (z:=.pointer none) ⟨_,Tryz.underlying140,tR⟩ (by kernel_rfl) Z ⟨Z,tR⟩
theorem aee:TI.OK Tryz.prog 20 ⟨.iface,1,16,[.d .ni]⟩:=TI.mk' (z:=.nilIface) ⟨_,Tryz.underlying20⟩ (by kernel_rfl) Z ⟨Z,tR⟩
theorem aef:TI.OK Tryz.prog 248 ⟨.map 9 247,1,8,[.d .nm]⟩:=TI.mk' (z:=.map none) Tryz.underlying248 (by kernel_rfl) Z ⟨Z,tR⟩
theorem aeg:TI.OK Tryz.prog 121 ⟨.map 9 3,1,8,[.d .nm]⟩:=TI.mk' (z:=.map none) Tryz.underlying121 (by kernel_rfl) Z ⟨Z,tR⟩
theorem aeh:TI.OK Tryz.prog 162 ⟨.struct [(0,9),(1,3)] [2,0],2,24,[.d (.str .empty),.d (.int .i64 0)]⟩:=TI.mk' (z:=.agg #[.string .empty,.int .i64 0]) ⟨⟨_,Tryz.underlying162,Z⟩,.inr (by kernel_rfl)⟩ (by kernel_rfl) Z ⟨Z,Z,tR⟩
theorem aei:TI.OK Tryz.prog 24 ⟨.slice 162,1,24,[.aF]⟩:=TI.mk' (z:=.slice none 0 0) Tryz.underlying24 (by kernel_rfl) Z ⟨Z,tR⟩
theorem aej:TI.OK Tryz.prog 26 ⟨.struct [(0,22),(1,23),(2,24),(3,24),(4,3)] [],5,104,[.aF,.aF,.aF,.aF,.d (.int .i64 0)]⟩:=TI.mk' (z:=.agg #[.slice none 0 0,.slice none 0 0,.slice none 0 0,.slice none 0 0,.int .i64 0]) ⟨⟨_,Tryz.underlying26,Z⟩,.inl Z⟩ (by kernel_rfl) Z ⟨Z,Z,Z,Z,Z,tR⟩
theorem aek:TI.OK Tryz.prog 180 ⟨.array 2 3,2,16,[.d (.int .i64 0)]⟩:=TI.mk' (z:=.agg (List.replicate 2 [Value.int .i64 0]).flatten.toArray) Tryz.underlying180 (by kernel_rfl) (by kernel_rfl) (EY (us:=[.d (.int .i64 0)]) (cs:=[Value.int .i64 0]) ⟨Z,tR⟩ 2)
theorem ael:TI.OK Tryz.prog 92 ⟨.slice 180,1,24,[.aF]⟩:=TI.mk' (z:=.slice none 0 0) Tryz.underlying92 (by kernel_rfl) Z ⟨Z,tR⟩
theorem aem:TI.OK Tryz.prog 94 ⟨.struct [(0,26),(5,92)] [],6,128,[.aF,.aF,.aF,.aF,.d (.int .i64 0),.aF]⟩:=TI.mk' (z:=.agg #[.slice none 0 0,.slice none 0 0,.slice none 0 0,.slice none 0 0,.int .i64 0,.slice none 0 0]) ⟨⟨_,Tryz.underlying94,Z⟩,.inl Z⟩ (by kernel_rfl) Z ⟨Z,Z,Z,Z,Z,Z,tR⟩
theorem aen:TI.OK Tryz.prog 171 ⟨.func,1,8,[.d .nf]⟩:=TI.mk' (z:=.nilFunc) ⟨_,_,_,Tryz.underlying171⟩ (by kernel_rfl) Z ⟨Z,tR⟩
theorem aeo:TI.OK Tryz.prog 139 ⟨.func,1,8,[.d .nf]⟩:=TI.mk' (z:=.nilFunc) ⟨_,_,_,Tryz.underlying139⟩ (by kernel_rfl) Z ⟨Z,tR⟩
theorem aep:TI.OK Tryz.prog 204 ⟨.func,1,8,[.d .nf]⟩:=TI.mk' (z:=.nilFunc) ⟨_,_,_,Tryz.underlying204⟩ (by kernel_rfl) Z ⟨Z,tR⟩
theorem aer:TI.OK Tryz.prog 156 ⟨.func,1,8,[.d .nf]⟩:=TI.mk' (z:=.nilFunc) ⟨_,_,_,Tryz.underlying156⟩ (by kernel_rfl) Z ⟨Z,tR⟩
theorem aes:TI.OK Tryz.prog 233 ⟨.func,1,8,[.d .nf]⟩:=TI.mk' (z:=.nilFunc) ⟨_,_,_,Tryz.underlying233⟩ (by kernel_rfl) Z ⟨Z,tR⟩
theorem aeu:TI.OK Tryz.prog 173 ⟨.struct [(0,171),(1,3)] [],2,16,[.d .nf,.d (.int .i64 0)]⟩:=TI.mk' (z:=.agg #[.nilFunc,.int .i64 0]) ⟨⟨_,Tryz.underlying173,Z⟩,.inl Z⟩ (by kernel_rfl) Z ⟨Z,Z,tR⟩
theorem aev:TI.OK Tryz.prog 174 ⟨.map 9 173,1,8,[.d .nm]⟩:=TI.mk' (z:=.map none) Tryz.underlying174 (by kernel_rfl) Z ⟨Z,tR⟩
theorem aew:TI.OK Tryz.prog 91 ⟨.other,1,8,[.dead]⟩:=TI.mk' (z:=.pointer none) ⟨_,Tryz.underlying91,tR⟩ (by kernel_rfl) Z ⟨Z,tR⟩
theorem aex:TI.OK Tryz.prog 243 ⟨.other,1,8,[.dead]⟩:=TI.mk' (z:=.pointer none) ⟨_,Tryz.underlying243,tR⟩ (by kernel_rfl) Z ⟨Z,tR⟩
theorem aey:TI.OK Tryz.prog 66 ⟨.struct [(0,3),(1,3)] [0,0],2,16,[.d (.int .i64 0),.d (.int .i64 0)]⟩:=TI.mk' (z:=.agg #[.int .i64 0,.int .i64 0]) ⟨⟨_,Tryz.underlying66,Z⟩,.inr (by kernel_rfl)⟩ (by kernel_rfl) Z ⟨Z,Z,tR⟩
theorem aez:TI.OK Tryz.prog 27 ⟨.slice 66,1,24,[.aF]⟩:=TI.mk' (z:=.slice none 0 0) Tryz.underlying27 (by kernel_rfl) Z ⟨Z,tR⟩
theorem aeA:TI.OK Tryz.prog 28 ⟨.slice 60,1,24,[.aF]⟩:=TI.mk' (z:=.slice none 0 0) Tryz.underlying28 (by kernel_rfl) Z ⟨Z,tR⟩
theorem aeB:TI.OK Tryz.prog 30 ⟨.struct [(0,27),(1,28),(2,3)] [],3,56,[.aF,.aF,.d (.int .i64 0)]⟩:=TI.mk' (z:=.agg #[.slice none 0 0,.slice none 0 0,.int .i64 0]) ⟨⟨_,Tryz.underlying30,Z⟩,.inl Z⟩ (by kernel_rfl) Z ⟨Z,Z,Z,tR⟩
theorem aeC:TI.OK Tryz.prog 118 ⟨.struct [(0,3),(1,36)] [0,0],2,16,[.d (.int .i64 0),.d (.int .i64 0)]⟩:=TI.mk' (z:=.agg #[.int .i64 0,.int .i64 0]) ⟨⟨_,Tryz.underlying118,Z⟩,.inr (by kernel_rfl)⟩ (by kernel_rfl) Z ⟨Z,Z,tR⟩
theorem aeD:TI.OK Tryz.prog 133 ⟨.struct [(0,121),(1,121)] [],2,16,[.d .nm,.d .nm]⟩:=TI.mk' (z:=.agg #[.map none,.map none]) ⟨⟨_,Tryz.underlying133,Z⟩,.inl Z⟩ (by kernel_rfl) Z ⟨Z,Z,tR⟩
theorem aeE:TI.OK Tryz.prog 131 ⟨.slice 133,1,24,[.aF]⟩:=TI.mk' (z:=.slice none 0 0) Tryz.underlying131 (by kernel_rfl) Z ⟨Z,tR⟩
theorem aeF:TI.OK Tryz.prog 123 ⟨.struct [(0,26),(5,35),(7,121),(8,121)] [],9,168,[.aF,.aF,.aF,.aF,.d (.int .i64 0),.aF,.aF,.d .nm,.d .nm]⟩:=TI.mk' (z:=.agg #[.slice none 0 0,.slice none 0 0,.slice none 0 0,.slice none 0 0,.int .i64 0,.slice none 0 0,.slice none 0 0,.map none,.map none]) ⟨⟨_,Tryz.underlying123,Z⟩,.inl Z⟩ (by kernel_rfl) Z ⟨Z,Z,Z,Z,Z,Z,Z,Z,Z,tR⟩
theorem aeG:TI.OK Tryz.prog 120 ⟨.other,1,8,[.dead]⟩:=TI.mk' (z:=.pointer none) ⟨_,Tryz.underlying120,tR⟩ (by kernel_rfl) Z ⟨Z,tR⟩
theorem aeH:TI.OK Tryz.prog 205 ⟨.func,1,8,[.d .nf]⟩:=TI.mk' (z:=.nilFunc) ⟨_,_,_,Tryz.underlying205⟩ (by kernel_rfl) Z ⟨Z,tR⟩
theorem aeI:TI.OK Tryz.prog 129 ⟨.func,1,8,[.d .nf]⟩:=TI.mk' (z:=.nilFunc) ⟨_,_,_,Tryz.underlying129⟩ (by kernel_rfl) Z ⟨Z,tR⟩
theorem aeJ:TI.OK Tryz.prog 130 ⟨.func,1,8,[.d .nf]⟩:=TI.mk' (z:=.nilFunc) ⟨_,_,_,Tryz.underlying130⟩ (by kernel_rfl) Z ⟨Z,tR⟩
theorem aeK:TI.OK Tryz.prog 90 ⟨.func,1,8,[.d .nf]⟩:=TI.mk' (z:=.nilFunc) ⟨_,_,_,Tryz.underlying90⟩ (by kernel_rfl) Z ⟨Z,tR⟩
theorem aeL:TI.OK Tryz.prog 195 ⟨.func,1,8,[.d .nf]⟩:=TI.mk' (z:=.nilFunc) ⟨_,_,_,Tryz.underlying195⟩ (by kernel_rfl) Z ⟨Z,tR⟩
theorem aeM:TI.OK Tryz.prog 196 ⟨.func,1,8,[.d .nf]⟩:=TI.mk' (z:=.nilFunc) ⟨_,_,_,Tryz.underlying196⟩ (by kernel_rfl) Z ⟨Z,tR⟩
theorem aeN:TI.OK Tryz.prog 75 ⟨.func,1,8,[.d .nf]⟩:=TI.mk' (z:=.nilFunc) ⟨_,_,_,Tryz.underlying75⟩ (by kernel_rfl) Z ⟨Z,tR⟩
theorem aeO:TI.OK Tryz.prog 74 ⟨.func,1,8,[.d .nf]⟩:=TI.mk' (z:=.nilFunc) ⟨_,_,_,Tryz.underlying74⟩ (by kernel_rfl) Z ⟨Z,tR⟩
theorem aeP:TI.OK Tryz.prog 73 ⟨.func,1,8,[.d .nf]⟩:=TI.mk' (z:=.nilFunc) ⟨_,_,_,Tryz.underlying73⟩ (by kernel_rfl) Z ⟨Z,tR⟩
theorem aeQ:TI.OK Tryz.prog 266 ⟨.array 64 5,64,64,[.d (.int .u8 0)]⟩:=TI.mk' (z:=.agg (List.replicate 64 [Value.int .u8 0]).flatten.toArray) Tryz.underlying266 (by kernel_rfl) (by kernel_rfl) (EY (us:=[.d (.int .u8 0)]) (cs:=[Value.int .u8 0]) ⟨Z,tR⟩ 64)
def tys:List (Nat×TI):=
 (2,⟨.int .i64,1,8,[.d (.int .i64 0)]⟩)::
 (3,⟨.int .i64,1,8,[.d (.int .i64 0)]⟩)::
 (4,⟨.bool,1,1,[.d (.bool false)]⟩)::
 (5,⟨.int .u8,1,1,[.d (.int .u8 0)]⟩)::
 (9,⟨.str,1,16,[.d (.str .empty)]⟩)::
 (21,⟨.int .i32,1,4,[.d (.int .i32 0)]⟩)::
 (178,⟨.int .u64,1,8,[.d (.int .u64 0)]⟩)::
 (36,⟨.int .i64,1,8,[.d (.int .i64 0)]⟩)::
 (141,⟨.slice 5,1,24,[.aF]⟩)::
 (70,⟨.slice 3,1,24,[.aF]⟩)::
 (22,⟨.slice 9,1,24,[.aF]⟩)::
 (23,⟨.slice 178,1,24,[.aF]⟩)::
 (259,⟨.array 13 9,13,208,[.d (.str .empty)]⟩)::
 (199,⟨.other,1,8,[.dead]⟩)::
 (72,⟨.struct [(0,5),(1,5),(2,3),(3,3),(4,3),(5,70),(6,70),(7,2),(8,3)] [],9,96,[.d (.int .u8 0),.d (.int .u8 0),.d (.int .i64 0),.d (.int .i64 0),.d (.int .i64 0),.aF,.aF,.d (.int .i64 0),.d (.int .i64 0)]⟩)::
 (61,⟨.slice 72,1,24,[.aF]⟩)::
 (58,⟨.slice 61,1,24,[.aF]⟩)::
 (60,⟨.struct [(0,3),(1,3),(2,58)] [],3,40,[.d (.int .i64 0),.d (.int .i64 0),.aF]⟩)::
 (183,⟨.struct [(0,5),(1,3),(2,3)] [0,0,0],3,24,[.d (.int .u8 0),.d (.int .i64 0),.d (.int .i64 0)]⟩)::
 (102,⟨.slice 183,1,24,[.aF]⟩)::
 (78,⟨.struct [(0,9),(1,3),(2,9),(3,3)] [2,0,2,0],4,48,[.d (.str .empty),.d (.int .i64 0),.d (.str .empty),.d (.int .i64 0)]⟩)::
 (87,⟨.struct [(0,5),(1,5),(2,9),(3,9),(4,9),(5,22),(6,22),(7,2),(8,3)] [],9,120,[.d (.int .u8 0),.d (.int .u8 0),.d (.str .empty),.d (.str .empty),.d (.str .empty),.aF,.aF,.d (.int .i64 0),.d (.int .i64 0)]⟩)::
 (32,⟨.slice 78,1,24,[.aF]⟩)::
 (83,⟨.slice 87,1,24,[.aF]⟩)::
 (85,⟨.struct [(0,9),(1,83),(2,3)] [],3,48,[.d (.str .empty),.aF,.d (.int .i64 0)]⟩)::
 (80,⟨.slice 85,1,24,[.aF]⟩)::
 (82,⟨.struct [(0,9),(1,22),(2,80),(3,3)] [],4,72,[.d (.str .empty),.aF,.aF,.d (.int .i64 0)]⟩)::
 (33,⟨.slice 82,1,24,[.aF]⟩)::
 (35,⟨.struct [(0,32),(1,33)] [],2,48,[.aF,.aF]⟩)::
 (106,⟨.struct [(0,3),(1,36)] [0,0],2,16,[.d (.int .i64 0),.d (.int .i64 0)]⟩)::
 (110,⟨.struct [(0,9),(1,102),(2,3),(3,3)] [],4,56,[.d (.str .empty),.aF,.d (.int .i64 0),.d (.int .i64 0)]⟩)::
 (108,⟨.other,1,8,[.dead]⟩)::
 (250,⟨.other,1,8,[.dead]⟩)::
 (1,⟨.func,1,8,[.d .nf]⟩)::
 (247,⟨.func,1,8,[.d .nf]⟩)::
 (143,⟨.struct [(0,140),(1,141)] [],2,32,[.d .np,.aF]⟩)::
 (253,⟨.struct [(0,3),(1,4),(2,4),(3,4)] [0,1,1,1],4,16,[.d (.int .i64 0),.d (.bool false),.d (.bool false),.d (.bool false)]⟩)::
 (255,⟨.map 5 253,1,8,[.d .nm]⟩)::
 (145,⟨.iface,1,16,[.d .ni]⟩)::
 (140,⟨.other,1,8,[.dead]⟩)::
 (20,⟨.iface,1,16,[.d .ni]⟩)::
 (248,⟨.map 9 247,1,8,[.d .nm]⟩)::
 (121,⟨.map 9 3,1,8,[.d .nm]⟩)::
 (162,⟨.struct [(0,9),(1,3)] [2,0],2,24,[.d (.str .empty),.d (.int .i64 0)]⟩)::
 (24,⟨.slice 162,1,24,[.aF]⟩)::
 (26,⟨.struct [(0,22),(1,23),(2,24),(3,24),(4,3)] [],5,104,[.aF,.aF,.aF,.aF,.d (.int .i64 0)]⟩)::
 (180,⟨.array 2 3,2,16,[.d (.int .i64 0)]⟩)::
 (92,⟨.slice 180,1,24,[.aF]⟩)::
 (94,⟨.struct [(0,26),(5,92)] [],6,128,[.aF,.aF,.aF,.aF,.d (.int .i64 0),.aF]⟩)::
 (171,⟨.func,1,8,[.d .nf]⟩)::
 (139,⟨.func,1,8,[.d .nf]⟩)::
 (204,⟨.func,1,8,[.d .nf]⟩)::
 (156,⟨.func,1,8,[.d .nf]⟩)::
 (233,⟨.func,1,8,[.d .nf]⟩)::
 (173,⟨.struct [(0,171),(1,3)] [],2,16,[.d .nf,.d (.int .i64 0)]⟩)::
 (174,⟨.map 9 173,1,8,[.d .nm]⟩)::
 (91,⟨.other,1,8,[.dead]⟩)::
 (243,⟨.other,1,8,[.dead]⟩)::
 (66,⟨.struct [(0,3),(1,3)] [0,0],2,16,[.d (.int .i64 0),.d (.int .i64 0)]⟩)::
 (27,⟨.slice 66,1,24,[.aF]⟩)::
 (28,⟨.slice 60,1,24,[.aF]⟩)::
 (30,⟨.struct [(0,27),(1,28),(2,3)] [],3,56,[.aF,.aF,.d (.int .i64 0)]⟩)::
 (118,⟨.struct [(0,3),(1,36)] [0,0],2,16,[.d (.int .i64 0),.d (.int .i64 0)]⟩)::
 (133,⟨.struct [(0,121),(1,121)] [],2,16,[.d .nm,.d .nm]⟩)::
 (131,⟨.slice 133,1,24,[.aF]⟩)::
 (123,⟨.struct [(0,26),(5,35),(7,121),(8,121)] [],9,168,[.aF,.aF,.aF,.aF,.d (.int .i64 0),.aF,.aF,.d .nm,.d .nm]⟩)::
 (120,⟨.other,1,8,[.dead]⟩)::
 (205,⟨.func,1,8,[.d .nf]⟩)::
 (129,⟨.func,1,8,[.d .nf]⟩)::
 (130,⟨.func,1,8,[.d .nf]⟩)::
 (90,⟨.func,1,8,[.d .nf]⟩)::
 (195,⟨.func,1,8,[.d .nf]⟩)::
 (196,⟨.func,1,8,[.d .nf]⟩)::
 (75,⟨.func,1,8,[.d .nf]⟩)::
 (74,⟨.func,1,8,[.d .nf]⟩)::
 (73,⟨.func,1,8,[.d .nf]⟩)::
 (266,⟨.array 64 5,64,64,[.d (.int .u8 0)]⟩)::
 []
theorem av:bO Tryz.prog tys:=
 And.intro ty_0 <|
 And.intro ty_1 <|
 And.intro ty_2 <|
 And.intro ty_3 <|
 And.intro ty_4 <|
 And.intro ty_5 <|
 And.intro ty_6 <|
 And.intro ty_7 <|
 And.intro ty_8 <|
 And.intro ty_9 <|
 And.intro adJ <|
 And.intro adK <|
 And.intro adL <|
 And.intro adM <|
 And.intro adN <|
 And.intro adO <|
 And.intro adP <|
 And.intro adQ <|
 And.intro adR <|
 And.intro adS <|
 And.intro adT <|
 And.intro adU <|
 And.intro adV <|
 And.intro adW <|
 And.intro adX <|
 And.intro adY <|
 And.intro adZ <|
 And.intro ad1 <|
 And.intro ad2 <|
 And.intro ad3 <|
 And.intro ad4 <|
 And.intro ad5 <|
 And.intro ad6 <|
 And.intro ad7 <|
 And.intro ad8 <|
 And.intro ad9 <|
 And.intro aea <|
 And.intro aeb <|
 And.intro aec <|
 And.intro aed <|
 And.intro aee <|
 And.intro aef <|
 And.intro aeg <|
 And.intro aeh <|
 And.intro aei <|
 And.intro aej <|
 And.intro aek <|
 And.intro ael <|
 And.intro aem <|
 And.intro aen <|
 And.intro aeo <|
 And.intro aep <|
 And.intro aer <|
 And.intro aes <|
 And.intro aeu <|
 And.intro aev <|
 And.intro aew <|
 And.intro aex <|
 And.intro aey <|
 And.intro aez <|
 And.intro aeA <|
 And.intro aeB <|
 And.intro aeC <|
 And.intro aeD <|
 And.intro aeE <|
 And.intro aeF <|
 And.intro aeG <|
 And.intro aeH <|
 And.intro aeI <|
 And.intro aeJ <|
 And.intro aeK <|
 And.intro aeL <|
 And.intro aeM <|
 And.intro aeN <|
 And.intro aeO <|
 And.intro aeP <|
 And.intro aeQ <|
 trivial
theorem ay:Tryz.prog.follows .mixedOrders=true:=by kernel_rfl
def cfg(n:Nat):Cfg:=⟨n,0,true,tys⟩
def dM(n fix:Nat):Cfg:=⟨n,fix,true,tys⟩
end Go.Proofs.YtojhdmfkfkfcbaaGreatDoor
namespace Go.Proofs.YtojhdmfkfkfcbaaGreatDoor
open Go.Sx
set_option maxRecDepth 100000
theorem yK(r:Int):Pure PG 140 [.d (.int .i32 r)] (vb (decide (48≤r)&&decide (r≤57))) []:=by
 refine aD.mk (cfg 9) av [] Tryz.func140 Z (by kernel_rfl) Z Z Z ?_
 intro C x
 refine x.exit Z ?_ ?_
 ·exact tR
 ·exact⟨.inr Z,Z,tR,Z⟩
theorem Ui(s:BY)(i lo hi:Int)(h0:0≤i):Pure PG 206 [vs s,vi i,.d (.int .u8 lo),.d (.int .u8 hi)] (vb (decide (i<s.size)&&decide (lo≤sb s i.toNat)&&decide (sb s i.toNat≤hi))) []:=by
 refine aD.mk (cfg 27) av [] Tryz.func206 Z (by kernel_rfl) Z Z Z ?_
 intro C x
 refine x.exit Z ?_ ?_
 ·simp only[ak,afL,afF]
  omega
 ·exact⟨.inr Z,Z,tR,Z⟩
def aeR(n:Nat):Cfg:=dM n 1
theorem om(r a b:Int):aD PG 189 1 [.d (.int .i32 a),.d (.int .i32 b),.ptr 0 0] [.box [.d (.int .i32 r)]] (vb (decide (a≤r)&&decide (r≤b))) [.box [.d (.int .i32 r)]]:=by
 refine aD.mk (aeR 14) av [0] Tryz.func189 Z (by kernel_rfl) Z Z Z ?_
 intro C x
 refine x.exit Z tR ?_
 exact⟨.inr Z,Z,⟨⟨Z,tR⟩,tR⟩,Z⟩
theorem Dl(r:Int):Pure PG 164 [.d (.int .i32 r)] (vb (decide (97≤r)&&decide (r≤122)||decide (65≤r)&&decide (r≤90)||decide (r=95)||decide (945≤r)&&decide (r≤969)||decide (913≤r)&&decide (r≤937)&&!decide (r=930))) []:=by
 refine aD.mk (cfg 27) av [] Tryz.func164 Z (by kernel_rfl) Z Z Z ?_
 intro C x
 refine x.call [0] Z tR Z (om r 97 122) Z ⟨Z,Z,⟨Z,Z⟩,tR⟩ ⟨⟨Z,tR⟩,tR⟩ ?_
 refine x.oU [0] Z tR Z (λ_=>om r 65 90) Z ⟨Z,Z,⟨Z,Z⟩,tR⟩ ⟨⟨Z,tR⟩,tR⟩ ⟨⟨Z,tR⟩,tR⟩ ?_
 refine x.oU [0] Z ?_ Z (λ_=>om r 945 969) Z ⟨Z,Z,⟨Z,Z⟩,tR⟩ ⟨⟨Z,tR⟩,tR⟩ ⟨⟨Z,tR⟩,tR⟩ ?_
 ·exact tR
 refine x.oU [0] Z tR Z (λ_=>om r 913 937) Z ⟨Z,Z,⟨Z,Z⟩,tR⟩ ⟨⟨Z,tR⟩,tR⟩ ⟨⟨Z,tR⟩,tR⟩ ?_
 refine x.exit Z ?_ ?_
 ·exact tR
 ·refine⟨.inr Z,?_,tR,Z⟩
  rfl
theorem acn(s:BY)(i:Nat):sb s i=((s.get! i).toNat:Int):=by
 unfold sb
 congr 2
 cases s with
 | mk d=>
  show d.toList.getD i 0=d[i]!
  simp [afE,getElem!_def]
  cases h:d[i]?<;>simp<;>rfl
theorem bX(s:BY)(i:Nat):0≤sb s i:=by unfold sb;exact Int.natCast_nonneg _
theorem lV(s:BY)(i:Nat):sb s i<256:=by unfold sb;have:=(s.data.toList.getD i 0).toNat_lt;omega
theorem wrap_u8{n:Nat}(h:n<256):IntKind.u8.wrap (n:Int)=n:=by
 show (n:Int)%256=n
 omega
theorem mask(x:Nat)(m k:Nat)(hx:x<256)(hm:m=2 ^ k-1)(hm':m<256):bT .and .u8 (x:Int) (m:Int)=((x%2 ^ k:Nat):Int):=by
 unfold bT
 simp only
 rw[BitVec.toNat_and]
 have h1:(BitVec.ofInt IntKind.u8.bits (x:Int)).toNat=x:=by
  show (BitVec.ofInt 8 (x:Int)).toNat=x
  simp [BitVec.toNat_ofInt];omega
 have h2:(BitVec.ofInt IntKind.u8.bits (m:Int)).toNat=m:=by
  show (BitVec.ofInt 8 (m:Int)).toNat=m
  simp [BitVec.toNat_ofInt];omega
 rw[h1,h2,hm,Nat.and_two_pow_sub_one_eq_mod]
 refine wrap_u8 (Nat.lt_of_le_of_lt (Nat.mod_le _ _) hx)
theorem RH(x:Int)(m k:Nat)(h0:0≤x)(hx:x<256)(hm:m=2 ^ k-1)(hm':m<256):bT .and .u8 x (m:Int)=x%(2 ^ k:Nat):=by
 obtain⟨y,rfl⟩:=Int.eq_ofNat_of_zero_le h0
 rw[mask y m k (by omega) hm hm']
 rfl
theorem Xw{x:Int}(h0:0≤x)(hx:x<256):bT .and .u8 x 31=x%32:=RH x 31 5 h0 hx Z (by decide)
theorem nS{x:Int}(h0:0≤x)(hx:x<256):bT .and .u8 x 63=x%64:=RH x 63 6 h0 hx Z (by decide)
theorem Xx{x:Int}(h0:0≤x)(hx:x<256):bT .and .u8 x 15=x%16:=RH x 15 4 h0 hx Z (by decide)
theorem abe{x:Int}(h0:0≤x)(hx:x<256):bT .and .u8 x 7=x%8:=RH x 7 3 h0 hx Z (by decide)
def fQ(s:BY)(i lo hi:Int):Bool:=decide (i<s.size)&&decide (lo≤sb s i.toNat)&&decide (sb s i.toNat≤hi)
theorem vT{α:Type}{c c':Prop}[Decidable c][Decidable c']{x x' y y':α}(h:c↔c')(e1:x=x')(e2:y=y'):ite c x y=ite c' x' y':=by
 subst e1 e2
 by_cases hc:c
 ·rw[if_pos hc,if_pos (h.1 hc)]
 ·rw[if_neg hc,if_neg (λh'=>hc (h.2 h'))]
def bt(s:BY)(i:Nat):Nat:=(s.get! i).toNat
theorem nI(s:BY)(i:Nat):sb s i=(bt s i:Int):=acn s i
theorem eD(s:BY)(i:Nat):bt s i<256:=(s.get! i).toNat_lt
def dec(sz p a b c d:Nat):Nat×Nat:=
 if a<128 then (a,1)
 else if a/32=6∧p+1<sz∧b/64=2 then
  if 128≤a%32*64+b%64 then (a%32*64+b%64,2) else (65533,1)
 else if a/16=14∧p+1<sz∧b/64=2∧p+2<sz∧c/64=2 then
  if 2048≤a%16*4096+b%64*64+c%64∧¬(55296≤a%16*4096+b%64*64+c%64∧a%16*4096+b%64*64+c%64≤57343)
  then (a%16*4096+b%64*64+c%64,3) else (65533,1)
 else if a/8=30∧p+1<sz∧b/64=2∧p+2<sz∧c/64=2∧p+3<sz∧d/64=2 then
  if 65536≤a%8*262144+b%64*4096+c%64*64+d%64∧a%8*262144+b%64*4096+c%64*64+d%64≤1114111
  then (a%8*262144+b%64*4096+c%64*64+d%64,4) else (65533,1)
 else (65533,1)
theorem bH(s:BY)(p:Nat):Utf8.decode s p=dec s.size p (bt s p) (bt s (p+1)) (bt s (p+2)) (bt s (p+3)):=by
 unfold Utf8.decode dec
 have hr:Utf8.runeError=65533:=rfl
 have e:∀k,(s.get! k).toNat=bt s k:=λk=>rfl
 have h1:=eD s (p+1)
 have h2:=eD s (p+2)
 have h3:=eD s (p+3)
 have h0:=eD s p
 simp only[hr,e,Nat.add_zero,afF,afL,beq_iff_eq,and_assoc]
 refine vT Iff.rfl Z (vT Iff.rfl Z (vT Iff.rfl (vT ?_ Z Z) (vT Iff.rfl (vT ?_ Z Z) Z)))
 ·simp only[Utf8.valid,Bool.or_eq_true,afF,afL]
  omega
 ·simp only[Utf8.valid,Bool.or_eq_true,afF,afL]
  omega
def cu(s:BY)(i:Int):Int×Int:=
 if 0≤i∧i<s.size then
  if (Utf8.decode s i.toNat).2=1∧128≤bt s i.toNat then (0,0) else (((Utf8.decode s i.toNat).1:Int),((Utf8.decode s i.toNat).2:Int))
 else (0,0)
theorem pq(sz p a b c d:Nat)(ha:a<256)(hb:b<256)(hc:c<256)(hd:d<256) :
  (if (dec sz p a b c d).2=1∧128≤a then (0,0) else (dec sz p a b c d)) =
  if a<128 then (a,1)
  else if 194≤a∧a≤223∧p+1<sz∧128≤b∧b≤191 then (a%32*64+b%64,2)
  else if 224≤a∧a≤239∧p+1<sz∧(a=224->160≤b)∧(a=237->b≤159)∧128≤b∧b≤191∧p+2<sz∧128≤c∧c≤191 then (a%16*4096+b%64*64+c%64,3)
  else if 240≤a∧a≤244∧p+1<sz∧(a=240->144≤b)∧(a=244->b≤143)∧128≤b∧b≤191∧p+2<sz∧128≤c∧c≤191∧p+3<sz∧128≤d∧d≤191 then (a%8*262144+b%64*4096+c%64*64+d%64,4)
  else (0,0):=by
 unfold dec
 by_cases h1:a<128
 ·rw[if_pos h1,if_pos h1,if_neg (by omega)]
 rw[if_neg h1,if_neg h1]
 by_cases h2:a/32=6∧p+1<sz∧b/64=2
 ·rw[if_pos h2]
  by_cases h3:128≤a%32*64+b%64
  ·rw[if_pos h3,if_neg (by simp),if_pos (by omega)]
  ·rw[if_neg h3,if_pos ⟨Z,by omega⟩,if_neg (by omega),if_neg (by omega),if_neg (by omega)]
 rw[if_neg h2,if_neg (c:=194≤a∧a≤223∧p+1<sz∧128≤b∧b≤191) (by omega)]
 by_cases h4:a/16=14∧p+1<sz∧b/64=2∧p+2<sz∧c/64=2
 ·rw[if_pos h4]
  by_cases h5:2048≤a%16*4096+b%64*64+c%64∧¬(55296≤a%16*4096+b%64*64+c%64∧a%16*4096+b%64*64+c%64≤57343)
  ·rw[if_pos h5,if_neg (by simp),if_pos (by omega)]
  ·rw[if_neg h5,if_pos ⟨Z,by omega⟩,if_neg (by omega),if_neg (by omega)]
 rw[if_neg h4,if_neg (c:=224≤a∧_) (by omega)]
 by_cases h6:a/8=30∧p+1<sz∧b/64=2∧p+2<sz∧c/64=2∧p+3<sz∧d/64=2
 ·rw[if_pos h6]
  by_cases h7:65536≤a%8*262144+b%64*4096+c%64*64+d%64∧a%8*262144+b%64*4096+c%64*64+d%64≤1114111
  ·rw[if_pos h7,if_neg (by simp),if_pos (by omega)]
  ·rw[if_neg h7,if_pos ⟨Z,by omega⟩,if_neg (by omega)]
 rw[if_neg h6,if_pos ⟨Z,by omega⟩,if_neg (by omega)]
theorem I5{s:BY}{i:Int}(h:¬(0≤i∧i<s.size)):cu s i=(0,0):=by unfold cu;rw[if_neg h]
theorem pE{s:BY}{i:Int}(h:0≤i∧i<s.size):cu s i =
  (((if (dec s.size i.toNat (bt s i.toNat) (bt s (i.toNat+1)) (bt s (i.toNat+2)) (bt s (i.toNat+3))).2=1∧128≤bt s i.toNat then (0,0) else (dec s.size i.toNat (bt s i.toNat) (bt s (i.toNat+1)) (bt s (i.toNat+2)) (bt s (i.toNat+3)))).1:Int),
   ((if (dec s.size i.toNat (bt s i.toNat) (bt s (i.toNat+1)) (bt s (i.toNat+2)) (bt s (i.toNat+3))).2=1∧128≤bt s i.toNat then (0,0) else (dec s.size i.toNat (bt s i.toNat) (bt s (i.toNat+1)) (bt s (i.toNat+2)) (bt s (i.toNat+3)))).2:Int)):=by
 unfold cu
 rw[if_pos h,bH]
 split<;>rfl
section
variable{s:BY}{i:Int}(h:0≤i∧i<s.size)
include h
theorem Bu(k:Nat)(lo hi:Int):fQ s (i+(k:Int)) lo hi=(decide (i.toNat+k<s.size)&&decide (lo≤(bt s (i.toNat+k):Int))&&decide ((bt s (i.toNat+k):Int)≤hi)):=by
 unfold fQ
 rw[show (i+(k:Int)).toNat=i.toNat+k by omega,nI]
 congr 2
 exact decide_eq_decide.2 (by omega)
theorem RJ(lo hi:Int):fQ s (i+1) lo hi=(decide (i.toNat+1<s.size)&&decide (lo≤(bt s (i.toNat+1):Int))&&decide ((bt s (i.toNat+1):Int)≤hi)):=Bu h 1 lo hi
theorem Xy(lo hi:Int):fQ s (i+2) lo hi=(decide (i.toNat+2<s.size)&&decide (lo≤(bt s (i.toNat+2):Int))&&decide ((bt s (i.toNat+2):Int)≤hi)):=Bu h 2 lo hi
theorem abf(lo hi:Int):fQ s (i+3) lo hi=(decide (i.toNat+3<s.size)&&decide (lo≤(bt s (i.toNat+3):Int))&&decide ((bt s (i.toNat+3):Int)≤hi)):=Bu h 3 lo hi
theorem sbk(k:Nat):sb s (i+(k:Int)).toNat=(bt s (i.toNat+k):Int):=by
 rw[show (i+(k:Int)).toNat=i.toNat+k by omega,nI]
theorem sb1:sb s (i+1).toNat=(bt s (i.toNat+1):Int):=sbk h 1
theorem sb2:sb s (i+2).toNat=(bt s (i.toNat+2):Int):=sbk h 2
theorem sb3:sb s (i+3).toNat=(bt s (i.toNat+3):Int):=sbk h 3
theorem aeS(h1:decide (sb s i.toNat<128)=true):cu s i=(sb s i.toNat,1):=by
 rw[pE h,pq _ _ _ _ _ _ (eD _ _) (eD _ _) (eD _ _) (eD _ _)]
 simp only[nI,afL] at *
 rw[if_pos (by omega)]
 rfl
theorem aeT(h2:(decide (194≤sb s i.toNat)&&decide (sb s i.toNat≤223)&&fQ s (i+1) 128 191)=true) :
  cu s i=(bT .and .u8 (sb s i.toNat) 31*64+bT .and .u8 (sb s (i+1).toNat) 63,2):=by
 rw[Xw (bX _ _) (lV _ _),nS (bX _ _) (lV _ _)]
 rw[pE h,pq _ _ _ _ _ _ (eD _ _) (eD _ _) (eD _ _) (eD _ _)]
 simp only[RJ h,sb1 h,nI,afF,afL] at *
 rw[if_neg (by omega),if_pos (by omega)]
 simp
theorem Xz(y z:Int)(h0:decide (224≤sb s i.toNat)=true∧decide (sb s i.toNat≤239)=true)(hy:(sb s i.toNat=224->160≤y)∧128≤y)(hz:(sb s i.toNat=237->z≤159)∧z≤191)
  (h2:(fQ s (i+1) y z&&fQ s (i+2) 128 191)=true) :
  cu s i=(bT .and .u8 (sb s i.toNat) 15*4096+bT .and .u8 (sb s (i+1).toNat) 63*64+bT .and .u8 (sb s (i+2).toNat) 63,3):=by
 rw[Xx (bX _ _) (lV _ _),nS (bX _ _) (lV _ _),nS (bX _ _) (lV _ _)]
 rw[pE h,pq _ _ _ _ _ _ (eD _ _) (eD _ _) (eD _ _) (eD _ _)]
 simp only[RJ h,Xy h,sb1 h,sb2 h,nI,afF,afL] at *
 rw[if_neg (by omega),if_neg (by omega),if_pos (by omega)]
 simp
theorem XA(y z:Int)(h0:decide (240≤sb s i.toNat)=true∧decide (sb s i.toNat≤244)=true)(hy:(sb s i.toNat=240->144≤y)∧128≤y)(hz:(sb s i.toNat=244->z≤143)∧z≤191)
  (h2:(fQ s (i+1) y z&&fQ s (i+2) 128 191&&fQ s (i+3) 128 191)=true) :
  cu s i=(bT .and .u8 (sb s i.toNat) 7*262144+bT .and .u8 (sb s (i+1).toNat) 63*4096+bT .and .u8 (sb s (i+2).toNat) 63*64+bT .and .u8 (sb s (i+3).toNat) 63,4):=by
 rw[abe (bX _ _) (lV _ _),nS (bX _ _) (lV _ _),nS (bX _ _) (lV _ _),nS (bX _ _) (lV _ _)]
 rw[pE h,pq _ _ _ _ _ _ (eD _ _) (eD _ _) (eD _ _) (eD _ _)]
 simp only[RJ h,Xy h,abf h,sb1 h,sb2 h,sb3 h,nI,afF,afL] at *
 rw[if_neg (by omega),if_neg (by omega),if_neg (by omega),if_pos (by omega)]
 simp
theorem tZ(h1:decide (sb s i.toNat<128)=false)(h2:(decide (194≤sb s i.toNat)&&decide (sb s i.toNat≤223)&&fQ s (i+1) 128 191)=false)
  (h3:(224≤sb s i.toNat∧sb s i.toNat≤239)->∃y z:Int,(sb s i.toNat≠224∧y≤128∨y≤160∧sb s i.toNat=224)∧(sb s i.toNat≠237∧191≤z∨159≤z∧sb s i.toNat=237)∧(fQ s (i+1) y z&&fQ s (i+2) 128 191)=false)
  (h4:(240≤sb s i.toNat∧sb s i.toNat≤244)->∃y z:Int,(sb s i.toNat≠240∧y≤128∨y≤144∧sb s i.toNat=240)∧(sb s i.toNat≠244∧191≤z∨143≤z∧sb s i.toNat=244)∧(fQ s (i+1) y z&&fQ s (i+2) 128 191&&fQ s (i+3) 128 191)=false) :
  cu s i=(0,0):=by
 rw[pE h,pq _ _ _ _ _ _ (eD _ _) (eD _ _) (eD _ _) (eD _ _)]
 simp only[RJ h,Xy h,abf h,nI,Bool.and_eq_false_iff,afP] at *
 rw[if_neg (by clear h3 h4;omega),if_neg (by clear h3 h4;omega),if_neg ?_,if_neg ?_]
 ·rfl
 ·intro hh
  obtain⟨y,z,h5,h6,h7⟩:=h4 (by clear h3 h4;omega)
  clear h3 h4
  omega
 ·intro hh
  obtain⟨y,z,h5,h6,h7⟩:=h3 (by clear h3 h4;omega)
  clear h3 h4
  omega
end
theorem mV:Tryz.prog.follows .mixedOrders=true:=by kernel_rfl
section
variable{s:BY}{i:Int}(h:0≤i∧i<s.size)(hs:s.size≤9223372036854775807)
include h hs
theorem ob2(h2:(decide (194≤sb s i.toNat)&&decide (sb s i.toNat≤223)&&fQ s (i+1) 128 191)=true) :
  ak [aj (bT BinOp.and IntKind.u8 (sb s i.toNat) 31),aj (bT BinOp.and IntKind.u8 (sb s i.toNat) 31*64),
   aj (i+1),0≤i+1∧i+1 < ↑s.size,aj (bT BinOp.and IntKind.u8 (sb s (i+1).toNat) 63),
   aj (bT BinOp.and IntKind.u8 (sb s i.toNat) 31*64+bT BinOp.and IntKind.u8 (sb s (i+1).toNat) 63)]:=by
 rw[Xw (bX _ _) (lV _ _),nS (bX _ _) (lV _ _)]
 simp only[fQ,afF,afL] at h2
 simp only[ak,aj]
 omega
theorem ob3{y z:Int}(h2:(fQ s (i+1) y z&&fQ s (i+2) 128 191)=true) :
  ak [aj (bT BinOp.and IntKind.u8 (sb s i.toNat) 15),aj (bT BinOp.and IntKind.u8 (sb s i.toNat) 15*4096),
   aj (i+1),0≤i+1∧i+1 < ↑s.size,aj (bT BinOp.and IntKind.u8 (sb s (i+1).toNat) 63),aj (bT BinOp.and IntKind.u8 (sb s (i+1).toNat) 63*64),
   aj (bT BinOp.and IntKind.u8 (sb s i.toNat) 15*4096+bT BinOp.and IntKind.u8 (sb s (i+1).toNat) 63*64),
   aj (i+2),0≤i+2∧i+2 < ↑s.size,aj (bT BinOp.and IntKind.u8 (sb s (i+2).toNat) 63),
   aj (bT BinOp.and IntKind.u8 (sb s i.toNat) 15*4096+bT BinOp.and IntKind.u8 (sb s (i+1).toNat) 63*64+bT BinOp.and IntKind.u8 (sb s (i+2).toNat) 63)]:=by
 rw[Xx (bX _ _) (lV _ _),nS (bX _ _) (lV _ _),nS (bX _ _) (lV _ _)]
 simp only[fQ,afF,afL] at h2
 simp only[ak,aj]
 omega
theorem ob4{y z:Int}(h2:(fQ s (i+1) y z&&fQ s (i+2) 128 191&&fQ s (i+3) 128 191)=true) :
  ak [aj (bT BinOp.and IntKind.u8 (sb s i.toNat) 7),aj (bT BinOp.and IntKind.u8 (sb s i.toNat) 7*262144),
   aj (i+1),0≤i+1∧i+1 < ↑s.size,aj (bT BinOp.and IntKind.u8 (sb s (i+1).toNat) 63),aj (bT BinOp.and IntKind.u8 (sb s (i+1).toNat) 63*4096),
   aj (bT BinOp.and IntKind.u8 (sb s i.toNat) 7*262144+bT BinOp.and IntKind.u8 (sb s (i+1).toNat) 63*4096),
   aj (i+2),0≤i+2∧i+2 < ↑s.size,aj (bT BinOp.and IntKind.u8 (sb s (i+2).toNat) 63),aj (bT BinOp.and IntKind.u8 (sb s (i+2).toNat) 63*64),
   aj (bT BinOp.and IntKind.u8 (sb s i.toNat) 7*262144+bT BinOp.and IntKind.u8 (sb s (i+1).toNat) 63*4096+bT BinOp.and IntKind.u8 (sb s (i+2).toNat) 63*64),
   aj (i+3),0≤i+3∧i+3 < ↑s.size,aj (bT BinOp.and IntKind.u8 (sb s (i+3).toNat) 63),
   aj (bT BinOp.and IntKind.u8 (sb s i.toNat) 7*262144+bT BinOp.and IntKind.u8 (sb s (i+1).toNat) 63*4096+bT BinOp.and IntKind.u8 (sb s (i+2).toNat) 63*64+bT BinOp.and IntKind.u8 (sb s (i+3).toNat) 63)]:=by
 rw[abe (bX _ _) (lV _ _),nS (bX _ _) (lV _ _),nS (bX _ _) (lV _ _),nS (bX _ _) (lV _ _)]
 simp only[fQ,afF,afL] at h2
 simp only[ak,aj]
 omega
end
theorem aco{a:Int}(h:(decide (224≤a)&&decide (a≤239))=true):¬(decide (240≤a)&&decide (a≤244))=true:=by
 simp only[afF,afL] at *;omega
theorem XB{a:Int}(h:(decide (224≤a)&&decide (a≤239))=true):¬(240≤a∧a≤244):=by
 simp only[afF,afL] at *;omega
theorem RL{a:Int}(h:(decide (224≤a)&&decide (a≤239))=false):¬(224≤a∧a≤239):=by
 simp only[Bool.and_eq_false_iff,afP] at *;omega
theorem aeU{a:Int}(h:(decide (240≤a)&&decide (a≤244))=false):¬(240≤a∧a≤244):=by
 simp only[Bool.and_eq_false_iff,afP] at *;omega
theorem Uj{s:BY}{i lo hi:Int}(h:fQ s (i+1) lo hi=true):i+2≤s.size:=by
 simp only[fQ,afF,afL] at h;omega
theorem acp{s:BY}{i lo hi lo' hi':Int}(h:(fQ s (i+1) lo hi&&fQ s (i+2) lo' hi')=true):i+3≤s.size:=by
 simp only[fQ,afF,afL] at h;omega
theorem Bv(s:BY)(i:Int)(hs:s.size≤9223372036854775807):Pure PG 194 [vs s,vi i] (.tup [vi (cu s i).1,vi (cu s i).2]) []:=by
 refine aD.mk (cfg 145) av [] Tryz.func194 Z (by kernel_rfl) Z Z Z ?_
 intro C x
 refine x.cond Z tR (λh0=>?_) (λh0=>?_)
 ·refine x.exit Z tR ?_
  refine⟨.inr Z,?_,tR,Z⟩
  rw[I5 (by simp at h0;omega)]
  exact⟨Z,Z,tR⟩
 have hi:0≤i∧i<s.size:=by
  simp only[afU,afP] at h0
  omega
 have hin:∀k:Int,0≤k∧i+k≤s.size->aj (i+k):=λk hk=>by unfold aj;omega
 have hm:∀k lo hi:Int,0≤k->Pure PG 206 [vs s,vi (i+k),.d (.int .u8 lo),.d (.int .u8 hi)] (vb (fQ s (i+k) lo hi)) []:=λk lo hi hk=>Ui s (i+k) lo hi (by omega)
 have hsb:=bX s i.toNat
 have hsb':=lV s i.toNat
 refine x.cond Z hi (λh1=>?_) (λh1=>?_)
 ·refine x.exit Z ?_ ?_
  ·show aj _
   unfold aj
   omega
  refine⟨.inr Z,?_,tR,Z⟩
  rw[aeS hi h1]
  exact⟨Z,Z,tR⟩
 refine x.bK Z (λ_=>hin 1 (by omega)) Z (λ_=>hm 1 128 191 (by omega)) Z ⟨Z,Z,Z,Z,tR⟩ ?_
 refine x.cond Z tR (λh2=>?_) (λh2=>?_)
 ·refine x.exit Z (ob2 hi hs h2) ?_
  refine⟨.inr Z,?_,tR,Z⟩
  rw[aeT hi h2]
  exact⟨Z,Z,tR⟩
 refine x.cond Z tR (λh3=>?_) (λh3=>?_)
 ·refine x.cond Z tR (λh4=>?_) (λh4=>?_)
  ·refine x.cond Z tR (λh5=>?_) (λh5=>?_)
   ·simp at h4 h5;omega
   ·have hy:(sb s i.toNat=224->(160:Int)≤160)∧(128:Int)≤160:=by omega
    have hz:(sb s i.toNat=237->(191:Int)≤159)∧(191:Int)≤191:=by simp at h4 h5;omega
    refine x.pure Z (by exact hin 1 (by omega)) Z (hm 1 160 191 (by omega)) ⟨Z,Z,Z,Z,tR⟩ ?_
    refine x.bK Z (λhg=>hin 2 ⟨by omega,Uj hg⟩) Z (λ_=>hm 2 128 191 (by omega)) Z ⟨Z,Z,Z,Z,tR⟩ ?_
    refine x.cond Z tR (λh6=>?_) (λh6=>?_)
    ·refine x.quiet Z tR mV (by kernel_rfl) ?_
     refine x.bS Z ?_ ?_
     ·exact ob3 hi hs h6
     refine x.exit Z tR ?_
     refine⟨.inr Z,?_,tR,Z⟩
     rw[Xz hi 160 191 (Bool.and_eq_true_iff.1 h3) (by first | exact hy | (simp at *<;>omega)) (by first | exact hz | (simp at *<;>omega)) h6]
     exact⟨Z,Z,tR⟩
    ·refine x.cond Z tR (λh7=>absurd h7 (aco h3)) (λh7=>?_)
     refine x.exit Z tR ?_
     refine⟨.inr Z,?_,tR,Z⟩
     rw[tZ hi h1 h2 (λ_=>⟨160,191,by simp at *<;>omega,by simp at *<;>omega,h6⟩) (λh8=>absurd h8 (XB h3))]
     exact⟨Z,Z,tR⟩
  ·refine x.cond Z tR (λh5=>?_) (λh5=>?_)
   ·have hy:(sb s i.toNat=224->(160:Int)≤128)∧(128:Int)≤128:=by simp at h4 h5;omega
    have hz:(sb s i.toNat=237->(159:Int)≤159)∧(159:Int)≤191:=by omega
    refine x.pure Z (by exact hin 1 (by omega)) Z (hm 1 128 159 (by omega)) ⟨Z,Z,Z,Z,tR⟩ ?_
    refine x.bK Z (λhg=>hin 2 ⟨by omega,Uj hg⟩) Z (λ_=>hm 2 128 191 (by omega)) Z ⟨Z,Z,Z,Z,tR⟩ ?_
    refine x.cond Z tR (λh6=>?_) (λh6=>?_)
    ·refine x.quiet Z tR mV (by kernel_rfl) ?_
     refine x.bS Z ?_ ?_
     ·exact ob3 hi hs h6
     refine x.exit Z tR ?_
     refine⟨.inr Z,?_,tR,Z⟩
     rw[Xz hi 128 159 (Bool.and_eq_true_iff.1 h3) (by first | exact hy | (simp at *<;>omega)) (by first | exact hz | (simp at *<;>omega)) h6]
     exact⟨Z,Z,tR⟩
    ·refine x.cond Z tR (λh7=>absurd h7 (aco h3)) (λh7=>?_)
     refine x.exit Z tR ?_
     refine⟨.inr Z,?_,tR,Z⟩
     rw[tZ hi h1 h2 (λ_=>⟨128,159,by simp at *<;>omega,by simp at *<;>omega,h6⟩) (λh8=>absurd h8 (XB h3))]
     exact⟨Z,Z,tR⟩
   ·have hy:(sb s i.toNat=224->(160:Int)≤128)∧(128:Int)≤128:=by simp at h4 h5;omega
    have hz:(sb s i.toNat=237->(191:Int)≤159)∧(191:Int)≤191:=by simp at h4 h5;omega
    refine x.pure Z (by exact hin 1 (by omega)) Z (hm 1 128 191 (by omega)) ⟨Z,Z,Z,Z,tR⟩ ?_
    refine x.bK Z (λhg=>hin 2 ⟨by omega,Uj hg⟩) Z (λ_=>hm 2 128 191 (by omega)) Z ⟨Z,Z,Z,Z,tR⟩ ?_
    refine x.cond Z tR (λh6=>?_) (λh6=>?_)
    ·refine x.quiet Z tR mV (by kernel_rfl) ?_
     refine x.bS Z ?_ ?_
     ·exact ob3 hi hs h6
     refine x.exit Z tR ?_
     refine⟨.inr Z,?_,tR,Z⟩
     rw[Xz hi 128 191 (Bool.and_eq_true_iff.1 h3) (by first | exact hy | (simp at *<;>omega)) (by first | exact hz | (simp at *<;>omega)) h6]
     exact⟨Z,Z,tR⟩
    ·refine x.cond Z tR (λh7=>absurd h7 (aco h3)) (λh7=>?_)
     refine x.exit Z tR ?_
     refine⟨.inr Z,?_,tR,Z⟩
     rw[tZ hi h1 h2 (λ_=>⟨128,191,by simp at *<;>omega,by simp at *<;>omega,h6⟩) (λh8=>absurd h8 (XB h3))]
     exact⟨Z,Z,tR⟩
 refine x.cond Z tR (λh7=>?_) (λh7=>?_)
 ·refine x.cond Z tR (λh4=>?_) (λh4=>?_)
  ·refine x.cond Z tR (λh5=>?_) (λh5=>?_)
   ·simp at h4 h5;omega
   ·refine x.pure Z (by exact hin 1 (by omega)) Z (hm 1 144 191 (by omega)) ⟨Z,Z,Z,Z,tR⟩ ?_
    refine x.bK Z (λhg=>hin 2 ⟨by omega,Uj hg⟩) Z (λ_=>hm 2 128 191 (by omega)) Z ⟨Z,Z,Z,Z,tR⟩ ?_
    refine x.bK Z (λhg=>hin 3 ⟨by omega,acp hg⟩) Z (λ_=>hm 3 128 191 (by omega)) Z ⟨Z,Z,Z,Z,tR⟩ ?_
    refine x.cond Z tR (λh6=>?_) (λh6=>?_)
    ·refine x.quiet Z tR mV (by kernel_rfl) ?_
     refine x.bS Z ?_ ?_
     ·exact ob4 hi hs h6
     refine x.exit Z tR ?_
     refine⟨.inr Z,?_,tR,Z⟩
     rw[XA hi 144 191 (Bool.and_eq_true_iff.1 h7) (by simp at *<;>omega) (by simp at *<;>omega) h6]
     exact⟨Z,Z,tR⟩
    ·refine x.exit Z tR ?_
     refine⟨.inr Z,?_,tR,Z⟩
     rw[tZ hi h1 h2 (λh8=>absurd h8 (RL h3)) (λ_=>⟨144,191,by simp at *<;>omega,by simp at *<;>omega,h6⟩)]
     exact⟨Z,Z,tR⟩
  ·refine x.cond Z tR (λh5=>?_) (λh5=>?_)
   ·refine x.pure Z (by exact hin 1 (by omega)) Z (hm 1 128 143 (by omega)) ⟨Z,Z,Z,Z,tR⟩ ?_
    refine x.bK Z (λhg=>hin 2 ⟨by omega,Uj hg⟩) Z (λ_=>hm 2 128 191 (by omega)) Z ⟨Z,Z,Z,Z,tR⟩ ?_
    refine x.bK Z (λhg=>hin 3 ⟨by omega,acp hg⟩) Z (λ_=>hm 3 128 191 (by omega)) Z ⟨Z,Z,Z,Z,tR⟩ ?_
    refine x.cond Z tR (λh6=>?_) (λh6=>?_)
    ·refine x.quiet Z tR mV (by kernel_rfl) ?_
     refine x.bS Z ?_ ?_
     ·exact ob4 hi hs h6
     refine x.exit Z tR ?_
     refine⟨.inr Z,?_,tR,Z⟩
     rw[XA hi 128 143 (Bool.and_eq_true_iff.1 h7) (by simp at *<;>omega) (by simp at *<;>omega) h6]
     exact⟨Z,Z,tR⟩
    ·refine x.exit Z tR ?_
     refine⟨.inr Z,?_,tR,Z⟩
     rw[tZ hi h1 h2 (λh8=>absurd h8 (RL h3)) (λ_=>⟨128,143,by simp at *<;>omega,by simp at *<;>omega,h6⟩)]
     exact⟨Z,Z,tR⟩
   ·refine x.pure Z (by exact hin 1 (by omega)) Z (hm 1 128 191 (by omega)) ⟨Z,Z,Z,Z,tR⟩ ?_
    refine x.bK Z (λhg=>hin 2 ⟨by omega,Uj hg⟩) Z (λ_=>hm 2 128 191 (by omega)) Z ⟨Z,Z,Z,Z,tR⟩ ?_
    refine x.bK Z (λhg=>hin 3 ⟨by omega,acp hg⟩) Z (λ_=>hm 3 128 191 (by omega)) Z ⟨Z,Z,Z,Z,tR⟩ ?_
    refine x.cond Z tR (λh6=>?_) (λh6=>?_)
    ·refine x.quiet Z tR mV (by kernel_rfl) ?_
     refine x.bS Z ?_ ?_
     ·exact ob4 hi hs h6
     refine x.exit Z tR ?_
     refine⟨.inr Z,?_,tR,Z⟩
     rw[XA hi 128 191 (Bool.and_eq_true_iff.1 h7) (by simp at *<;>omega) (by simp at *<;>omega) h6]
     exact⟨Z,Z,tR⟩
    ·refine x.exit Z tR ?_
     refine⟨.inr Z,?_,tR,Z⟩
     rw[tZ hi h1 h2 (λh8=>absurd h8 (RL h3)) (λ_=>⟨128,191,by simp at *<;>omega,by simp at *<;>omega,h6⟩)]
     exact⟨Z,Z,tR⟩
 ·refine x.exit Z tR ?_
  refine⟨.inr Z,?_,tR,Z⟩
  rw[tZ hi h1 h2 (λh8=>absurd h8 (RL h3)) (λh8=>absurd h8 (aeU h7))]
  exact⟨Z,Z,tR⟩
def lW(s:BY)(i:Int):Int:=if (cu s i).2=0 then i+1 else i+(cu s i).2
theorem Bw(s:BY)(i:Int):0≤(cu s i).2∧(cu s i).2≤4:=by
 by_cases h:0≤i∧i<s.size
 ·rw[pE h,pq _ _ _ _ _ _ (eD _ _) (eD _ _) (eD _ _) (eD _ _)]
  repeat' split
  all_goals simp
 ·rw[I5 h];simp
theorem yL(s:BY)(i:Int)(h:0≤i∧i<s.size):i+(cu s i).2≤s.size:=by
 rw[pE h,pq _ _ _ _ _ _ (eD _ _) (eD _ _) (eD _ _) (eD _ _)]
 repeat' split
 all_goals (simp;omega)
theorem FK(s:BY)(i:Int)(h:0≤i∧i<s.size):lW s i≤s.size:=by
 have:=yL s i h
 unfold lW
 split<;>omega
theorem I6(s:BY)(i:Int)(hs:s.size≤9223372036854775807)(hi:0≤i∧i<s.size):Pure PG 193 [vs s,vi i] (vi (lW s i)) []:=by
 refine aD.mk (cfg 20) av [] Tryz.func193 Z (by kernel_rfl) Z Z Z ?_
 intro C x
 have hl:=Bw s i
 have hr:=yL s i hi
 refine x.pure Z tR Z (Bv s i hs) ⟨Z,Z,tR⟩ ?_
 refine x.cond Z tR (λh0=>?_) (λh0=>?_)
 ·refine x.exit Z (show aj (i+1) by unfold aj;omega) ?_
  refine⟨.inr Z,?_,tR,Z⟩
  rw[lW,if_pos (by simpa using h0)]
  exact Z
 ·refine x.exit Z (show aj (i+(cu s i).2) by unfold aj;omega) ?_
  refine⟨.inr Z,?_,tR,Z⟩
  rw[lW,if_neg (by simpa using h0)]
  exact Z
theorem bF(s:BY)(p:Nat):1≤(Utf8.decode s p).2∧(Utf8.decode s p).2≤4∧(Utf8.decode s p).1<4294967296:=by
 rw[bH]
 have h0:=eD s p
 unfold dec
 repeat' split
 all_goals simp
 all_goals omega
theorem Mj(s:BY)(i:Int):i+1≤lW s i∧lW s i≤i+4:=by
 have:=Bw s i
 unfold lW
 split<;>omega
def fB(s:BY):Nat->Int->Int->Int
 | 0,_,c=>c
 | n+1,i,c=>if i<s.size then fB s n (lW s i) (c+1) else c
theorem FL{s:BY}{n:Nat}{i c:Int}(h:¬i<s.size):fB s n i c=c:=by
 cases n with
 | zero=>rfl
 | succ n=>rw[fB,if_neg h]
def dA(s:BY):Nat->Int->Int
 | 0,_=>-1
 | n+1,i=>if i<s.size then if (cu s i).2=0 then i else dA s n (i+(cu s i).2) else -1
theorem lX{s:BY}{n:Nat}{i:Int}(h:¬i<s.size):dA s n i=-1:=by
 cases n with
 | zero=>rfl
 | succ n=>rw[dA,if_neg h]
structure RI (s:BY) where
 n:Nat
 i:Int
 c:Int
 fuel:(s.size:Int)≤i+n
 same:fB s n i c=fB s s.size 0 0
 hc:0≤c∧c≤i
 hi:0≤i∧i≤s.size
theorem PK(s:BY)(hs:s.size≤9223372036854775807):Pure PG 192 [vs s] (vi (fB s s.size 0 0)) []:=by
 refine aD.mk (cfg 15) av [] Tryz.func192 Z (by kernel_rfl) Z Z Z ?_
 intro C x
 refine x.loop (α:=RI s) (λy=>⟨[(0,vs s),(3,vi y.c),(4,vi y.i)],[],0⟩) (λy=>(s.size+4-y.i).toNat) ⟨s.size,0,0,by omega,Z,by omega,by omega⟩ Z tR ?_ (λy=>?_)
 ·exact⟨⟨Z,Z,Z,tR⟩,tR,Z⟩
 obtain⟨n,i,c,fuel,same,hc,hi⟩:=y
 change Go C _ ⟨[(0,vs s),(3,vi c),(4,vi i)],[],0⟩ _
 refine x.cond Z tR (λh=>?_) (λh=>?_)
 ·have h':i<s.size:=by simpa using h
  have hn:=Mj s i
  have hr:=FK s i (by omega)
  refine x.pure Z (show aj (c+1) by unfold aj;omega) Z (I6 s i hs (by omega)) ⟨Z,Z,tR⟩ ?_
  refine x.back Z tR ?_
  cases n with
  | zero=>omega
  | succ n=>
   rw[fB,if_pos h'] at same
   refine⟨⟨n,lW s i,c+1,by omega,same,by omega,by omega⟩,by show ((s.size:Int)+4-lW s i).toNat<((s.size:Int)+4-i).toNat;omega,?_⟩
   exact⟨⟨Z,Z,Z,tR⟩,tR,Z⟩
 ·have h':¬i<s.size:=by simpa using h
  refine x.exit Z tR ?_
  refine⟨.inr Z,?_,tR,Z⟩
  rw[←same,FL h']
  exact Z
structure BI (s:BY) where
 n:Nat
 i:Int
 fuel:(s.size:Int)≤i+n
 same:dA s n i=dA s s.size 0
 hi:0≤i∧i≤s.size
theorem XC(s:BY)(hs:s.size≤9223372036854775807):Pure PG 191 [vs s] (vi (dA s s.size 0)) []:=by
 refine aD.mk (cfg 22) av [] Tryz.func191 Z (by kernel_rfl) Z Z Z ?_
 intro C x
 refine x.loop (α:=BI s) (λy=>⟨[(0,vs s),(3,vi y.i)],[],0⟩) (λy=>(s.size+4-y.i).toNat) ⟨s.size,0,by omega,Z,by omega⟩ Z tR ?_ (λy=>?_)
 ·exact⟨⟨Z,Z,tR⟩,tR,Z⟩
 obtain⟨n,i,fuel,same,hi⟩:=y
 change Go C _ ⟨[(0,vs s),(3,vi i)],[],0⟩ _
 refine x.cond Z tR (λh=>?_) (λh=>?_)
 ·have h':i<s.size:=by simpa using h
  have hl:=Bw s i
  have hr:=yL s i (by omega)
  refine x.pure Z tR Z (Bv s i hs) ⟨Z,Z,tR⟩ ?_
  cases n with
  | zero=>omega
  | succ n=>
   rw[dA,if_pos h'] at same
   refine x.cond Z tR (λh1=>?_) (λh1=>?_)
   ·have h1':(cu s i).2=0:=by simpa using h1
    rw[if_pos h1'] at same
    refine x.exit Z tR ?_
    refine⟨.inr Z,?_,tR,Z⟩
    rw[←same]
    exact Z
   ·have h1':¬(cu s i).2=0:=by simpa using h1
    rw[if_neg h1'] at same
    refine x.back Z (show aj (i+(cu s i).2) by unfold aj;omega) ?_
    refine⟨⟨n,i+(cu s i).2,by omega,same,by omega⟩,by show ((s.size:Int)+4-(i+(cu s i).2)).toNat<((s.size:Int)+4-i).toNat;omega,?_⟩
    exact⟨⟨Z,Z,tR⟩,tR,Z⟩
 ·have h':¬i<s.size:=by simpa using h
  refine x.exit Z tR ?_
  refine⟨.inr Z,?_,tR,Z⟩
  rw[←same,lX h']
  exact Z
theorem RN(sz p a b c d:Nat)(h1:(dec sz p a b c d).2=1)(h2:128≤a):(dec sz p a b c d).1=65533:=by
 unfold dec at *
 split
 ·omega
 split
 ·rw[if_neg (by omega)] at h1
  split
  ·rename_i h3 h4 h5;rw[if_pos h4,if_pos h5] at h1;simp at h1
  ·rfl
 split
 ·rename_i h3 h4 h5
  rw[if_neg h3,if_neg h4,if_pos h5] at h1
  split
  ·rename_i h6;rw[if_pos h6] at h1;simp at h1
  ·rfl
 split
 ·rename_i h3 h4 h5 h6
  rw[if_neg h3,if_neg h4,if_neg h5,if_pos h6] at h1
  split
  ·rename_i h7;rw[if_pos h7] at h1;simp at h1
  ·rfl
 ·rfl
theorem vV{s:BY}{p:Nat}(h:p<s.size):cu s (p:Int)=if (Utf8.decode s p).2=1∧128≤bt s p then (0,0) else (((Utf8.decode s p).1:Int),((Utf8.decode s p).2:Int)):=by
 unfold cu
 rw[if_pos (by omega),afT]
theorem FM{s:BY}{p:Nat}(h:p<s.size):lW s (p:Int)=((p+(Utf8.decode s p).2:Nat):Int):=by
 have hd:=bF s p
 unfold lW
 rw[vV h]
 by_cases h1:(Utf8.decode s p).2=1∧128≤bt s p
 ·rw[if_pos h1,if_pos Z,h1.1];rfl
 ·rw[if_neg h1,if_neg (by show ¬((Utf8.decode s p).2:Int)=0;omega)];rfl
theorem Mk{F:Nat->Prop}{w:World}(h:jv PG.env F w):Lib.Utf8Tabs 1 2 w:=by
 refine⟨λc hc=>(h _ _ _ (.head _)).2.1 c hc,λi hi=>⟨?_,?_⟩⟩
 ·have:=(h _ _ _ (.tail _ (.head _))).2.1 (2*i) (by omega)
  rw[this,if_pos (by omega),show 2*i/2=i by omega]
 ·have:=(h _ _ _ (.tail _ (.head _))).2.1 (2*i+1) (by omega)
  rw[this,if_neg (by omega),show (2*i+1)/2=i by omega]
theorem uf{A B:Nat×Nat×(Nat->Value)}{l:List (Nat×Nat×(Nat->Value))}{Q:Nat->Nat->(Nat->Value)->Prop}(h:Q B.1 B.2.1 B.2.2)(k:A∈l->Q A.1 A.2.1 A.2.2):A∈B::l->Q A.1 A.2.1 A.2.2:=λhm=>by
 rcases List.mem_cons.1 hm with rfl | hm
 ·exact h
 ·exact k hm
theorem Ml{W:World}(h:Lib.Utf8Tabs 1 2 W)
  (hN:∀j,j<13->W.cell? ⟨3,j,none⟩=some (.string (opAt j)))
  (hT:∀j,j<64->W.cell? ⟨4,j,none⟩=some (.int .u8 (xX.getD j 0)))
  (hL:∃m,W.cell? ⟨0,0,none⟩=some (.int .i64 m))
  : jv PG.env (λk=>k<W.heap.size) W:=by
 have lt:∀{b j:Nat} {v:Value},W.cell? ⟨b,j,none⟩=some v->b<W.heap.size:=λ{b j v} hc=>by
  refine Classical.byContradiction λhn=>?_
  have:W.heap[b]?=none:=Array.getElem?_eq_none (by omega)
  simp [World.cell?,this] at hc
 intro g n f hm
 rcases List.mem_cons.1 hm with e | hm
 ·simp only[afO] at e
  obtain⟨rfl,rfl,rfl⟩:=e
  exact⟨lt (h.1 0 (by omega)),λj hj=>h.1 j hj,λh0=>by cases h0⟩
 ·rcases List.mem_cons.1 hm with e | hm
  ·simp only[afO] at e
   obtain⟨rfl,rfl,rfl⟩:=e
   refine⟨lt (h.2 0 (by omega)).1,λj hj=>?_,λh0=>by cases h0⟩
   obtain⟨h1,h2⟩:=h.2 (j/2) (by omega)
   by_cases hj2:j%2=0
   ·have e:2*(j/2)=j:=by omega
    dsimp only
    rw[if_pos hj2,←h1,e]
   ·have e:2*(j/2)+1=j:=by omega
    dsimp only
    rw[if_neg hj2,←h2,e]
  ·revert hm
   refine uf (A:=(g,n,f)) (Q:=λg n f=>(g<W.heap.size)∧(∀j,j<n->W.cell? ⟨g,j,none⟩=some (f j))∧(n=0->∃m,W.cell? ⟨g,0,none⟩=some (.int .i64 m))) ?_ ?_
   ·exact⟨lt (hN 0 (by omega)),λj hj=>hN j hj,λh0=>by cases h0⟩
   refine uf (A:=(g,n,f)) (Q:=λg n f=>(g<W.heap.size)∧(∀j,j<n->W.cell? ⟨g,j,none⟩=some (f j))∧(n=0->∃m,W.cell? ⟨g,0,none⟩=some (.int .i64 m))) ?_ ?_
   ·exact⟨lt (hT 0 (by omega)),λj hj=>hT j hj,λh0=>by cases h0⟩
   refine uf (A:=(g,n,f)) (Q:=λg n f=>(g<W.heap.size)∧(∀j,j<n->W.cell? ⟨g,j,none⟩=some (f j))∧(n=0->∃m,W.cell? ⟨g,0,none⟩=some (.int .i64 m))) ?_ ?_
   ·exact⟨lt hL.choose_spec,λj hj=>absurd hj (afN _),λ_=>hL⟩
   intro hm;cases hm
theorem D7(s:BY):Pure PG 81 [vs s] (.tup [.d (.int .i32 ((Lib.decodeGo s).1:Int)),vi ((Lib.decodeGo s).2:Int)]) []:=
 Pure.Xc (vals:=[.string s]) (jF Tryz.func81 (by kernel_rfl) (by kernel_rfl)) Z Z Z Z λw F hE=>Tryz.utf8_DecodeRuneInString s w (Mk hE)
theorem extract_data(s:BY)(p:Nat):(s.extract p s.size).data.toList=s.data.toList.drop p:=by
 rw[ByteArray.data_extract,Array.toList_extract]
 show (s.data.toList.drop p).take (s.size-p)=_
 rw[List.take_of_length_le]
 rw[List.length_drop,show s.data.toList.length=s.size from Array.length_toList]
 omega
theorem extract_size(s:BY)(p:Nat):(s.extract p s.size).size=s.size-p:=by
 rw[show (s.extract p s.size).size=(s.extract p s.size).data.toList.length from (Array.length_toList).symm,extract_data,List.length_drop,Array.length_toList]
 rfl
theorem qL(s:BY)(i:Nat):bt s i=(s.data.toList.getD i 0).toNat:=by
 have:=nI s i
 unfold sb at this
 omega
theorem mW(s:BY)(p k:Nat):bt (s.extract p s.size) k=bt s (p+k):=by
 rw[qL,qL,extract_data,afE,afE,List.getElem?_drop]
theorem XD(sz p a b c d:Nat)(h:p≤sz):dec (sz-p) 0 a b c d=dec sz p a b c d:=by
 unfold dec
 have h1:(0+1<sz-p)↔(p+1<sz):=by omega
 have h2:(0+2<sz-p)↔(p+2<sz):=by omega
 have h3:(0+3<sz-p)↔(p+3<sz):=by omega
 simp only[h1,h2,h3]
theorem Mq{s:BY}{p:Nat}(h:p<s.size):Lib.decodeGo (s.extract p s.size)=Utf8.decode s p:=by
 unfold Lib.decodeGo
 rw[if_neg (by rw[extract_size];omega),bH,bH,extract_size,XD _ _ _ _ _ _ (by omega)]
 simp only[mW,Nat.zero_add,Nat.add_zero]
theorem rY{s:BY}{p:Nat}(h:p<s.size):(cu s (p:Int)).2=0↔(Utf8.decode s p).1=65533∧(Utf8.decode s p).2=1:=by
 obtain⟨d1,d2,d3⟩:=bF s p
 rw[vV h]
 constructor
 ·intro hz
  split at hz
  ·rename_i hb
   refine⟨?_,hb.1⟩
   rw[bH] at hb ⊢
   exact RN _ _ _ _ _ _ hb.1 hb.2
  ·have:((Utf8.decode s p).2:Int)=0:=hz
   omega
 ·rintro ⟨h1,h2⟩
  have h128:128≤bt s p:=Classical.byContradiction λhlt=>by
   rw[bH,dec,if_pos (by omega)] at h1
   have h1':bt s p=65533:=h1
   omega
  rw[if_pos ⟨h2,h128⟩]
structure BW (s:BY) where
 n:Nat
 p:Nat
 fuel:s.size≤p+n
 same:dA s n p=dA s s.size 0
 hp:p≤s.size+4
theorem I7(s:BY)(hs:s.size≤9223372036854775807):Pure PG 35 [vs s] (vi (dA s s.size 0)) []:=by
 refine aD.mk (cfg 25) av [] Tryz.func35 Z (by kernel_rfl) Z Z Z ?_
 intro C x
 refine x.loop (α:=BW s) (λy=>⟨[(0,vs s),(8,.ptr 0 0)],[(0,.iter s y.p)],1⟩) (λy=>s.size+4-y.p) ⟨s.size,0,by omega,Z,by omega⟩ Z tR ?_ (λy=>?_)
 ·exact⟨⟨Z,⟨Z,Z⟩,tR⟩,⟨⟨Z,Z⟩,tR⟩,Z⟩
 obtain⟨n,p,fuel,same,hp⟩:=y
 change Go C _ ⟨[(0,vs s),(8,.ptr 0 0)],[(0,.iter s p)],1⟩ _
 obtain⟨d1,d2,d3⟩:=bF s p
 refine x.next Z tR Z Z Z (λh=>?_) (λh=>?_)
 ·have h:p<s.size:=h
  refine x.cond rfl tR (λ_=>?_) (λh1=>by cases h1)
  cases n with
  | zero=>omega
  | succ n=>
   have hz:=rY h
   rw[dA,if_pos (by omega)] at same
   have hgo:¬(cu s (p:Int)).2=0->(p:Int)+(cu s (p:Int)).2=((p+(Utf8.decode s p).2:Nat):Int):=λhne=>by
    rw[vV h] at hne ⊢
    split
    ·rename_i hb;rw[if_pos hb] at hne;exact absurd Z hne
    ·rfl
   have next:¬(cu s (p:Int)).2=0->∃y:BW s,y.p=p+(Utf8.decode s p).2:=λhne=>by
    rw[if_neg hne,hgo hne] at same
    exact⟨⟨n,p+(Utf8.decode s p).2,by omega,same,by omega⟩,Z⟩
   refine x.cond Z tR (λh2=>?_) (λh2=>?_)
   ·have h2':(Utf8.decode s p).1=65533:=by
     simp only[afL] at h2
     omega
    refine x.pure Z ?_ Z (D7 (s.extract p s.size)) ⟨?_,tR⟩ ?_
    ·simp only[ak];omega
    ·show s.extract (p:Int).toNat (s.size:Int).toNat=s.extract p s.size
     rw[afT,afT]
    rw[Mq h]
    refine x.cond Z tR (λh3=>?_) (λh3=>?_)
    ·have h3':(Utf8.decode s p).2=1:=by
      simp only[afL] at h3
      omega
     rw[if_pos (hz.2 ⟨h2',h3'⟩)] at same
     refine x.exit Z tR ?_
     refine⟨.inr Z,?_,tR,Z⟩
     rw[←same]
     exact Z
    ·have h3':¬(Utf8.decode s p).2=1:=by
      simp only[afP] at h3
      omega
     obtain⟨y,hy⟩:=next (λe=>h3' (hz.1 e).2)
     refine x.back Z tR ⟨y,by show s.size+4-y.p<s.size+4-p;rw[hy];omega,⟨Z,⟨Z,Z⟩,tR⟩,⟨⟨Z,hy.symm⟩,tR⟩,Z⟩
   ·have h2':¬(Utf8.decode s p).1=65533:=by
     simp only[afP] at h2
     omega
    obtain⟨y,hy⟩:=next (λe=>h2' (hz.1 e).1)
    refine x.back Z tR ⟨y,by show s.size+4-y.p<s.size+4-p;rw[hy];omega,⟨Z,⟨Z,Z⟩,tR⟩,⟨⟨Z,hy.symm⟩,tR⟩,Z⟩
 ·have h:¬p<s.size:=h
  refine x.cond rfl tR (λh1=>by cases h1) (λ_=>?_)
  refine x.exit Z tR ?_
  refine⟨.inr Z,?_,tR,Z⟩
  rw[←same,lX (by omega)]
  exact Z
def rA(r:Int):Bool:=(decide (97≤r)&&decide (r≤122)||decide (65≤r)&&decide (r≤90)||decide (r=95)||decide (945≤r)&&decide (r≤969)||decide (913≤r)&&decide (r≤937)&&!decide (r=930))
def rZ(r:Int):Bool:=(decide (48≤r)&&decide (r≤57))
def jq(s:BY):Nat->Nat->Int->Bool
 | 0,_,c=>decide (0<c)
 | n+1,p,c=>if p<s.size then
   if (!rA (Utf8.decode s p).1&&(decide ((p:Int)=0)||!rZ (Utf8.decode s p).1))=true then false
   else if 24<c+1 then false else jq s n (p+(Utf8.decode s p).2) (c+1)
  else decide (0<c)
theorem I8{s:BY}{n p:Nat}{c:Int}(h:¬p<s.size):jq s n p c=decide (0<c):=by
 cases n with
 | zero=>rfl
 | succ n=>rw[jq,if_neg h]
structure NI (s:BY) where
 n:Nat
 p:Nat
 c:Int
 fuel:s.size≤p+n
 same:jq s n p c=jq s s.size 0 0
 hc:0≤c∧c≤24
 hp:p≤s.size+4
theorem Bz(s:BY)(hs:s.size≤9223372036854775807):Pure PG 118 [vs s] (vb (jq s s.size 0 0)) []:=by
 refine aD.mk (cfg 30) av [] Tryz.func118 Z (by kernel_rfl) Z Z Z ?_
 intro C x
 refine x.loop (α:=NI s) (λy=>⟨[(0,vs s),(3,vi y.c),(7,.ptr 0 0)],[(0,.iter s y.p)],1⟩) (λy=>s.size+4-y.p) ⟨s.size,0,0,by omega,Z,by omega,by omega⟩ Z tR ?_ (λy=>?_)
 ·exact⟨⟨Z,Z,⟨Z,Z⟩,tR⟩,⟨⟨Z,Z⟩,tR⟩,Z⟩
 obtain⟨n,p,c,fuel,same,hc,hp⟩:=y
 change Go C _ ⟨[(0,vs s),(3,vi c),(7,.ptr 0 0)],[(0,.iter s p)],1⟩ _
 obtain⟨d1,d2,d3⟩:=bF s p
 refine x.next Z tR Z Z Z (λh=>?_) (λh=>?_)
 ·refine x.cond rfl tR (λ_=>?_) (λh1=>by cases h1)
  refine x.pure Z tR Z (Dl _) ⟨Z,tR⟩ ?_
  refine x.bK Z tR Z (λ_ _=>yK _) Z ⟨Z,tR⟩ ?_
  cases n with
  | zero=>omega
  | succ n=>
   rw[jq,if_pos h] at same
   refine x.cond Z tR (λh2=>?_) (λh2=>?_)
   ·refine x.exit Z tR ?_
    refine⟨.inr Z,?_,tR,Z⟩
    rw[if_pos (show (!rA (Utf8.decode s p).1&&(decide ((p:Int)=0)||!rZ (Utf8.decode s p).1))=true from h2)] at same
    rw[←same]
    exact Z
   ·rw[if_neg (by rw[show (!rA (Utf8.decode s p).1&&(decide ((p:Int)=0)||!rZ (Utf8.decode s p).1))=false from h2];simp)] at same
    refine x.cond Z (show aj (c+1) by unfold aj;omega) (λh3=>?_) (λh3=>?_)
    ·refine x.exit Z tR ?_
     refine⟨.inr Z,?_,tR,Z⟩
     rw[if_pos (by simpa using h3)] at same
     rw[←same]
     exact Z
    ·rw[if_neg (by simpa using h3)] at same
     refine x.back Z tR ?_
     refine⟨⟨n,p+(Utf8.decode s p).2,c+1,by omega,same,by simp at h3;omega,by omega⟩,by show s.size+4-(p+(Utf8.decode s p).2)<s.size+4-p;omega,?_⟩
     exact⟨⟨Z,Z,⟨Z,Z⟩,tR⟩,⟨⟨Z,Z⟩,tR⟩,Z⟩
 ·refine x.cond rfl tR (λh1=>by cases h1) (λ_=>?_)
  refine x.exit Z tR ?_
  refine⟨.inr Z,?_,tR,Z⟩
  rw[←same,I8 h]
  exact Z
def dl(s:BY):Nat->Nat->List (Nat×Nat×Nat)
 | 0,_=>[]
 | n+1,p=>if p<s.size then (p,(Utf8.decode s p).1,(Utf8.decode s p).2)::dl s n (p+(Utf8.decode s p).2) else []
theorem FP{s:BY}{n p:Nat}(h:¬p<s.size):dl s n p=[]:=by
 cases n with
 | zero=>rfl
 | succ n=>rw[dl,if_neg h]
theorem Kg(s:BY):∀(n m p:Nat),s.size≤p+n->s.size≤p+m->dl s n p=dl s m p
 | 0,m,p,h1,h2=>by rw[FP (by omega),FP (by omega)]
 | n+1,0,p,h1,h2=>by rw[FP (by omega),FP (by omega)]
 | n+1,m+1,p,h1,h2=>by
  have:=bF s p
  rw[dl,dl,Kg s n m _ (by omega) (by omega)]
theorem XE(s:BY):∀(n p:Nat) (c:Int),s.size≤p+n->fB s n p c=c+(dl s n p).length
 | 0,p,c,h=>by simp [fB,dl]
 | n+1,p,c,h=>by
  have:=bF s p
  rw[fB,dl]
  by_cases hp:p<s.size
  ·rw[if_pos (by omega),if_pos hp,FM hp,XE s n _ _ (by omega)]
   simp
   omega
  ·rw[if_neg (by omega),if_neg hp]
   simp
def okR(x:Nat×Nat×Nat):Bool:=!(decide (x.2.1=65533)&&decide (x.2.2=1))
theorem XF(s:BY):∀(n p:Nat),s.size≤p+n->(dA s n p<0↔dA s n p=-1)∧(dA s n p=-1↔(dl s n p).all okR=true)
 | 0,p,h=>by simp [dA,dl]
 | n+1,p,h=>by
  have:=bF s p
  rw[dA,dl]
  by_cases hp:p<s.size
  ·have hz:=rY hp
   rw[if_pos (by omega),if_pos hp]
   by_cases h0:(cu s (p:Int)).2=0
   ·rw[if_pos h0]
    have:=hz.1 h0
    simp only[List.all_cons,okR,this]
    simp
   ·rw[if_neg h0]
    have hgo:(p:Int)+(cu s (p:Int)).2=((p+(Utf8.decode s p).2:Nat):Int):=by
     rw[vV hp] at h0 ⊢
     split
     ·rename_i hb;rw[if_pos hb] at h0;exact absurd Z h0
     ·rfl
    have ih:=XF s n (p+(Utf8.decode s p).2) (by omega)
    rw[hgo]
    refine⟨ih.1,?_⟩
    rw[ih.2,List.all_cons,show okR (p,(Utf8.decode s p).1,(Utf8.decode s p).2)=true from ?_,Bool.true_and]
    simp only[okR,afR,Bool.and_eq_false_iff,afP]
    by_cases e:(Utf8.decode s p).1=65533
    ·exact .inr λe2=>h0 (hz.2 ⟨e,e2⟩)
    ·exact .inl e
  ·rw[if_neg (by omega),if_neg hp]
   simp
theorem XG{sz sz' p a b c d b' c' d':Nat}(h:¬((dec sz p a b c d).1=65533∧(dec sz p a b c d).2=1))(hb:p+1<sz->b'=b)(hc:p+2<sz->c'=c)(hd:p+3<sz->d'=d)(hs:sz≤sz'):dec sz' p a b' c' d'=dec sz p a b c d:=by
 unfold dec at *
 by_cases h1:a<128
 ·rw[if_pos h1,if_pos h1]
 rw[if_neg h1] at h ⊢
 rw[if_neg h1]
 by_cases h2:a/32=6∧p+1<sz∧b/64=2
 ·obtain rfl:=hb h2.2.1
  rw[if_pos h2,if_pos (by omega)]
 rw[if_neg h2] at h ⊢
 by_cases h3:a/16=14∧p+1<sz∧b/64=2∧p+2<sz∧c/64=2
 ·obtain rfl:=hb h3.2.1
  obtain rfl:=hc h3.2.2.2.1
  rw[if_pos h3,if_neg (by omega),if_pos (by omega)]
 rw[if_neg h3] at h ⊢
 by_cases h4:a/8=30∧p+1<sz∧b/64=2∧p+2<sz∧c/64=2∧p+3<sz∧d/64=2
 ·obtain rfl:=hb h4.2.1
  obtain rfl:=hc h4.2.2.2.1
  obtain rfl:=hd h4.2.2.2.2.2.1
  rw[if_pos h4,if_neg (by omega),if_neg (by omega),if_pos (by omega)]
 rw[if_neg h4] at h
 exact absurd ⟨Z,Z⟩ h
theorem XH(sz p a b c d:Nat)(h:p<sz):p+(dec sz p a b c d).2≤sz:=by
 unfold dec
 repeat' split
 all_goals (simp only;omega)
theorem ji(s:BY):s.size=s.data.toList.length:=(Array.length_toList).symm
theorem jG(a b:BY):(a++b).data.toList=a.data.toList++b.data.toList:=by rw[ByteArray.data_append,Array.toList_append]
theorem bJ(a b:BY):(a++b).size=a.size+b.size:=by rw[ji,jG,List.length_append,←ji,←ji]
theorem fE{a b:BY}{i:Nat}(h:i<a.size):bt (a++b) i=bt a i:=by
 rw[ji] at h
 rw[qL,qL,jG,afE,afE,List.getElem?_append_left h]
theorem nJ(a b:BY)(i:Nat):bt (a++b) (a.size+i)=bt b i:=by
 rw[qL,qL,jG,afE,afE,ji a,List.getElem?_append_right (by omega)]
 congr 3
 omega
theorem I9(sz p k a b c d:Nat):dec (k+sz) (k+p) a b c d=dec sz p a b c d:=by
 unfold dec
 have h1:(k+p+1<k+sz)↔(p+1<sz):=by omega
 have h2:(k+p+2<k+sz)↔(p+2<sz):=by omega
 have h3:(k+p+3<k+sz)↔(p+3<sz):=by omega
 simp only[h1,h2,h3]
theorem ug(a b:BY)(p:Nat):Utf8.decode (a++b) (a.size+p)=Utf8.decode b p:=by
 have b1:=nJ a b (p+1)
 have b2:=nJ a b (p+2)
 have b3:=nJ a b (p+3)
 rw[←Nat.add_assoc] at b1 b2 b3
 rw[bH,bH,bJ,b1,b2,b3,nJ,I9]
theorem Mr{a:BY}(b:BY){p:Nat}(hp:p<a.size)(h:¬((Utf8.decode a p).1=65533∧(Utf8.decode a p).2=1)):Utf8.decode (a++b) p=Utf8.decode a p:=by
 rw[bH] at h
 rw[bH,bH,bJ,fE hp]
 exact XG h (λhh=>fE hh) (λhh=>fE hh) (λhh=>fE hh) (Nat.le_add_right _ _)
theorem qM{s:BY}{p:Nat}(h:p<s.size):p+(Utf8.decode s p).2≤s.size:=by
 rw[bH]
 exact XH _ _ _ _ _ _ h
def shR(k:Nat)(x:Nat×Nat×Nat):Nat×Nat×Nat:=(k+x.1,x.2.1,x.2.2)
theorem FQ(a b:BY):∀(n p:Nat),dl (a++b) n (a.size+p)=(dl b n p).map (shR a.size)
 | 0,p=>rfl
 | n+1,p=>by
  rw[dl,dl,ug,bJ]
  by_cases h:p<b.size
  ·rw[if_pos (by omega),if_pos h,List.map_cons,Nat.add_assoc,FQ a b n]
   rfl
  ·rw[if_neg (by omega),if_neg h]
   rfl
theorem XI(a b:BY):∀(n p:Nat),p≤a.size->a.size≤p+n->(dl a n p).all okR=true->dl (a++b) (n+b.size) p=dl a n p++(dl b b.size 0).map (shR a.size)
 | 0,p,h1,h2,h3=>by
  obtain rfl:p=a.size:=by omega
  have:=FQ a b b.size 0
  rw[Nat.add_zero] at this
  rw[Nat.zero_add,this]
  rfl
 | n+1,p,h1,h2,h3=>by
  by_cases hp:p<a.size
  ·rw[dl,if_pos hp] at h3
   rw[show dl a (n+1) p=(p,(Utf8.decode a p).1,(Utf8.decode a p).2)::dl a n (p+(Utf8.decode a p).2) by rw[dl,if_pos hp]]
   simp only[List.all_cons,afF] at h3
   have hd:=Mr (a:=a) b hp (by
    have:=h3.1
    simp only[okR,afR,Bool.and_eq_false_iff,afP] at this
    rintro ⟨e1,e2⟩
    rcases this with h | h
    ·exact h e1
    ·exact h e2)
   have hr:=qM hp
   have:=bF a p
   rw[show n+1+b.size=(n+b.size)+1 by omega,dl,if_pos (by rw[bJ];omega),hd,XI a b n _ hr (by omega) h3.2]
   rfl
  ·obtain rfl:p=a.size:=by omega
   have h4:dl (a++b) (n+1+b.size) a.size=_:=FQ a b (n+1+b.size) 0
   rw[h4,FP (s:=a) hp,Kg b (n+1+b.size) b.size 0 (by omega) (by omega)]
   rfl
def rl(s:BY):List (Nat×Nat×Nat):=dl s s.size 0
theorem afD{a:BY}(b:BY)(h:(rl a).all okR=true):rl (a++b)=rl a++(rl b).map (shR a.size):=by
 unfold rl at *
 rw[Kg (a++b) (a++b).size (a.size+b.size) 0 (by omega) (by rw[bJ];omega)]
 exact XI a b a.size 0 (by omega) (by omega) h
theorem XJ(s:BY):(dA s s.size 0=-1↔(rl s).all okR=true)∧(dA s s.size 0<0↔(rl s).all okR=true):=by
 have:=XF s s.size 0 (by omega)
 exact⟨this.2,this.1.trans this.2⟩
def yM:List (List UInt8):=[[97,114,114,97,121],[102,110],[99,111,110,115,116],[112,104,105],[108,111,97,100],[119,114,97,112],[115,116,111,114,101],[99,97,108,108],[105,110,112,117,116],[111,117,116,112,117,116],[114,101,108,101,97,115,101],[106,117,109,112],[98,114,97,110,99,104],[114,101,116,117,114,110],[97,100,100],[115,117,98],[109,117,108],[100,105,118],[109,111,100],[97,110,100],[111,114],[120,111,114],[115,104,108],[115,104,114],[101,113],[108,101,115,115]]
def mJ(s:BY):Bool:=decide (s.data.toList∈yM)
theorem dh{s:BY}{l:List UInt8}(h:s.data.toList=l)(hl:l∈yM):mJ s=true:=by
 unfold mJ;rw[h];exact decide_eq_true hl
theorem BA(s:BY):Pure PG 119 [vs s] (vb (mJ s)) []:=by
 refine aD.mk (cfg 32) av [] Tryz.func119 Z (by kernel_rfl) Z Z Z ?_
 intro C x
 refine x.cond Z tR (λh=>?_) (λa0=>?_)
 ·refine x.cond Z tR (λ_=>?_) (λh2=>?_)
  ·refine x.exit Z tR ?_
   refine⟨.inr Z,?_,tR,Z⟩
   exact (dh (afH h) (l:=[97,114,114,97,121]) (by decide)).symm
  ·exact absurd (h.symm.trans h2) (by simp)
 have a0:¬s.data.toList=[97,114,114,97,121]:=afI a0
 refine x.cond Z tR (λh=>?_) (λa1=>?_)
 ·refine x.cond Z tR (λ_=>?_) (λh2=>?_)
  ·refine x.exit Z tR ?_
   refine⟨.inr Z,?_,tR,Z⟩
   exact (dh (afH h) (l:=[102,110]) (by decide)).symm
  ·exact absurd (h.symm.trans h2) (by simp)
 have a1:¬s.data.toList=[102,110]:=afI a1
 refine x.cond Z tR (λh=>?_) (λa2=>?_)
 ·refine x.cond Z tR (λ_=>?_) (λh2=>?_)
  ·refine x.exit Z tR ?_
   refine⟨.inr Z,?_,tR,Z⟩
   exact (dh (afH h) (l:=[99,111,110,115,116]) (by decide)).symm
  ·exact absurd (h.symm.trans h2) (by simp)
 have a2:¬s.data.toList=[99,111,110,115,116]:=afI a2
 refine x.cond Z tR (λh=>?_) (λa3=>?_)
 ·refine x.cond Z tR (λ_=>?_) (λh2=>?_)
  ·refine x.exit Z tR ?_
   refine⟨.inr Z,?_,tR,Z⟩
   exact (dh (afH h) (l:=[112,104,105]) (by decide)).symm
  ·exact absurd (h.symm.trans h2) (by simp)
 have a3:¬s.data.toList=[112,104,105]:=afI a3
 refine x.cond Z tR (λh=>?_) (λa4=>?_)
 ·refine x.cond Z tR (λ_=>?_) (λh2=>?_)
  ·refine x.exit Z tR ?_
   refine⟨.inr Z,?_,tR,Z⟩
   exact (dh (afH h) (l:=[108,111,97,100]) (by decide)).symm
  ·exact absurd (h.symm.trans h2) (by simp)
 have a4:¬s.data.toList=[108,111,97,100]:=afI a4
 refine x.cond Z tR (λh=>?_) (λa5=>?_)
 ·refine x.cond Z tR (λ_=>?_) (λh2=>?_)
  ·refine x.exit Z tR ?_
   refine⟨.inr Z,?_,tR,Z⟩
   exact (dh (afH h) (l:=[119,114,97,112]) (by decide)).symm
  ·exact absurd (h.symm.trans h2) (by simp)
 have a5:¬s.data.toList=[119,114,97,112]:=afI a5
 refine x.cond Z tR (λh=>?_) (λa6=>?_)
 ·refine x.cond Z tR (λ_=>?_) (λh2=>?_)
  ·refine x.exit Z tR ?_
   refine⟨.inr Z,?_,tR,Z⟩
   exact (dh (afH h) (l:=[115,116,111,114,101]) (by decide)).symm
  ·exact absurd (h.symm.trans h2) (by simp)
 have a6:¬s.data.toList=[115,116,111,114,101]:=afI a6
 refine x.cond Z tR (λh=>?_) (λa7=>?_)
 ·refine x.cond Z tR (λ_=>?_) (λh2=>?_)
  ·refine x.exit Z tR ?_
   refine⟨.inr Z,?_,tR,Z⟩
   exact (dh (afH h) (l:=[99,97,108,108]) (by decide)).symm
  ·exact absurd (h.symm.trans h2) (by simp)
 have a7:¬s.data.toList=[99,97,108,108]:=afI a7
 refine x.cond Z tR (λh=>?_) (λa8=>?_)
 ·refine x.cond Z tR (λ_=>?_) (λh2=>?_)
  ·refine x.exit Z tR ?_
   refine⟨.inr Z,?_,tR,Z⟩
   exact (dh (afH h) (l:=[105,110,112,117,116]) (by decide)).symm
  ·exact absurd (h.symm.trans h2) (by simp)
 have a8:¬s.data.toList=[105,110,112,117,116]:=afI a8
 refine x.cond Z tR (λh=>?_) (λa9=>?_)
 ·refine x.cond Z tR (λ_=>?_) (λh2=>?_)
  ·refine x.exit Z tR ?_
   refine⟨.inr Z,?_,tR,Z⟩
   exact (dh (afH h) (l:=[111,117,116,112,117,116]) (by decide)).symm
  ·exact absurd (h.symm.trans h2) (by simp)
 have a9:¬s.data.toList=[111,117,116,112,117,116]:=afI a9
 refine x.cond Z tR (λh=>?_) (λa10=>?_)
 ·refine x.cond Z tR (λ_=>?_) (λh2=>?_)
  ·refine x.exit Z tR ?_
   refine⟨.inr Z,?_,tR,Z⟩
   exact (dh (afH h) (l:=[114,101,108,101,97,115,101]) (by decide)).symm
  ·exact absurd (h.symm.trans h2) (by simp)
 have a10:¬s.data.toList=[114,101,108,101,97,115,101]:=afI a10
 refine x.cond Z tR (λh=>?_) (λa11=>?_)
 ·refine x.cond Z tR (λ_=>?_) (λh2=>?_)
  ·refine x.exit Z tR ?_
   refine⟨.inr Z,?_,tR,Z⟩
   exact (dh (afH h) (l:=[106,117,109,112]) (by decide)).symm
  ·exact absurd (h.symm.trans h2) (by simp)
 have a11:¬s.data.toList=[106,117,109,112]:=afI a11
 refine x.cond Z tR (λh=>?_) (λa12=>?_)
 ·refine x.cond Z tR (λ_=>?_) (λh2=>?_)
  ·refine x.exit Z tR ?_
   refine⟨.inr Z,?_,tR,Z⟩
   exact (dh (afH h) (l:=[98,114,97,110,99,104]) (by decide)).symm
  ·exact absurd (h.symm.trans h2) (by simp)
 have a12:¬s.data.toList=[98,114,97,110,99,104]:=afI a12
 refine x.cond Z tR (λh=>?_) (λa13=>?_)
 ·refine x.exit Z tR ?_
  refine⟨.inr Z,?_,tR,Z⟩
  exact (dh (afH h) (l:=[114,101,116,117,114,110]) (by decide)).symm
 have a13:¬s.data.toList=[114,101,116,117,114,110]:=afI a13
 refine x.cond Z tR (λh=>?_) (λb0=>?_)
 ·refine x.cond Z tR (λ_=>?_) (λh2=>?_)
  ·refine x.exit Z tR ?_
   refine⟨.inr Z,?_,tR,Z⟩
   exact (dh (afH h) (l:=[97,100,100]) (by decide)).symm
  ·exact absurd (h.symm.trans h2) (by simp)
 have b0:¬s.data.toList=[97,100,100]:=afI b0
 refine x.cond Z tR (λh=>?_) (λb1=>?_)
 ·refine x.cond Z tR (λ_=>?_) (λh2=>?_)
  ·refine x.exit Z tR ?_
   refine⟨.inr Z,?_,tR,Z⟩
   exact (dh (afH h) (l:=[115,117,98]) (by decide)).symm
  ·exact absurd (h.symm.trans h2) (by simp)
 have b1:¬s.data.toList=[115,117,98]:=afI b1
 refine x.cond Z tR (λh=>?_) (λb2=>?_)
 ·refine x.cond Z tR (λ_=>?_) (λh2=>?_)
  ·refine x.exit Z tR ?_
   refine⟨.inr Z,?_,tR,Z⟩
   exact (dh (afH h) (l:=[109,117,108]) (by decide)).symm
  ·exact absurd (h.symm.trans h2) (by simp)
 have b2:¬s.data.toList=[109,117,108]:=afI b2
 refine x.cond Z tR (λh=>?_) (λb3=>?_)
 ·refine x.cond Z tR (λ_=>?_) (λh2=>?_)
  ·refine x.exit Z tR ?_
   refine⟨.inr Z,?_,tR,Z⟩
   exact (dh (afH h) (l:=[100,105,118]) (by decide)).symm
  ·exact absurd (h.symm.trans h2) (by simp)
 have b3:¬s.data.toList=[100,105,118]:=afI b3
 refine x.cond Z tR (λh=>?_) (λb4=>?_)
 ·refine x.cond Z tR (λ_=>?_) (λh2=>?_)
  ·refine x.exit Z tR ?_
   refine⟨.inr Z,?_,tR,Z⟩
   exact (dh (afH h) (l:=[109,111,100]) (by decide)).symm
  ·exact absurd (h.symm.trans h2) (by simp)
 have b4:¬s.data.toList=[109,111,100]:=afI b4
 refine x.cond Z tR (λh=>?_) (λb5=>?_)
 ·refine x.cond Z tR (λ_=>?_) (λh2=>?_)
  ·refine x.exit Z tR ?_
   refine⟨.inr Z,?_,tR,Z⟩
   exact (dh (afH h) (l:=[97,110,100]) (by decide)).symm
  ·exact absurd (h.symm.trans h2) (by simp)
 have b5:¬s.data.toList=[97,110,100]:=afI b5
 refine x.cond Z tR (λh=>?_) (λb6=>?_)
 ·refine x.cond Z tR (λ_=>?_) (λh2=>?_)
  ·refine x.exit Z tR ?_
   refine⟨.inr Z,?_,tR,Z⟩
   exact (dh (afH h) (l:=[111,114]) (by decide)).symm
  ·exact absurd (h.symm.trans h2) (by simp)
 have b6:¬s.data.toList=[111,114]:=afI b6
 refine x.cond Z tR (λh=>?_) (λb7=>?_)
 ·refine x.cond Z tR (λ_=>?_) (λh2=>?_)
  ·refine x.exit Z tR ?_
   refine⟨.inr Z,?_,tR,Z⟩
   exact (dh (afH h) (l:=[120,111,114]) (by decide)).symm
  ·exact absurd (h.symm.trans h2) (by simp)
 have b7:¬s.data.toList=[120,111,114]:=afI b7
 refine x.cond Z tR (λh=>?_) (λb8=>?_)
 ·refine x.cond Z tR (λ_=>?_) (λh2=>?_)
  ·refine x.exit Z tR ?_
   refine⟨.inr Z,?_,tR,Z⟩
   exact (dh (afH h) (l:=[115,104,108]) (by decide)).symm
  ·exact absurd (h.symm.trans h2) (by simp)
 have b8:¬s.data.toList=[115,104,108]:=afI b8
 refine x.cond Z tR (λh=>?_) (λb9=>?_)
 ·refine x.cond Z tR (λ_=>?_) (λh2=>?_)
  ·refine x.exit Z tR ?_
   refine⟨.inr Z,?_,tR,Z⟩
   exact (dh (afH h) (l:=[115,104,114]) (by decide)).symm
  ·exact absurd (h.symm.trans h2) (by simp)
 have b9:¬s.data.toList=[115,104,114]:=afI b9
 refine x.cond Z tR (λh=>?_) (λb10=>?_)
 ·refine x.cond Z tR (λ_=>?_) (λh2=>?_)
  ·refine x.exit Z tR ?_
   refine⟨.inr Z,?_,tR,Z⟩
   exact (dh (afH h) (l:=[101,113]) (by decide)).symm
  ·exact absurd (h.symm.trans h2) (by simp)
 have b10:¬s.data.toList=[101,113]:=afI b10
 refine x.cond Z tR (λh=>?_) (λb11=>?_)
 ·refine x.exit Z tR ?_
  refine⟨.inr Z,?_,tR,Z⟩
  exact (dh (afH h) (l:=[108,101,115,115]) (by decide)).symm
 have b11:¬s.data.toList=[108,101,115,115]:=afI b11
 refine x.exit Z tR ?_
 refine⟨.inr Z,?_,tR,Z⟩
 show false=mJ s
 rw[eq_comm]
 unfold mJ yM
 rw[afP]
 simp only[List.mem_cons,List.not_mem_nil,or_false,not_or]
 exact⟨a0,a1,a2,a3,a4,a5,a6,a7,a8,a9,a10,a11,a12,a13,b0,b1,b2,b3,b4,b5,b6,b7,b8,b9,b10,b11⟩
def nA:List BY:=[⟨#[97,114,114,97,121]⟩,⟨#[102,110]⟩,⟨#[99,111,110,115,116]⟩,⟨#[112,104,105]⟩,⟨#[108,111,97,100]⟩,⟨#[119,114,97,112]⟩,⟨#[115,116,111,114,101]⟩,⟨#[99,97,108,108]⟩,⟨#[105,110,112,117,116]⟩,⟨#[111,117,116,112,117,116]⟩,⟨#[114,101,108,101,97,115,101]⟩,⟨#[106,117,109,112]⟩,⟨#[98,114,97,110,99,104]⟩,⟨#[114,101,116,117,114,110]⟩,⟨#[97,100,100]⟩,⟨#[115,117,98]⟩,⟨#[109,117,108]⟩,⟨#[100,105,118]⟩,⟨#[109,111,100]⟩,⟨#[97,110,100]⟩,⟨#[111,114]⟩,⟨#[120,111,114]⟩,⟨#[115,104,108]⟩,⟨#[115,104,114]⟩,⟨#[101,113]⟩,⟨#[108,101,115,115]⟩]
theorem Ms(s:BY):mJ s=true↔∃i,i<26∧s.data.toList=(nA.getD i .empty).data.toList:=by
 unfold mJ
 rw[afL]
 constructor
 ·intro h
  obtain⟨i,hi,e⟩:=List.getElem_of_mem h
  have hi:i<26:=hi
  refine⟨i,hi,?_⟩
  rw[←e]
  have:∀i,(h:i<yM.length)->yM[i]=(nA.getD i .empty).data.toList:=by decide
  exact this i hi
 ·rintro ⟨i,hi,e⟩
  rw[e]
  have:∀i,i<26->(nA.getD i .empty).data.toList∈yM:=by decide
  exact this i hi
theorem ZW(l:List BY)(h:l.length≠1){i:Nat}(hi:i<l.length):tab (l.map λw=>[D.str w]) i=[D.str (l.getD i .empty)]:=by
 match l,h with
 | [],_=>exact absurd hi (afN _)
 | [_],h=>exact absurd rfl h
 | a::b::r,_=>
  show ((a::b::r).map λw=>[D.str w]).getD i []=_
  rw[afE,List.getElem?_map,afG hi,afE,afG hi];rfl
theorem Kh(s:BY):Pure PG 171 [vs s] (vb (mJ s)) []:=by
 refine aD.mk (cfg 18) av [] Tryz.func171 Z (by kernel_rfl) Z Z Z ?_
 intro C x
 refine x.toLoop Z ?_ ?_
 ·simp only[ak,big]
 refine x.le (s':=⟨[(0,vs s),(3,.own 0),(4,vi 0)],[(0,.vec 9 1 26 λi=>[.str (nA.getD i .empty)])],1⟩) ?_ ?_
 ·refine⟨⟨Z,Z,Z,tR⟩,⟨⟨Z,Z,Z,λi hi=>?_⟩,tR⟩,Z⟩
  exact ZW nA (by decide) hi
 refine Sx.Go.freeze 0 ?_
 refine x.loop (α:={i:Nat // i≤26∧∀j,j<i->s.data.toList≠(nA.getD j .empty).data.toList}) (λy=>⟨[(0,vs s),(3,.d (.sl 1 26 λi=>[.str (nA.getD i .empty)])),(4,vi (y.1:Int))],[],1⟩) (λy=>26-y.1) ⟨0,by omega,λj hj=>by omega⟩ Z tR ⟨⟨Z,au Z,Z,tR⟩,tR,Z⟩ (λy=>?_)
 obtain⟨i,hi,hno⟩:=y
 change Go C _ ⟨[(0,vs s),(3,.d (.sl 1 26 λi=>[.str (nA.getD i .empty)])),(4,vi (i:Int))],[],1⟩ _
 refine x.cond Z tR (λh1=>?_) (λh1=>?_)
 ·have h1:i<26:=by have:=afH h1;omega
  refine x.cond Z ?_ (λh2=>?_) (λh2=>?_)
  ·simp only[ak];omega
  ·have h2:(nA.getD i .empty).data.toList=s.data.toList:=afH h2
   refine x.exit Z tR ?_
   refine⟨.inr Z,?_,tR,Z⟩
   exact ((Ms s).2 ⟨i,h1,h2.symm⟩).symm
  ·have h2:¬(nA.getD i .empty).data.toList=s.data.toList:=afI h2
   refine x.back Z (show aj _ by unfold aj;omega) ⟨⟨i+1,by omega,λj hj=>?_⟩,by show 26-(i+1)<26-i;omega,⟨Z,au Z,Z,tR⟩,tR,Z⟩
   by_cases e:j=i
   ·rw[e];exact λh=>h2 h.symm
   ·exact hno j (by omega)
 ·have h1:i=26:=by have:=afI h1;omega
  refine x.exit Z tR ?_
  refine⟨.inr Z,?_,tR,Z⟩
  show false=mJ s
  rw[eq_comm,Bool.eq_false_iff,Ne,Ms]
  rintro ⟨j,hj,e⟩
  exact hno j (by omega) e
def uP(c:Nat):Bool:=(((((((decide (c=40)||decide (c=41))||decide (c=123))||decide (c=125))||decide (c=91))||decide (c=93))||decide (c=44))||decide (c=58))||decide (c=61)
def qN(s:BY)(p:Nat):Bool:=decide (p<s.size)&&(decide (48≤bt s p)&&decide (bt s p≤57))
theorem vW(s:BY)(c:Int):Pure PG 147 [vs s,.d (.int .u8 c)] (vi (Lib.indexByte s.data.toList c.toNat.toUInt8)) []:=
 Pure.Xc (vals:=[.string s,.int .u8 c]) (jF Tryz.func147 (by kernel_rfl) (by kernel_rfl)) rfl rfl rfl rfl λw F hE=>(Tryz.strings_IndexByte s c w).mono λe w' ⟨h1,h2⟩=>⟨h1,by subst h2;exact Go.RowKit.Below.refl _ _⟩
theorem Mt{c:UInt8}:∀{l:List UInt8},0≤Lib.indexByte l c->(Lib.indexByte l c).toNat<l.length∧l.getD (Lib.indexByte l c).toNat 0=c∧∀j,j<(Lib.indexByte l c).toNat->l.getD j 0≠c
 | [],h=>by exact absurd h (by unfold Lib.indexByte;omega)
 | b::l,h=>by
  unfold Lib.indexByte at h ⊢
  split at h
  ·rename_i hb
   rw[if_pos hb]
   refine⟨by simp,by simpa using hb,λj hj=>absurd hj (afN _)⟩
  ·rename_i hb
   rw[if_neg hb]
   split at h
   ·omega
   ·rename_i h2
    rw[if_neg h2]
    have hge:=Lib.indexByte_ge l c
    have h2:¬Lib.indexByte l c=-1:=by simpa using h2
    obtain⟨h3,h4,h5⟩:=Mt (l:=l) (c:=c) (by omega)
    have e:(Lib.indexByte l c+1).toNat=(Lib.indexByte l c).toNat+1:=by omega
    rw[e]
    refine⟨by simpa using h3,by simpa using h4,λj hj=>?_⟩
    match j with
    | 0=>simpa using hb
    | j+1=>simpa using h5 j (by omega)
theorem Mv{c:UInt8}:∀{l:List UInt8},Lib.indexByte l c<0->∀j,j<l.length->l.getD j 0≠c
 | [],h,j,hj=>absurd hj (afN _)
 | b::l,h,j,hj=>by
  unfold Lib.indexByte at h
  split at h
  ·omega
  ·rename_i hb
   split at h
   ·rename_i h2
    have h2:Lib.indexByte l c=-1:=by simpa using h2
    match j with
    | 0=>simpa using hb
    | j+1=>simpa using Mv (l:=l) (c:=c) (by omega) j (by simpa using hj)
   ·have hge:=Lib.indexByte_ge l c
    rename_i h2
    have h2:¬Lib.indexByte l c=-1:=by simpa using h2
    omega
end Go.Proofs.YtojhdmfkfkfcbaaGreatDoor
