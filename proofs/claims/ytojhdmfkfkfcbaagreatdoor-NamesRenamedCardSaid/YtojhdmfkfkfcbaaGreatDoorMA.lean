import Derived.Test.YtojhdmfkfkfcbaaGreatDoorSxF
import Derived.Test.YtojhdmfkfkfcbaaGreatDoorProg
import Derived.Lib.DecodeN
import Derived.Test.YtojhdmfkfkfcbaaGreatDoorSxE
import Derived.Test.YtojhdmfkfkfcbaaGreatDoorShelf
namespace Go.Proofs.YtojhdmfkfkfcbaaGreatDoor
open Go.Sx
def ig:List (List UInt8):=[[],[97,100,100],[115,117,98],[109,117,108],[100,105,118],[109,111,100],[97,110,100],[111,114],[120,111,114],[115,104,108],[115,104,114],[101,113],[108,101,115,115]]
def opAt (c:Nat):ByteArray:=⟨(ig.getD c []).toArray⟩
def xB:List Int:=[0,1,56,2,57,49,28,3,61,58,42,50,38,29,17,4,62,47,59,36,45,43,51,22,53,39,33,30,24,18,12,5,63,55,48,27,60,41,37,16,46,35,44,21,52,32,23,11,54,26,40,15,34,20,31,10,25,14,19,9,13,8,7,6]
noncomputable def PG:Pg:=⟨Tryz.prog,
 (1,256,fun c=>.int .u8 (Lib.firstT c))::
 (2,32,fun c=>.int .u8 (if c%2=0 then Lib.accLo (c/2) else Lib.accHi (c/2)))::
 (3,13,fun c=>.string (opAt c))::
 (4,64,fun c=>.int .u8 (xB.getD c 0))::
 (0,0,fun _=>undef)::
 []⟩
theorem ty_0:TI.OK Tryz.prog 2 ⟨.int .i64,1,8,[.d (.int .i64 0)]⟩:=TI.mk' (z:=.int .i64 0) Tryz.underlying2 (by kernel_rfl) rfl ⟨rfl,tR⟩
theorem ty_1:TI.OK Tryz.prog 3 ⟨.int .i64,1,8,[.d (.int .i64 0)]⟩:=TI.mk' (z:=.int .i64 0) Tryz.underlying3 (by kernel_rfl) rfl ⟨rfl,tR⟩
theorem ty_2:TI.OK Tryz.prog 4 ⟨.bool,1,1,[.d (.bool false)]⟩:=TI.mk' (z:=.bool false) Tryz.underlying4 (by kernel_rfl) rfl ⟨rfl,tR⟩
theorem ty_3:TI.OK Tryz.prog 5 ⟨.int .u8,1,1,[.d (.int .u8 0)]⟩:=TI.mk' (z:=.int .u8 0) Tryz.underlying5 (by kernel_rfl) rfl ⟨rfl,tR⟩
theorem ty_4:TI.OK Tryz.prog 9 ⟨.str,1,16,[.d (.str .empty)]⟩:=TI.mk' (z:=.string .empty) Tryz.underlying9 (by kernel_rfl) rfl ⟨rfl,tR⟩
theorem ty_5:TI.OK Tryz.prog 21 ⟨.int .i32,1,4,[.d (.int .i32 0)]⟩:=TI.mk' (z:=.int .i32 0) Tryz.underlying21 (by kernel_rfl) rfl ⟨rfl,tR⟩
theorem ty_6:TI.OK Tryz.prog 178 ⟨.int .u64,1,8,[.d (.int .u64 0)]⟩:=TI.mk' (z:=.int .u64 0) Tryz.underlying178 (by kernel_rfl) rfl ⟨rfl,tR⟩
theorem ty_7:TI.OK Tryz.prog 36 ⟨.int .i64,1,8,[.d (.int .i64 0)]⟩:=TI.mk' (z:=.int .i64 0) Tryz.underlying36 (by kernel_rfl) rfl ⟨rfl,tR⟩
theorem ty_8:TI.OK Tryz.prog 141 ⟨.slice 5,1,24,[.aB]⟩:=TI.mk' (z:=.slice none 0 0) Tryz.underlying141 (by kernel_rfl) rfl ⟨rfl,tR⟩
theorem ty_9:TI.OK Tryz.prog 70 ⟨.slice 3,1,24,[.aB]⟩:=TI.mk' (z:=.slice none 0 0) Tryz.underlying70 (by kernel_rfl) rfl ⟨rfl,tR⟩
theorem abt:TI.OK Tryz.prog 22 ⟨.slice 9,1,24,[.aB]⟩:=TI.mk' (z:=.slice none 0 0) Tryz.underlying22 (by kernel_rfl) rfl ⟨rfl,tR⟩
theorem abu:TI.OK Tryz.prog 23 ⟨.slice 178,1,24,[.aB]⟩:=TI.mk' (z:=.slice none 0 0) Tryz.underlying23 (by kernel_rfl) rfl ⟨rfl,tR⟩
theorem abv:TI.OK Tryz.prog 259 ⟨.array 13 9,13,208,[.d (.str .empty)]⟩:=TI.mk' (z:=.agg (List.replicate 13 [Value.string .empty]).flatten.toArray) Tryz.underlying259 (by kernel_rfl) (by kernel_rfl) (Ee (us:=[.d (.str .empty)]) (cs:=[.string .empty]) ⟨rfl,tR⟩ 13)
theorem abw:TI.OK Tryz.prog 199 ⟨.other,1,8,[.dead]⟩:=TI.mk' (z:=.nilFunc) ⟨_,Tryz.underlying199,tR⟩ (by kernel_rfl) rfl ⟨rfl,tR⟩
theorem abx:TI.OK Tryz.prog 72 ⟨.struct [(0,5),(1,5),(2,3),(3,3),(4,3),(5,70),(6,70),(7,2),(8,3)] [],9,96,[.d (.int .u8 0), .d (.int .u8 0), .d (.int .i64 0), .d (.int .i64 0), .d (.int .i64 0), .aB, .aB, .d (.int .i64 0), .d (.int .i64 0)]⟩:=TI.mk' (z:=.agg #[.int .u8 0, .int .u8 0, .int .i64 0, .int .i64 0, .int .i64 0, .slice none 0 0, .slice none 0 0, .int .i64 0, .int .i64 0]) ⟨⟨_,Tryz.underlying72,rfl⟩, .inl rfl⟩ (by kernel_rfl) rfl ⟨rfl,rfl,rfl,rfl,rfl,rfl,rfl,rfl,rfl,tR⟩
theorem aby:TI.OK Tryz.prog 61 ⟨.slice 72,1,24,[.aB]⟩:=TI.mk' (z:=.slice none 0 0) Tryz.underlying61 (by kernel_rfl) rfl ⟨rfl,tR⟩
theorem abz:TI.OK Tryz.prog 58 ⟨.slice 61,1,24,[.aB]⟩:=TI.mk' (z:=.slice none 0 0) Tryz.underlying58 (by kernel_rfl) rfl ⟨rfl,tR⟩
theorem abA:TI.OK Tryz.prog 60 ⟨.struct [(0,3),(1,3),(2,58)] [],3,40,[.d (.int .i64 0), .d (.int .i64 0), .aB]⟩:=TI.mk' (z:=.agg #[.int .i64 0, .int .i64 0, .slice none 0 0]) ⟨⟨_,Tryz.underlying60,rfl⟩, .inl rfl⟩ (by kernel_rfl) rfl ⟨rfl,rfl,rfl,tR⟩
theorem abB:TI.OK Tryz.prog 183 ⟨.struct [(0,5),(1,3),(2,3)] [0,0,0],3,24,[.d (.int .u8 0), .d (.int .i64 0), .d (.int .i64 0)]⟩:=TI.mk' (z:=.agg #[.int .u8 0, .int .i64 0, .int .i64 0]) ⟨⟨_,Tryz.underlying183,rfl⟩, .inr (by kernel_rfl)⟩ (by kernel_rfl) rfl ⟨rfl,rfl,rfl,tR⟩
theorem abC:TI.OK Tryz.prog 102 ⟨.slice 183,1,24,[.aB]⟩:=TI.mk' (z:=.slice none 0 0) Tryz.underlying102 (by kernel_rfl) rfl ⟨rfl,tR⟩
theorem abD:TI.OK Tryz.prog 78 ⟨.struct [(0,9),(1,3),(2,9),(3,3)] [2,0,2,0],4,48,[.d (.str .empty), .d (.int .i64 0), .d (.str .empty), .d (.int .i64 0)]⟩:=TI.mk' (z:=.agg #[.string .empty, .int .i64 0, .string .empty, .int .i64 0]) ⟨⟨_,Tryz.underlying78,rfl⟩, .inr (by kernel_rfl)⟩ (by kernel_rfl) rfl ⟨rfl,rfl,rfl,rfl,tR⟩
theorem abE:TI.OK Tryz.prog 87 ⟨.struct [(0,5),(1,5),(2,9),(3,9),(4,9),(5,22),(6,22),(7,2),(8,3)] [],9,120,[.d (.int .u8 0), .d (.int .u8 0), .d (.str .empty), .d (.str .empty), .d (.str .empty), .aB, .aB, .d (.int .i64 0), .d (.int .i64 0)]⟩:=TI.mk' (z:=.agg #[.int .u8 0, .int .u8 0, .string .empty, .string .empty, .string .empty, .slice none 0 0, .slice none 0 0, .int .i64 0, .int .i64 0]) ⟨⟨_,Tryz.underlying87,rfl⟩, .inl rfl⟩ (by kernel_rfl) rfl ⟨rfl,rfl,rfl,rfl,rfl,rfl,rfl,rfl,rfl,tR⟩
theorem abF:TI.OK Tryz.prog 32 ⟨.slice 78,1,24,[.aB]⟩:=TI.mk' (z:=.slice none 0 0) Tryz.underlying32 (by kernel_rfl) rfl ⟨rfl,tR⟩
theorem abG:TI.OK Tryz.prog 83 ⟨.slice 87,1,24,[.aB]⟩:=TI.mk' (z:=.slice none 0 0) Tryz.underlying83 (by kernel_rfl) rfl ⟨rfl,tR⟩
theorem abH:TI.OK Tryz.prog 85 ⟨.struct [(0,9),(1,83),(2,3)] [],3,48,[.d (.str .empty), .aB, .d (.int .i64 0)]⟩:=TI.mk' (z:=.agg #[.string .empty, .slice none 0 0, .int .i64 0]) ⟨⟨_,Tryz.underlying85,rfl⟩, .inl rfl⟩ (by kernel_rfl) rfl ⟨rfl,rfl,rfl,tR⟩
theorem abI:TI.OK Tryz.prog 80 ⟨.slice 85,1,24,[.aB]⟩:=TI.mk' (z:=.slice none 0 0) Tryz.underlying80 (by kernel_rfl) rfl ⟨rfl,tR⟩
theorem abJ:TI.OK Tryz.prog 82 ⟨.struct [(0,9),(1,22),(2,80),(3,3)] [],4,72,[.d (.str .empty), .aB, .aB, .d (.int .i64 0)]⟩:=TI.mk' (z:=.agg #[.string .empty, .slice none 0 0, .slice none 0 0, .int .i64 0]) ⟨⟨_,Tryz.underlying82,rfl⟩, .inl rfl⟩ (by kernel_rfl) rfl ⟨rfl,rfl,rfl,rfl,tR⟩
theorem abK:TI.OK Tryz.prog 33 ⟨.slice 82,1,24,[.aB]⟩:=TI.mk' (z:=.slice none 0 0) Tryz.underlying33 (by kernel_rfl) rfl ⟨rfl,tR⟩
theorem abL:TI.OK Tryz.prog 35 ⟨.struct [(0,32),(1,33)] [],2,48,[.aB, .aB]⟩:=TI.mk' (z:=.agg #[.slice none 0 0, .slice none 0 0]) ⟨⟨_,Tryz.underlying35,rfl⟩, .inl rfl⟩ (by kernel_rfl) rfl ⟨rfl,rfl,tR⟩
theorem abM:TI.OK Tryz.prog 106 ⟨.struct [(0,3),(1,36)] [0,0],2,16,[.d (.int .i64 0), .d (.int .i64 0)]⟩:=TI.mk' (z:=.agg #[.int .i64 0, .int .i64 0]) ⟨⟨_,Tryz.underlying106,rfl⟩, .inr (by kernel_rfl)⟩ (by kernel_rfl) rfl ⟨rfl,rfl,tR⟩
theorem abN:TI.OK Tryz.prog 110 ⟨.struct [(0,9),(1,102),(2,3),(3,3)] [],4,56,[.d (.str .empty), .aB, .d (.int .i64 0), .d (.int .i64 0)]⟩:=TI.mk' (z:=.agg #[.string .empty, .slice none 0 0, .int .i64 0, .int .i64 0]) ⟨⟨_,Tryz.underlying110,rfl⟩, .inl rfl⟩ (by kernel_rfl) rfl ⟨rfl,rfl,rfl,rfl,tR⟩
theorem abO:TI.OK Tryz.prog 108 ⟨.other,1,8,[.dead]⟩:=TI.mk' (z:=.pointer none) ⟨_,Tryz.underlying108,tR⟩ (by kernel_rfl) rfl ⟨rfl,tR⟩
theorem abP:TI.OK Tryz.prog 250 ⟨.other,1,8,[.dead]⟩:=TI.mk' (z:=.pointer none) ⟨_,Tryz.underlying250,tR⟩ (by kernel_rfl) rfl ⟨rfl,tR⟩
theorem abQ:TI.OK Tryz.prog 1 ⟨.func,1,8,[.d .nf]⟩:=TI.mk' (z:=.nilFunc) ⟨_,_,_,Tryz.underlying1⟩ (by kernel_rfl) rfl ⟨rfl,tR⟩
theorem abR:TI.OK Tryz.prog 247 ⟨.func,1,8,[.d .nf]⟩:=TI.mk' (z:=.nilFunc) ⟨_,_,_,Tryz.underlying247⟩ (by kernel_rfl) rfl ⟨rfl,tR⟩
theorem abS:TI.OK Tryz.prog 143 ⟨.struct [(0,140),(1,141)] [],2,32,[.d .np, .aB]⟩:=TI.mk' (z:=.agg #[.pointer none, .slice none 0 0]) ⟨⟨_,Tryz.underlying143,rfl⟩, .inl rfl⟩ (by kernel_rfl) rfl ⟨rfl,rfl,tR⟩
theorem abT:TI.OK Tryz.prog 253 ⟨.struct [(0,3),(1,4),(2,4),(3,4)] [0,1,1,1],4,16,[.d (.int .i64 0), .d (.bool false), .d (.bool false), .d (.bool false)]⟩:=TI.mk' (z:=.agg #[.int .i64 0, .bool false, .bool false, .bool false]) ⟨⟨_,Tryz.underlying253,rfl⟩, .inr (by kernel_rfl)⟩ (by kernel_rfl) rfl ⟨rfl,rfl,rfl,rfl,tR⟩
theorem abU:TI.OK Tryz.prog 255 ⟨.map 5 253,1,8,[.d .nm]⟩:=TI.mk' (z:=.map none) Tryz.underlying255 (by kernel_rfl) rfl ⟨rfl,tR⟩
theorem abV:TI.OK Tryz.prog 145 ⟨.iface,1,16,[.d .ni]⟩:=TI.mk' (z:=.nilIface) ⟨_,Tryz.underlying145⟩ (by kernel_rfl) rfl ⟨rfl,tR⟩
theorem abW:TI.OK Tryz.prog 140 ⟨.other,1,8,[.dead]⟩:=TI.mk' (z:=.pointer none) ⟨_,Tryz.underlying140,tR⟩ (by kernel_rfl) rfl ⟨rfl,tR⟩
theorem abX:TI.OK Tryz.prog 20 ⟨.iface,1,16,[.d .ni]⟩:=TI.mk' (z:=.nilIface) ⟨_,Tryz.underlying20⟩ (by kernel_rfl) rfl ⟨rfl,tR⟩
theorem abY:TI.OK Tryz.prog 248 ⟨.map 9 247,1,8,[.d .nm]⟩:=TI.mk' (z:=.map none) Tryz.underlying248 (by kernel_rfl) rfl ⟨rfl,tR⟩
theorem abZ:TI.OK Tryz.prog 121 ⟨.map 9 3,1,8,[.d .nm]⟩:=TI.mk' (z:=.map none) Tryz.underlying121 (by kernel_rfl) rfl ⟨rfl,tR⟩
theorem ab0:TI.OK Tryz.prog 162 ⟨.struct [(0,9),(1,3)] [2,0],2,24,[.d (.str .empty), .d (.int .i64 0)]⟩:=TI.mk' (z:=.agg #[.string .empty, .int .i64 0]) ⟨⟨_,Tryz.underlying162,rfl⟩, .inr (by kernel_rfl)⟩ (by kernel_rfl) rfl ⟨rfl,rfl,tR⟩
theorem ab1:TI.OK Tryz.prog 24 ⟨.slice 162,1,24,[.aB]⟩:=TI.mk' (z:=.slice none 0 0) Tryz.underlying24 (by kernel_rfl) rfl ⟨rfl,tR⟩
theorem ab2:TI.OK Tryz.prog 26 ⟨.struct [(0,22),(1,23),(2,24),(3,24),(4,3)] [],5,104,[.aB, .aB, .aB, .aB, .d (.int .i64 0)]⟩:=TI.mk' (z:=.agg #[.slice none 0 0, .slice none 0 0, .slice none 0 0, .slice none 0 0, .int .i64 0]) ⟨⟨_,Tryz.underlying26,rfl⟩, .inl rfl⟩ (by kernel_rfl) rfl ⟨rfl,rfl,rfl,rfl,rfl,tR⟩
theorem ab3:TI.OK Tryz.prog 180 ⟨.array 2 3,2,16,[.d (.int .i64 0)]⟩:=TI.mk' (z:=.agg (List.replicate 2 [Value.int .i64 0]).flatten.toArray) Tryz.underlying180 (by kernel_rfl) (by kernel_rfl) (Ee (us:=[.d (.int .i64 0)]) (cs:=[Value.int .i64 0]) ⟨rfl,tR⟩ 2)
theorem ab4:TI.OK Tryz.prog 92 ⟨.slice 180,1,24,[.aB]⟩:=TI.mk' (z:=.slice none 0 0) Tryz.underlying92 (by kernel_rfl) rfl ⟨rfl,tR⟩
theorem ab5:TI.OK Tryz.prog 94 ⟨.struct [(0,26),(5,92)] [],6,128,[.aB, .aB, .aB, .aB, .d (.int .i64 0), .aB]⟩:=TI.mk' (z:=.agg #[.slice none 0 0, .slice none 0 0, .slice none 0 0, .slice none 0 0, .int .i64 0, .slice none 0 0]) ⟨⟨_,Tryz.underlying94,rfl⟩, .inl rfl⟩ (by kernel_rfl) rfl ⟨rfl,rfl,rfl,rfl,rfl,rfl,tR⟩
theorem ab6:TI.OK Tryz.prog 171 ⟨.func,1,8,[.d .nf]⟩:=TI.mk' (z:=.nilFunc) ⟨_,_,_,Tryz.underlying171⟩ (by kernel_rfl) rfl ⟨rfl,tR⟩
theorem ab7:TI.OK Tryz.prog 139 ⟨.func,1,8,[.d .nf]⟩:=TI.mk' (z:=.nilFunc) ⟨_,_,_,Tryz.underlying139⟩ (by kernel_rfl) rfl ⟨rfl,tR⟩
theorem ab8:TI.OK Tryz.prog 204 ⟨.func,1,8,[.d .nf]⟩:=TI.mk' (z:=.nilFunc) ⟨_,_,_,Tryz.underlying204⟩ (by kernel_rfl) rfl ⟨rfl,tR⟩
theorem ab9:TI.OK Tryz.prog 156 ⟨.func,1,8,[.d .nf]⟩:=TI.mk' (z:=.nilFunc) ⟨_,_,_,Tryz.underlying156⟩ (by kernel_rfl) rfl ⟨rfl,tR⟩
theorem acd:TI.OK Tryz.prog 233 ⟨.func,1,8,[.d .nf]⟩:=TI.mk' (z:=.nilFunc) ⟨_,_,_,Tryz.underlying233⟩ (by kernel_rfl) rfl ⟨rfl,tR⟩
theorem ace:TI.OK Tryz.prog 173 ⟨.struct [(0,171),(1,3)] [],2,16,[.d .nf, .d (.int .i64 0)]⟩:=TI.mk' (z:=.agg #[.nilFunc, .int .i64 0]) ⟨⟨_,Tryz.underlying173,rfl⟩, .inl rfl⟩ (by kernel_rfl) rfl ⟨rfl,rfl,tR⟩
theorem acf:TI.OK Tryz.prog 174 ⟨.map 9 173,1,8,[.d .nm]⟩:=TI.mk' (z:=.map none) Tryz.underlying174 (by kernel_rfl) rfl ⟨rfl,tR⟩
theorem acg:TI.OK Tryz.prog 91 ⟨.other,1,8,[.dead]⟩:=TI.mk' (z:=.pointer none) ⟨_,Tryz.underlying91,tR⟩ (by kernel_rfl) rfl ⟨rfl,tR⟩
theorem ach:TI.OK Tryz.prog 243 ⟨.other,1,8,[.dead]⟩:=TI.mk' (z:=.pointer none) ⟨_,Tryz.underlying243,tR⟩ (by kernel_rfl) rfl ⟨rfl,tR⟩
theorem aci:TI.OK Tryz.prog 66 ⟨.struct [(0,3),(1,3)] [0,0],2,16,[.d (.int .i64 0), .d (.int .i64 0)]⟩:=TI.mk' (z:=.agg #[.int .i64 0, .int .i64 0]) ⟨⟨_,Tryz.underlying66,rfl⟩, .inr (by kernel_rfl)⟩ (by kernel_rfl) rfl ⟨rfl,rfl,tR⟩
theorem acj:TI.OK Tryz.prog 27 ⟨.slice 66,1,24,[.aB]⟩:=TI.mk' (z:=.slice none 0 0) Tryz.underlying27 (by kernel_rfl) rfl ⟨rfl,tR⟩
theorem acn:TI.OK Tryz.prog 28 ⟨.slice 60,1,24,[.aB]⟩:=TI.mk' (z:=.slice none 0 0) Tryz.underlying28 (by kernel_rfl) rfl ⟨rfl,tR⟩
theorem aco:TI.OK Tryz.prog 30 ⟨.struct [(0,27),(1,28),(2,3)] [],3,56,[.aB, .aB, .d (.int .i64 0)]⟩:=TI.mk' (z:=.agg #[.slice none 0 0, .slice none 0 0, .int .i64 0]) ⟨⟨_,Tryz.underlying30,rfl⟩, .inl rfl⟩ (by kernel_rfl) rfl ⟨rfl,rfl,rfl,tR⟩
theorem acp:TI.OK Tryz.prog 118 ⟨.struct [(0,3),(1,36)] [0,0],2,16,[.d (.int .i64 0), .d (.int .i64 0)]⟩:=TI.mk' (z:=.agg #[.int .i64 0, .int .i64 0]) ⟨⟨_,Tryz.underlying118,rfl⟩, .inr (by kernel_rfl)⟩ (by kernel_rfl) rfl ⟨rfl,rfl,tR⟩
theorem acr:TI.OK Tryz.prog 133 ⟨.struct [(0,121),(1,121)] [],2,16,[.d .nm, .d .nm]⟩:=TI.mk' (z:=.agg #[.map none, .map none]) ⟨⟨_,Tryz.underlying133,rfl⟩, .inl rfl⟩ (by kernel_rfl) rfl ⟨rfl,rfl,tR⟩
theorem acs:TI.OK Tryz.prog 131 ⟨.slice 133,1,24,[.aB]⟩:=TI.mk' (z:=.slice none 0 0) Tryz.underlying131 (by kernel_rfl) rfl ⟨rfl,tR⟩
theorem acu:TI.OK Tryz.prog 123 ⟨.struct [(0,26),(5,35),(7,121),(8,121)] [],9,168,[.aB, .aB, .aB, .aB, .d (.int .i64 0), .aB, .aB, .d .nm, .d .nm]⟩:=TI.mk' (z:=.agg #[.slice none 0 0, .slice none 0 0, .slice none 0 0, .slice none 0 0, .int .i64 0, .slice none 0 0, .slice none 0 0, .map none, .map none]) ⟨⟨_,Tryz.underlying123,rfl⟩, .inl rfl⟩ (by kernel_rfl) rfl ⟨rfl,rfl,rfl,rfl,rfl,rfl,rfl,rfl,rfl,tR⟩
theorem acv:TI.OK Tryz.prog 120 ⟨.other,1,8,[.dead]⟩:=TI.mk' (z:=.pointer none) ⟨_,Tryz.underlying120,tR⟩ (by kernel_rfl) rfl ⟨rfl,tR⟩
theorem acw:TI.OK Tryz.prog 205 ⟨.func,1,8,[.d .nf]⟩:=TI.mk' (z:=.nilFunc) ⟨_,_,_,Tryz.underlying205⟩ (by kernel_rfl) rfl ⟨rfl,tR⟩
theorem acy:TI.OK Tryz.prog 129 ⟨.func,1,8,[.d .nf]⟩:=TI.mk' (z:=.nilFunc) ⟨_,_,_,Tryz.underlying129⟩ (by kernel_rfl) rfl ⟨rfl,tR⟩
theorem acz:TI.OK Tryz.prog 130 ⟨.func,1,8,[.d .nf]⟩:=TI.mk' (z:=.nilFunc) ⟨_,_,_,Tryz.underlying130⟩ (by kernel_rfl) rfl ⟨rfl,tR⟩
theorem acA:TI.OK Tryz.prog 90 ⟨.func,1,8,[.d .nf]⟩:=TI.mk' (z:=.nilFunc) ⟨_,_,_,Tryz.underlying90⟩ (by kernel_rfl) rfl ⟨rfl,tR⟩
theorem acB:TI.OK Tryz.prog 195 ⟨.func,1,8,[.d .nf]⟩:=TI.mk' (z:=.nilFunc) ⟨_,_,_,Tryz.underlying195⟩ (by kernel_rfl) rfl ⟨rfl,tR⟩
theorem acC:TI.OK Tryz.prog 196 ⟨.func,1,8,[.d .nf]⟩:=TI.mk' (z:=.nilFunc) ⟨_,_,_,Tryz.underlying196⟩ (by kernel_rfl) rfl ⟨rfl,tR⟩
theorem acD:TI.OK Tryz.prog 75 ⟨.func,1,8,[.d .nf]⟩:=TI.mk' (z:=.nilFunc) ⟨_,_,_,Tryz.underlying75⟩ (by kernel_rfl) rfl ⟨rfl,tR⟩
theorem acE:TI.OK Tryz.prog 74 ⟨.func,1,8,[.d .nf]⟩:=TI.mk' (z:=.nilFunc) ⟨_,_,_,Tryz.underlying74⟩ (by kernel_rfl) rfl ⟨rfl,tR⟩
theorem acF:TI.OK Tryz.prog 73 ⟨.func,1,8,[.d .nf]⟩:=TI.mk' (z:=.nilFunc) ⟨_,_,_,Tryz.underlying73⟩ (by kernel_rfl) rfl ⟨rfl,tR⟩
theorem acG:TI.OK Tryz.prog 266 ⟨.array 64 5,64,64,[.d (.int .u8 0)]⟩:=TI.mk' (z:=.agg (List.replicate 64 [Value.int .u8 0]).flatten.toArray) Tryz.underlying266 (by kernel_rfl) (by kernel_rfl) (Ee (us:=[.d (.int .u8 0)]) (cs:=[Value.int .u8 0]) ⟨rfl,tR⟩ 64)
def tys:List (Nat×TI):=
 (2,⟨.int .i64,1,8,[.d (.int .i64 0)]⟩)::
 (3,⟨.int .i64,1,8,[.d (.int .i64 0)]⟩)::
 (4,⟨.bool,1,1,[.d (.bool false)]⟩)::
 (5,⟨.int .u8,1,1,[.d (.int .u8 0)]⟩)::
 (9,⟨.str,1,16,[.d (.str .empty)]⟩)::
 (21,⟨.int .i32,1,4,[.d (.int .i32 0)]⟩)::
 (178,⟨.int .u64,1,8,[.d (.int .u64 0)]⟩)::
 (36,⟨.int .i64,1,8,[.d (.int .i64 0)]⟩)::
 (141,⟨.slice 5,1,24,[.aB]⟩)::
 (70,⟨.slice 3,1,24,[.aB]⟩)::
 (22,⟨.slice 9,1,24,[.aB]⟩)::
 (23,⟨.slice 178,1,24,[.aB]⟩)::
 (259,⟨.array 13 9,13,208,[.d (.str .empty)]⟩)::
 (199,⟨.other,1,8,[.dead]⟩)::
 (72,⟨.struct [(0,5),(1,5),(2,3),(3,3),(4,3),(5,70),(6,70),(7,2),(8,3)] [],9,96,[.d (.int .u8 0), .d (.int .u8 0), .d (.int .i64 0), .d (.int .i64 0), .d (.int .i64 0), .aB, .aB, .d (.int .i64 0), .d (.int .i64 0)]⟩)::
 (61,⟨.slice 72,1,24,[.aB]⟩)::
 (58,⟨.slice 61,1,24,[.aB]⟩)::
 (60,⟨.struct [(0,3),(1,3),(2,58)] [],3,40,[.d (.int .i64 0), .d (.int .i64 0), .aB]⟩)::
 (183,⟨.struct [(0,5),(1,3),(2,3)] [0,0,0],3,24,[.d (.int .u8 0), .d (.int .i64 0), .d (.int .i64 0)]⟩)::
 (102,⟨.slice 183,1,24,[.aB]⟩)::
 (78,⟨.struct [(0,9),(1,3),(2,9),(3,3)] [2,0,2,0],4,48,[.d (.str .empty), .d (.int .i64 0), .d (.str .empty), .d (.int .i64 0)]⟩)::
 (87,⟨.struct [(0,5),(1,5),(2,9),(3,9),(4,9),(5,22),(6,22),(7,2),(8,3)] [],9,120,[.d (.int .u8 0), .d (.int .u8 0), .d (.str .empty), .d (.str .empty), .d (.str .empty), .aB, .aB, .d (.int .i64 0), .d (.int .i64 0)]⟩)::
 (32,⟨.slice 78,1,24,[.aB]⟩)::
 (83,⟨.slice 87,1,24,[.aB]⟩)::
 (85,⟨.struct [(0,9),(1,83),(2,3)] [],3,48,[.d (.str .empty), .aB, .d (.int .i64 0)]⟩)::
 (80,⟨.slice 85,1,24,[.aB]⟩)::
 (82,⟨.struct [(0,9),(1,22),(2,80),(3,3)] [],4,72,[.d (.str .empty), .aB, .aB, .d (.int .i64 0)]⟩)::
 (33,⟨.slice 82,1,24,[.aB]⟩)::
 (35,⟨.struct [(0,32),(1,33)] [],2,48,[.aB, .aB]⟩)::
 (106,⟨.struct [(0,3),(1,36)] [0,0],2,16,[.d (.int .i64 0), .d (.int .i64 0)]⟩)::
 (110,⟨.struct [(0,9),(1,102),(2,3),(3,3)] [],4,56,[.d (.str .empty), .aB, .d (.int .i64 0), .d (.int .i64 0)]⟩)::
 (108,⟨.other,1,8,[.dead]⟩)::
 (250,⟨.other,1,8,[.dead]⟩)::
 (1,⟨.func,1,8,[.d .nf]⟩)::
 (247,⟨.func,1,8,[.d .nf]⟩)::
 (143,⟨.struct [(0,140),(1,141)] [],2,32,[.d .np, .aB]⟩)::
 (253,⟨.struct [(0,3),(1,4),(2,4),(3,4)] [0,1,1,1],4,16,[.d (.int .i64 0), .d (.bool false), .d (.bool false), .d (.bool false)]⟩)::
 (255,⟨.map 5 253,1,8,[.d .nm]⟩)::
 (145,⟨.iface,1,16,[.d .ni]⟩)::
 (140,⟨.other,1,8,[.dead]⟩)::
 (20,⟨.iface,1,16,[.d .ni]⟩)::
 (248,⟨.map 9 247,1,8,[.d .nm]⟩)::
 (121,⟨.map 9 3,1,8,[.d .nm]⟩)::
 (162,⟨.struct [(0,9),(1,3)] [2,0],2,24,[.d (.str .empty), .d (.int .i64 0)]⟩)::
 (24,⟨.slice 162,1,24,[.aB]⟩)::
 (26,⟨.struct [(0,22),(1,23),(2,24),(3,24),(4,3)] [],5,104,[.aB, .aB, .aB, .aB, .d (.int .i64 0)]⟩)::
 (180,⟨.array 2 3,2,16,[.d (.int .i64 0)]⟩)::
 (92,⟨.slice 180,1,24,[.aB]⟩)::
 (94,⟨.struct [(0,26),(5,92)] [],6,128,[.aB, .aB, .aB, .aB, .d (.int .i64 0), .aB]⟩)::
 (171,⟨.func,1,8,[.d .nf]⟩)::
 (139,⟨.func,1,8,[.d .nf]⟩)::
 (204,⟨.func,1,8,[.d .nf]⟩)::
 (156,⟨.func,1,8,[.d .nf]⟩)::
 (233,⟨.func,1,8,[.d .nf]⟩)::
 (173,⟨.struct [(0,171),(1,3)] [],2,16,[.d .nf, .d (.int .i64 0)]⟩)::
 (174,⟨.map 9 173,1,8,[.d .nm]⟩)::
 (91,⟨.other,1,8,[.dead]⟩)::
 (243,⟨.other,1,8,[.dead]⟩)::
 (66,⟨.struct [(0,3),(1,3)] [0,0],2,16,[.d (.int .i64 0), .d (.int .i64 0)]⟩)::
 (27,⟨.slice 66,1,24,[.aB]⟩)::
 (28,⟨.slice 60,1,24,[.aB]⟩)::
 (30,⟨.struct [(0,27),(1,28),(2,3)] [],3,56,[.aB, .aB, .d (.int .i64 0)]⟩)::
 (118,⟨.struct [(0,3),(1,36)] [0,0],2,16,[.d (.int .i64 0), .d (.int .i64 0)]⟩)::
 (133,⟨.struct [(0,121),(1,121)] [],2,16,[.d .nm, .d .nm]⟩)::
 (131,⟨.slice 133,1,24,[.aB]⟩)::
 (123,⟨.struct [(0,26),(5,35),(7,121),(8,121)] [],9,168,[.aB, .aB, .aB, .aB, .d (.int .i64 0), .aB, .aB, .d .nm, .d .nm]⟩)::
 (120,⟨.other,1,8,[.dead]⟩)::
 (205,⟨.func,1,8,[.d .nf]⟩)::
 (129,⟨.func,1,8,[.d .nf]⟩)::
 (130,⟨.func,1,8,[.d .nf]⟩)::
 (90,⟨.func,1,8,[.d .nf]⟩)::
 (195,⟨.func,1,8,[.d .nf]⟩)::
 (196,⟨.func,1,8,[.d .nf]⟩)::
 (75,⟨.func,1,8,[.d .nf]⟩)::
 (74,⟨.func,1,8,[.d .nf]⟩)::
 (73,⟨.func,1,8,[.d .nf]⟩)::
 (266,⟨.array 64 5,64,64,[.d (.int .u8 0)]⟩)::
 []
theorem av:bP Tryz.prog tys:=
 And.intro ty_0 <|
 And.intro ty_1 <|
 And.intro ty_2 <|
 And.intro ty_3 <|
 And.intro ty_4 <|
 And.intro ty_5 <|
 And.intro ty_6 <|
 And.intro ty_7 <|
 And.intro ty_8 <|
 And.intro ty_9 <|
 And.intro abt <|
 And.intro abu <|
 And.intro abv <|
 And.intro abw <|
 And.intro abx <|
 And.intro aby <|
 And.intro abz <|
 And.intro abA <|
 And.intro abB <|
 And.intro abC <|
 And.intro abD <|
 And.intro abE <|
 And.intro abF <|
 And.intro abG <|
 And.intro abH <|
 And.intro abI <|
 And.intro abJ <|
 And.intro abK <|
 And.intro abL <|
 And.intro abM <|
 And.intro abN <|
 And.intro abO <|
 And.intro abP <|
 And.intro abQ <|
 And.intro abR <|
 And.intro abS <|
 And.intro abT <|
 And.intro abU <|
 And.intro abV <|
 And.intro abW <|
 And.intro abX <|
 And.intro abY <|
 And.intro abZ <|
 And.intro ab0 <|
 And.intro ab1 <|
 And.intro ab2 <|
 And.intro ab3 <|
 And.intro ab4 <|
 And.intro ab5 <|
 And.intro ab6 <|
 And.intro ab7 <|
 And.intro ab8 <|
 And.intro ab9 <|
 And.intro acd <|
 And.intro ace <|
 And.intro acf <|
 And.intro acg <|
 And.intro ach <|
 And.intro aci <|
 And.intro acj <|
 And.intro acn <|
 And.intro aco <|
 And.intro acp <|
 And.intro acr <|
 And.intro acs <|
 And.intro acu <|
 And.intro acv <|
 And.intro acw <|
 And.intro acy <|
 And.intro acz <|
 And.intro acA <|
 And.intro acB <|
 And.intro acC <|
 And.intro acD <|
 And.intro acE <|
 And.intro acF <|
 And.intro acG <|
 trivial
theorem ay:Tryz.prog.follows .mixedOrders=true:=by kernel_rfl
def cfg (n:Nat):Cfg:=⟨n,0,true,tys⟩
def dG (n fix:Nat):Cfg:=⟨n,fix,true,tys⟩
end Go.Proofs.YtojhdmfkfkfcbaaGreatDoor
namespace Go.Proofs.YtojhdmfkfkfcbaaGreatDoor
open Go.Sx
set_option linter.unusedVariables false
set_option maxRecDepth 100000
theorem yg (r:Int):Pure PG 140 [.d (.int .i32 r)] (vb (decide (48≤r)&&decide (r≤57))) []:=by
 refine aI.mk (cfg 9) av [] Tryz.func140 rfl (by kernel_rfl) rfl rfl rfl ?_
 intro C x
 refine x.exit rfl ?_ ?_
 ·exact tR
 ·exact⟨.inr rfl,rfl,tR,rfl⟩
def acH (n:Nat):Cfg:=dG n 1
theorem ny (r a b:Int):aI PG 189 1 [.d (.int .i32 a), .d (.int .i32 b), .ptr 0 0] [.box [.d (.int .i32 r)]] (vb (decide (a≤r)&&decide (r≤b))) [.box [.d (.int .i32 r)]]:=by
 refine aI.mk (acH 14) av [0] Tryz.func189 rfl (by kernel_rfl) rfl rfl rfl ?_
 intro C x
 refine x.exit rfl tR ?_
 exact⟨.inr rfl,rfl,⟨⟨rfl,tR⟩,tR⟩,rfl⟩
theorem Cm (r:Int):Pure PG 164 [.d (.int .i32 r)] (vb (decide (97≤r)&&decide (r≤122)||decide (65≤r)&&decide (r≤90)||decide (r=95)||decide (945≤r)&&decide (r≤969)||decide (913≤r)&&decide (r≤937)&&!decide (r=930))) []:=by
 refine aI.mk (cfg 27) av [] Tryz.func164 rfl (by kernel_rfl) rfl rfl rfl ?_
 intro C x
 refine x.call [0] rfl tR rfl (ny r 97 122) rfl ⟨rfl,rfl,⟨rfl,rfl⟩,tR⟩ ⟨⟨rfl,tR⟩,tR⟩ ?_
 refine x.nS [0] rfl tR rfl (fun _=>ny r 65 90) rfl ⟨rfl,rfl,⟨rfl,rfl⟩,tR⟩ ⟨⟨rfl,tR⟩,tR⟩ ⟨⟨rfl,tR⟩,tR⟩ ?_
 refine x.nS [0] rfl ?_ rfl (fun _=>ny r 945 969) rfl ⟨rfl,rfl,⟨rfl,rfl⟩,tR⟩ ⟨⟨rfl,tR⟩,tR⟩ ⟨⟨rfl,tR⟩,tR⟩ ?_
 ·exact tR
 refine x.nS [0] rfl tR rfl (fun _=>ny r 913 937) rfl ⟨rfl,rfl,⟨rfl,rfl⟩,tR⟩ ⟨⟨rfl,tR⟩,tR⟩ ⟨⟨rfl,tR⟩,tR⟩ ?_
 refine x.exit rfl ?_ ?_
 ·exact tR
 ·refine⟨.inr rfl,?_,tR,rfl⟩
  rfl
end Go.Proofs.YtojhdmfkfkfcbaaGreatDoor
namespace Go.Proofs.YtojhdmfkfkfcbaaGreatDoor
open Go.Sx
set_option linter.unusedVariables false
set_option linter.unusedSimpArgs false
set_option maxRecDepth 100000
theorem Z6 (s:ByteArray) (i:Nat):sb s i=((s.get! i).toNat:Int):=by
 unfold sb
 congr 2
 cases s with
 | mk d=>
  show d.toList.getD i 0=d[i]!
  simp [adf,getElem!_def]
  cases h:d[i]?<;>simp<;>rfl
theorem Hr (s:ByteArray) (i:Nat):0≤sb s i:=by unfold sb;exact Int.natCast_nonneg _
theorem YW (s:ByteArray) (i:Nat):sb s i<256:=by unfold sb;have:=(s.data.toList.getD i 0).toNat_lt;omega
theorem wrap_u8 {n:Nat} (h:n<256):IntKind.u8.wrap (n:Int)=n:=by
 show (n:Int)%256=n
 omega
theorem mask (x:Nat) (m k:Nat) (hx:x<256) (hm:m=2 ^ k-1) (hm':m<256):jJ .and .u8 (x:Int) (m:Int)=((x%2 ^ k:Nat):Int):=by
 unfold jJ
 simp only
 rw[BitVec.toNat_and]
 have h1:(BitVec.ofInt IntKind.u8.bits (x:Int)).toNat=x:=by
  show (BitVec.ofInt 8 (x:Int)).toNat=x
  simp [BitVec.toNat_ofInt];omega
 have h2:(BitVec.ofInt IntKind.u8.bits (m:Int)).toNat=m:=by
  show (BitVec.ofInt 8 (m:Int)).toNat=m
  simp [BitVec.toNat_ofInt];omega
 rw[h1,h2,hm,Nat.and_two_pow_sub_one_eq_mod]
 refine wrap_u8 (Nat.lt_of_le_of_lt (Nat.mod_le _ _) hx)
theorem YX (x:Int) (m k:Nat) (h0:0≤x) (hx:x<256) (hm:m=2 ^ k-1) (hm':m<256):jJ .and .u8 x (m:Int)=x%(2 ^ k:Nat):=by
 obtain⟨y,rfl⟩:=Int.eq_ofNat_of_zero_le h0
 rw[mask y m k (by omega) hm hm']
 rfl
theorem Z7 {x:Int} (h0:0≤x) (hx:x<256):jJ .and .u8 x 31=x%32:=YX x 31 5 h0 hx rfl (by decide)
theorem Z8 {x:Int} (h0:0≤x) (hx:x<256):jJ .and .u8 x 63=x%64:=YX x 63 6 h0 hx rfl (by decide)
def YZ (s:ByteArray) (i lo hi:Int):Bool:=decide (i<s.size)&&decide (lo≤sb s i.toNat)&&decide (sb s i.toNat≤hi)
theorem uR {α:Type} {c c':Prop} [Decidable c] [Decidable c'] {x x' y y':α} (h:c↔c') (e1:x=x') (e2:y=y'):ite c x y=ite c' x' y':=by
 subst e1 e2
 by_cases hc:c
 ·rw[if_pos hc,if_pos (h.1 hc)]
 ·rw[if_neg hc,if_neg (fun h'=>hc (h.2 h'))]
def bt (s:ByteArray) (i:Nat):Nat:=(s.get! i).toNat
theorem xC (s:ByteArray) (i:Nat):sb s i=(bt s i:Int):=Z6 s i
theorem EL (s:ByteArray) (i:Nat):bt s i<256:=(s.get! i).toNat_lt
def dec (sz p a b c d:Nat):Nat×Nat:=
 if a<128 then (a,1)
 else if a/32=6∧p+1<sz∧b/64=2 then
  if 128≤a%32*64+b%64 then (a%32*64+b%64,2) else (65533,1)
 else if a/16=14∧p+1<sz∧b/64=2∧p+2<sz∧c/64=2 then
  if 2048≤a%16*4096+b%64*64+c%64∧¬(55296≤a%16*4096+b%64*64+c%64∧a%16*4096+b%64*64+c%64≤57343)
  then (a%16*4096+b%64*64+c%64,3) else (65533,1)
 else if a/8=30∧p+1<sz∧b/64=2∧p+2<sz∧c/64=2∧p+3<sz∧d/64=2 then
  if 65536≤a%8*262144+b%64*4096+c%64*64+d%64∧a%8*262144+b%64*4096+c%64*64+d%64≤1114111
  then (a%8*262144+b%64*4096+c%64*64+d%64,4) else (65533,1)
 else (65533,1)
theorem bG (s:ByteArray) (p:Nat):Utf8.decode s p=dec s.size p (bt s p) (bt s (p+1)) (bt s (p+2)) (bt s (p+3)):=by
 unfold Utf8.decode dec
 have hr:Utf8.runeError=65533:=rfl
 have e:∀k,(s.get! k).toNat=bt s k:=fun k=>rfl
 have h1:=EL s (p+1)
 have h2:=EL s (p+2)
 have h3:=EL s (p+3)
 have h0:=EL s p
 simp only[hr,e,Nat.add_zero,adg,adn,beq_iff_eq,and_assoc]
 refine uR Iff.rfl rfl (uR Iff.rfl rfl (uR Iff.rfl (uR ?_ rfl rfl) (uR Iff.rfl (uR ?_ rfl rfl) rfl)))
 ·simp only[Utf8.valid,Bool.or_eq_true,adg,adn]
  omega
 ·simp only[Utf8.valid,Bool.or_eq_true,adg,adn]
  omega
def kR (s:ByteArray) (i:Int):Int×Int:=
 if 0≤i∧i<s.size then
  if (Utf8.decode s i.toNat).2=1∧128≤bt s i.toNat then (0,0) else (((Utf8.decode s i.toNat).1:Int),((Utf8.decode s i.toNat).2:Int))
 else (0,0)
section
variable {s:ByteArray} {i:Int} (h:0≤i∧i<s.size)
include h
end
section
variable {s:ByteArray} {i:Int} (h:0≤i∧i<s.size) (hs:s.size≤9223372036854775807)
include h hs
theorem ob2 (h2:(decide (194≤sb s i.toNat)&&decide (sb s i.toNat≤223)&&YZ s (i+1) 128 191)=true) :
  aj [ak (jJ BinOp.and IntKind.u8 (sb s i.toNat) 31),ak (jJ BinOp.and IntKind.u8 (sb s i.toNat) 31*64),
   ak (i+1),0≤i+1∧i+1 < ↑s.size,ak (jJ BinOp.and IntKind.u8 (sb s (i+1).toNat) 63),
   ak (jJ BinOp.and IntKind.u8 (sb s i.toNat) 31*64+jJ BinOp.and IntKind.u8 (sb s (i+1).toNat) 63)]:=by
 rw[Z7 (Hr _ _) (YW _ _),Z8 (Hr _ _) (YW _ _)]
 simp only[YZ,adg,adn] at h2
 simp only[aj,ak]
 omega
end
def Qe (s:ByteArray) (i:Int):Int:=if (kR s i).2=0 then i+1 else i+(kR s i).2
theorem bB (s:ByteArray) (p:Nat):1≤(Utf8.decode s p).2∧(Utf8.decode s p).2≤4∧(Utf8.decode s p).1<4294967296:=by
 rw[bG]
 have h0:=EL s p
 unfold dec
 repeat' split
 all_goals simp
 all_goals omega
def mQ (s:ByteArray):Nat->Int->Int->Int
 | 0,_,c=>c
 | n+1,i,c=>if i<s.size then mQ s n (Qe s i) (c+1) else c
theorem Od {s:ByteArray} {n:Nat} {i c:Int} (h:¬i<s.size):mQ s n i c=c:=by
 cases n with
 | zero=>rfl
 | succ n=>rw[mQ,if_neg h]
def dQ (s:ByteArray):Nat->Int->Int
 | 0,_=>-1
 | n+1,i=>if i<s.size then if (kR s i).2=0 then i else dQ s n (i+(kR s i).2) else -1
theorem og {s:ByteArray} {n:Nat} {i:Int} (h:¬i<s.size):dQ s n i=-1:=by
 cases n with
 | zero=>rfl
 | succ n=>rw[dQ,if_neg h]
theorem XJ (sz p a b c d:Nat) (h1:(dec sz p a b c d).2=1) (h2:128≤a):(dec sz p a b c d).1=65533:=by
 unfold dec at *
 split
 ·omega
 split
 ·rw[if_neg (by omega)] at h1
  split
  ·rename_i h3 h4 h5;rw[if_pos h4,if_pos h5] at h1;simp at h1
  ·rfl
 split
 ·rename_i h3 h4 h5
  rw[if_neg h3,if_neg h4,if_pos h5] at h1
  split
  ·rename_i h6;rw[if_pos h6] at h1;simp at h1
  ·rfl
 split
 ·rename_i h3 h4 h5 h6
  rw[if_neg h3,if_neg h4,if_neg h5,if_pos h6] at h1
  split
  ·rename_i h7;rw[if_pos h7] at h1;simp at h1
  ·rfl
 ·rfl
theorem zo {s:ByteArray} {p:Nat} (h:p<s.size):kR s (p:Int)=if (Utf8.decode s p).2=1∧128≤bt s p then (0,0) else (((Utf8.decode s p).1:Int),((Utf8.decode s p).2:Int)):=by
 unfold kR
 rw[if_pos (by omega),adv]
theorem EM {s:ByteArray} {p:Nat} (h:p<s.size):Qe s (p:Int)=((p+(Utf8.decode s p).2:Nat):Int):=by
 have hd:=bB s p
 unfold Qe
 rw[zo h]
 by_cases h1:(Utf8.decode s p).2=1∧128≤bt s p
 ·rw[if_pos h1,if_pos rfl,h1.1];rfl
 ·rw[if_neg h1,if_neg (by show ¬((Utf8.decode s p).2:Int)=0;omega)];rfl
theorem KZ {F:Nat->Prop} {w:World} (h:je PG.env F w):Lib.Utf8Tabs 1 2 w:=by
 refine⟨fun c hc=>(h _ _ _ (.head _)).2.1 c hc,fun i hi=>⟨?_,?_⟩⟩
 ·have:=(h _ _ _ (.tail _ (.head _))).2.1 (2*i) (by omega)
  rw[this,if_pos (by omega),show 2*i/2=i by omega]
 ·have:=(h _ _ _ (.tail _ (.head _))).2.1 (2*i+1) (by omega)
  rw[this,if_neg (by omega),show (2*i+1)/2=i by omega]
theorem su {A B:Nat×Nat×(Nat->Value)} {l:List (Nat×Nat×(Nat->Value))} {Q:Nat->Nat->(Nat->Value)->Prop} (h:Q B.1 B.2.1 B.2.2) (k:A∈l->Q A.1 A.2.1 A.2.2):A∈B::l->Q A.1 A.2.1 A.2.2:=fun hm=>by
 rcases List.mem_cons.1 hm with rfl | hm
 ·exact h
 ·exact k hm
theorem K3 {W:World} (h:Lib.Utf8Tabs 1 2 W)
  (hN:∀j,j<13->W.cell? ⟨3,j,none⟩=some (.string (opAt j)))
  (hT:∀j,j<64->W.cell? ⟨4,j,none⟩=some (.int .u8 (xB.getD j 0)))
  (hL:∃m,W.cell? ⟨0,0,none⟩=some (.int .i64 m))
  : je PG.env (fun k=>k<W.heap.size) W:=by
 have lt:∀{b j:Nat} {v:Value},W.cell? ⟨b,j,none⟩=some v->b<W.heap.size:=fun {b j v} hc=>by
  refine Classical.byContradiction fun hn=>?_
  have:W.heap[b]?=none:=Array.getElem?_eq_none (by omega)
  simp [World.cell?,this] at hc
 intro g n f hm
 rcases List.mem_cons.1 hm with e | hm
 ·simp only[adq] at e
  obtain⟨rfl,rfl,rfl⟩:=e
  exact⟨lt (h.1 0 (by omega)),fun j hj=>h.1 j hj,fun h0=>by cases h0⟩
 ·rcases List.mem_cons.1 hm with e | hm
  ·simp only[adq] at e
   obtain⟨rfl,rfl,rfl⟩:=e
   refine⟨lt (h.2 0 (by omega)).1,fun j hj=>?_,fun h0=>by cases h0⟩
   obtain⟨h1,h2⟩:=h.2 (j/2) (by omega)
   by_cases hj2:j%2=0
   ·have e:2*(j/2)=j:=by omega
    dsimp only
    rw[if_pos hj2,←h1,e]
   ·have e:2*(j/2)+1=j:=by omega
    dsimp only
    rw[if_neg hj2,←h2,e]
  ·revert hm
   refine su (A:=(g,n,f)) (Q:=fun g n f=>(g<W.heap.size)∧(∀j,j<n->W.cell? ⟨g,j,none⟩=some (f j))∧(n=0->∃m,W.cell? ⟨g,0,none⟩=some (.int .i64 m))) ?_ ?_
   ·exact⟨lt (hN 0 (by omega)),fun j hj=>hN j hj,fun h0=>by cases h0⟩
   refine su (A:=(g,n,f)) (Q:=fun g n f=>(g<W.heap.size)∧(∀j,j<n->W.cell? ⟨g,j,none⟩=some (f j))∧(n=0->∃m,W.cell? ⟨g,0,none⟩=some (.int .i64 m))) ?_ ?_
   ·exact⟨lt (hT 0 (by omega)),fun j hj=>hT j hj,fun h0=>by cases h0⟩
   refine su (A:=(g,n,f)) (Q:=fun g n f=>(g<W.heap.size)∧(∀j,j<n->W.cell? ⟨g,j,none⟩=some (f j))∧(n=0->∃m,W.cell? ⟨g,0,none⟩=some (.int .i64 m))) ?_ ?_
   ·exact⟨lt hL.choose_spec,fun j hj=>absurd hj (adp _),fun _=>hL⟩
   intro hm;cases hm
theorem Dc (s:ByteArray):Pure PG 81 [vs s] (.tup [.d (.int .i32 ((Lib.decodeGo s).1:Int)),vi ((Lib.decodeGo s).2:Int)]) []:=
 Pure.U8 (vals:=[.string s]) (jk Tryz.func81 (by kernel_rfl) (by kernel_rfl)) rfl rfl rfl rfl fun w F hE=>Tryz.utf8_DecodeRuneInString s w (KZ hE)
theorem extract_data (s:ByteArray) (p:Nat):(s.extract p s.size).data.toList=s.data.toList.drop p:=by
 rw[ByteArray.data_extract,Array.toList_extract]
 show (s.data.toList.drop p).take (s.size-p)=_
 rw[List.take_of_length_le]
 rw[List.length_drop,show s.data.toList.length=s.size from Array.length_toList]
 omega
theorem extract_size (s:ByteArray) (p:Nat):(s.extract p s.size).size=s.size-p:=by
 rw[show (s.extract p s.size).size=(s.extract p s.size).data.toList.length from (Array.length_toList).symm,extract_data,List.length_drop,Array.length_toList]
 rfl
theorem pO (s:ByteArray) (i:Nat):bt s i=(s.data.toList.getD i 0).toNat:=by
 have:=xC s i
 unfold sb at this
 omega
theorem lW (s:ByteArray) (p k:Nat):bt (s.extract p s.size) k=bt s (p+k):=by
 rw[pO,pO,extract_data,adf,adf,List.getElem?_drop]
theorem Vq (sz p a b c d:Nat) (h:p≤sz):dec (sz-p) 0 a b c d=dec sz p a b c d:=by
 unfold dec
 have h1:(0+1<sz-p)↔(p+1<sz):=by omega
 have h2:(0+2<sz-p)↔(p+2<sz):=by omega
 have h3:(0+3<sz-p)↔(p+3<sz):=by omega
 simp only[h1,h2,h3]
theorem K4 {s:ByteArray} {p:Nat} (h:p<s.size):Lib.decodeGo (s.extract p s.size)=Utf8.decode s p:=by
 unfold Lib.decodeGo
 rw[if_neg (by rw[extract_size];omega),bG,bG,extract_size,Vq _ _ _ _ _ _ (by omega)]
 simp only[lW,Nat.zero_add,Nat.add_zero]
theorem qO {s:ByteArray} {p:Nat} (h:p<s.size):(kR s (p:Int)).2=0↔(Utf8.decode s p).1=65533∧(Utf8.decode s p).2=1:=by
 obtain⟨d1,d2,d3⟩:=bB s p
 rw[zo h]
 constructor
 ·intro hz
  split at hz
  ·rename_i hb
   refine⟨?_,hb.1⟩
   rw[bG] at hb ⊢
   exact XJ _ _ _ _ _ _ hb.1 hb.2
  ·have:((Utf8.decode s p).2:Int)=0:=hz
   omega
 ·rintro ⟨h1,h2⟩
  have h128:128≤bt s p:=Classical.byContradiction fun hlt=>by
   rw[bG,dec,if_pos (by omega)] at h1
   have h1':bt s p=65533:=h1
   omega
  rw[if_pos ⟨h2,h128⟩]
structure BW (s:ByteArray) where
 n:Nat
 p:Nat
 fuel:s.size≤p+n
 same:dQ s n p=dQ s s.size 0
 hp:p≤s.size+4
theorem Ht (s:ByteArray) (hs:s.size≤9223372036854775807):Pure PG 35 [vs s] (vi (dQ s s.size 0)) []:=by
 refine aI.mk (cfg 25) av [] Tryz.func35 rfl (by kernel_rfl) rfl rfl rfl ?_
 intro C x
 refine x.loop (α:=BW s) (fun y=>⟨[(0,vs s),(8, .ptr 0 0)],[(0, .iter s y.p)],1⟩) (fun y=>s.size+4-y.p) ⟨s.size,0,by omega,rfl,by omega⟩ rfl tR ?_ (fun y=>?_)
 ·exact⟨⟨rfl,⟨rfl,rfl⟩,tR⟩,⟨⟨rfl,rfl⟩,tR⟩,rfl⟩
 obtain⟨n,p,fuel,same,hp⟩:=y
 change Go C _ ⟨[(0,vs s),(8, .ptr 0 0)],[(0, .iter s p)],1⟩ _
 obtain⟨d1,d2,d3⟩:=bB s p
 refine x.next rfl tR rfl rfl rfl (fun h=>?_) (fun h=>?_)
 ·have h:p<s.size:=h
  refine x.cond rfl tR (fun _=>?_) (fun h1=>by cases h1)
  cases n with
  | zero=>omega
  | succ n=>
   have hz:=qO h
   rw[dQ,if_pos (by omega)] at same
   have hgo:¬(kR s (p:Int)).2=0->(p:Int)+(kR s (p:Int)).2=((p+(Utf8.decode s p).2:Nat):Int):=fun hne=>by
    rw[zo h] at hne ⊢
    split
    ·rename_i hb;rw[if_pos hb] at hne;exact absurd rfl hne
    ·rfl
   have next:¬(kR s (p:Int)).2=0->∃y:BW s,y.p=p+(Utf8.decode s p).2:=fun hne=>by
    rw[if_neg hne,hgo hne] at same
    exact⟨⟨n,p+(Utf8.decode s p).2,by omega,same,by omega⟩,rfl⟩
   refine x.cond rfl tR (fun h2=>?_) (fun h2=>?_)
   ·have h2':(Utf8.decode s p).1=65533:=by
     simp only[adn] at h2
     omega
    refine x.pure rfl ?_ rfl (Dc (s.extract p s.size)) ⟨?_,tR⟩ ?_
    ·simp only[aj];omega
    ·show s.extract (p:Int).toNat (s.size:Int).toNat=s.extract p s.size
     rw[adv,adv]
    rw[K4 h]
    refine x.cond rfl tR (fun h3=>?_) (fun h3=>?_)
    ·have h3':(Utf8.decode s p).2=1:=by
      simp only[adn] at h3
      omega
     rw[if_pos (hz.2 ⟨h2',h3'⟩)] at same
     refine x.exit rfl tR ?_
     refine⟨.inr rfl,?_,tR,rfl⟩
     rw[←same]
     exact rfl
    ·have h3':¬(Utf8.decode s p).2=1:=by
      simp only[adr] at h3
      omega
     obtain⟨y,hy⟩:=next (fun e=>h3' (hz.1 e).2)
     refine x.back rfl tR ⟨y,by show s.size+4-y.p<s.size+4-p;rw[hy];omega,⟨rfl,⟨rfl,rfl⟩,tR⟩,⟨⟨rfl,hy.symm⟩,tR⟩,rfl⟩
   ·have h2':¬(Utf8.decode s p).1=65533:=by
     simp only[adr] at h2
     omega
    obtain⟨y,hy⟩:=next (fun e=>h2' (hz.1 e).1)
    refine x.back rfl tR ⟨y,by show s.size+4-y.p<s.size+4-p;rw[hy];omega,⟨rfl,⟨rfl,rfl⟩,tR⟩,⟨⟨rfl,hy.symm⟩,tR⟩,rfl⟩
 ·have h:¬p<s.size:=h
  refine x.cond rfl tR (fun h1=>by cases h1) (fun _=>?_)
  refine x.exit rfl tR ?_
  refine⟨.inr rfl,?_,tR,rfl⟩
  rw[←same,og (by omega)]
  exact rfl
def qo (r:Int):Bool:=(decide (97≤r)&&decide (r≤122)||decide (65≤r)&&decide (r≤90)||decide (r=95)||decide (945≤r)&&decide (r≤969)||decide (913≤r)&&decide (r≤937)&&!decide (r=930))
def uf (r:Int):Bool:=(decide (48≤r)&&decide (r≤57))
def gH (s:ByteArray):Nat->Nat->Int->Bool
 | 0,_,c=>decide (0<c)
 | n+1,p,c=>if p<s.size then
   if (!qo (Utf8.decode s p).1&&(decide ((p:Int)=0)||!uf (Utf8.decode s p).1))=true then false
   else if 24<c+1 then false else gH s n (p+(Utf8.decode s p).2) (c+1)
  else decide (0<c)
theorem RY {s:ByteArray} {n p:Nat} {c:Int} (h:¬p<s.size):gH s n p c=decide (0<c):=by
 cases n with
 | zero=>rfl
 | succ n=>rw[gH,if_neg h]
structure NI (s:ByteArray) where
 n:Nat
 p:Nat
 c:Int
 fuel:s.size≤p+n
 same:gH s n p c=gH s s.size 0 0
 hc:0≤c∧c≤24
 hp:p≤s.size+4
theorem AB (s:ByteArray) (hs:s.size≤9223372036854775807):Pure PG 118 [vs s] (vb (gH s s.size 0 0)) []:=by
 refine aI.mk (cfg 30) av [] Tryz.func118 rfl (by kernel_rfl) rfl rfl rfl ?_
 intro C x
 refine x.loop (α:=NI s) (fun y=>⟨[(0,vs s),(3,vi y.c),(7, .ptr 0 0)],[(0, .iter s y.p)],1⟩) (fun y=>s.size+4-y.p) ⟨s.size,0,0,by omega,rfl,by omega,by omega⟩ rfl tR ?_ (fun y=>?_)
 ·exact⟨⟨rfl,rfl,⟨rfl,rfl⟩,tR⟩,⟨⟨rfl,rfl⟩,tR⟩,rfl⟩
 obtain⟨n,p,c,fuel,same,hc,hp⟩:=y
 change Go C _ ⟨[(0,vs s),(3,vi c),(7, .ptr 0 0)],[(0, .iter s p)],1⟩ _
 obtain⟨d1,d2,d3⟩:=bB s p
 refine x.next rfl tR rfl rfl rfl (fun h=>?_) (fun h=>?_)
 ·refine x.cond rfl tR (fun _=>?_) (fun h1=>by cases h1)
  refine x.pure rfl tR rfl (Cm _) ⟨rfl,tR⟩ ?_
  refine x.gW rfl tR rfl (fun _ _=>yg _) rfl ⟨rfl,tR⟩ ?_
  cases n with
  | zero=>omega
  | succ n=>
   rw[gH,if_pos h] at same
   refine x.cond rfl tR (fun h2=>?_) (fun h2=>?_)
   ·refine x.exit rfl tR ?_
    refine⟨.inr rfl,?_,tR,rfl⟩
    rw[if_pos (show (!qo (Utf8.decode s p).1&&(decide ((p:Int)=0)||!uf (Utf8.decode s p).1))=true from h2)] at same
    rw[←same]
    exact rfl
   ·rw[if_neg (by rw[show (!qo (Utf8.decode s p).1&&(decide ((p:Int)=0)||!uf (Utf8.decode s p).1))=false from h2];simp)] at same
    refine x.cond rfl (show ak (c+1) by unfold ak;omega) (fun h3=>?_) (fun h3=>?_)
    ·refine x.exit rfl tR ?_
     refine⟨.inr rfl,?_,tR,rfl⟩
     rw[if_pos (by simpa using h3)] at same
     rw[←same]
     exact rfl
    ·rw[if_neg (by simpa using h3)] at same
     refine x.back rfl tR ?_
     refine⟨⟨n,p+(Utf8.decode s p).2,c+1,by omega,same,by simp at h3;omega,by omega⟩,by show s.size+4-(p+(Utf8.decode s p).2)<s.size+4-p;omega,?_⟩
     exact⟨⟨rfl,rfl,⟨rfl,rfl⟩,tR⟩,⟨⟨rfl,rfl⟩,tR⟩,rfl⟩
 ·refine x.cond rfl tR (fun h1=>by cases h1) (fun _=>?_)
  refine x.exit rfl tR ?_
  refine⟨.inr rfl,?_,tR,rfl⟩
  rw[←same,RY h]
  exact rfl
def dl (s:ByteArray):Nat->Nat->List (Nat×Nat×Nat)
 | 0,_=>[]
 | n+1,p=>if p<s.size then (p,(Utf8.decode s p).1,(Utf8.decode s p).2)::dl s n (p+(Utf8.decode s p).2) else []
theorem EN {s:ByteArray} {n p:Nat} (h:¬p<s.size):dl s n p=[]:=by
 cases n with
 | zero=>rfl
 | succ n=>rw[dl,if_neg h]
theorem Ji (s:ByteArray):∀(n m p:Nat),s.size≤p+n->s.size≤p+m->dl s n p=dl s m p
 | 0,m,p,h1,h2=>by rw[EN (by omega),EN (by omega)]
 | n+1,0,p,h1,h2=>by rw[EN (by omega),EN (by omega)]
 | n+1,m+1,p,h1,h2=>by
  have:=bB s p
  rw[dl,dl,Ji s n m _ (by omega) (by omega)]
theorem K5 (s:ByteArray):∀(n p:Nat) (c:Int),s.size≤p+n->mQ s n p c=c+(dl s n p).length
 | 0,p,c,h=>by simp [mQ,dl]
 | n+1,p,c,h=>by
  have:=bB s p
  rw[mQ,dl]
  by_cases hp:p<s.size
  ·rw[if_pos (by omega),if_pos hp,EM hp,K5 s n _ _ (by omega)]
   simp
   omega
  ·rw[if_neg (by omega),if_neg hp]
   simp
def okR (x:Nat×Nat×Nat):Bool:=!(decide (x.2.1=65533)&&decide (x.2.2=1))
theorem Vr (s:ByteArray):∀(n p:Nat),s.size≤p+n->(dQ s n p<0↔dQ s n p=-1)∧(dQ s n p=-1↔(dl s n p).all okR=true)
 | 0,p,h=>by simp [dQ,dl]
 | n+1,p,h=>by
  have:=bB s p
  rw[dQ,dl]
  by_cases hp:p<s.size
  ·have hz:=qO hp
   rw[if_pos (by omega),if_pos hp]
   by_cases h0:(kR s (p:Int)).2=0
   ·rw[if_pos h0]
    have:=hz.1 h0
    simp only[List.all_cons,okR,this]
    simp
   ·rw[if_neg h0]
    have hgo:(p:Int)+(kR s (p:Int)).2=((p+(Utf8.decode s p).2:Nat):Int):=by
     rw[zo hp] at h0 ⊢
     split
     ·rename_i hb;rw[if_pos hb] at h0;exact absurd rfl h0
     ·rfl
    have ih:=Vr s n (p+(Utf8.decode s p).2) (by omega)
    rw[hgo]
    refine⟨ih.1,?_⟩
    rw[ih.2,List.all_cons,show okR (p,(Utf8.decode s p).1,(Utf8.decode s p).2)=true from ?_,Bool.true_and]
    simp only[okR,adt,Bool.and_eq_false_iff,adr]
    by_cases e:(Utf8.decode s p).1=65533
    ·exact .inr fun e2=>h0 (hz.2 ⟨e,e2⟩)
    ·exact .inl e
  ·rw[if_neg (by omega),if_neg hp]
   simp
theorem Vs {sz sz' p a b c d b' c' d':Nat} (h:¬((dec sz p a b c d).1=65533∧(dec sz p a b c d).2=1)) (hb:p+1<sz->b'=b) (hc:p+2<sz->c'=c) (hd:p+3<sz->d'=d) (hs:sz≤sz'):dec sz' p a b' c' d'=dec sz p a b c d:=by
 unfold dec at *
 by_cases h1:a<128
 ·rw[if_pos h1,if_pos h1]
 rw[if_neg h1] at h ⊢
 rw[if_neg h1]
 by_cases h2:a/32=6∧p+1<sz∧b/64=2
 ·obtain rfl:=hb h2.2.1
  rw[if_pos h2,if_pos (by omega)]
 rw[if_neg h2] at h ⊢
 by_cases h3:a/16=14∧p+1<sz∧b/64=2∧p+2<sz∧c/64=2
 ·obtain rfl:=hb h3.2.1
  obtain rfl:=hc h3.2.2.2.1
  rw[if_pos h3,if_neg (by omega),if_pos (by omega)]
 rw[if_neg h3] at h ⊢
 by_cases h4:a/8=30∧p+1<sz∧b/64=2∧p+2<sz∧c/64=2∧p+3<sz∧d/64=2
 ·obtain rfl:=hb h4.2.1
  obtain rfl:=hc h4.2.2.2.1
  obtain rfl:=hd h4.2.2.2.2.2.1
  rw[if_pos h4,if_neg (by omega),if_neg (by omega),if_pos (by omega)]
 rw[if_neg h4] at h
 exact absurd ⟨rfl,rfl⟩ h
theorem Vt (sz p a b c d:Nat) (h:p<sz):p+(dec sz p a b c d).2≤sz:=by
 unfold dec
 repeat' split
 all_goals (simp only;omega)
theorem iW (s:ByteArray):s.size=s.data.toList.length:=(Array.length_toList).symm
theorem fJ (a b:ByteArray):(a++b).data.toList=a.data.toList++b.data.toList:=by rw[ByteArray.data_append,Array.toList_append]
theorem bF (a b:ByteArray):(a++b).size=a.size+b.size:=by rw[iW,fJ,List.length_append,←iW,←iW]
theorem eO {a b:ByteArray} {i:Nat} (h:i<a.size):bt (a++b) i=bt a i:=by
 rw[iW] at h
 rw[pO,pO,fJ,adf,adf,List.getElem?_append_left h]
theorem mE (a b:ByteArray) (i:Nat):bt (a++b) (a.size+i)=bt b i:=by
 rw[pO,pO,fJ,adf,adf,iW a,List.getElem?_append_right (by omega)]
 congr 3
 omega
theorem Hu (sz p k a b c d:Nat):dec (k+sz) (k+p) a b c d=dec sz p a b c d:=by
 unfold dec
 have h1:(k+p+1<k+sz)↔(p+1<sz):=by omega
 have h2:(k+p+2<k+sz)↔(p+2<sz):=by omega
 have h3:(k+p+3<k+sz)↔(p+3<sz):=by omega
 simp only[h1,h2,h3]
theorem sw (a b:ByteArray) (p:Nat):Utf8.decode (a++b) (a.size+p)=Utf8.decode b p:=by
 have b1:=mE a b (p+1)
 have b2:=mE a b (p+2)
 have b3:=mE a b (p+3)
 rw[←Nat.add_assoc] at b1 b2 b3
 rw[bG,bG,bF,b1,b2,b3,mE,Hu]
theorem K6 {a:ByteArray} (b:ByteArray) {p:Nat} (hp:p<a.size) (h:¬((Utf8.decode a p).1=65533∧(Utf8.decode a p).2=1)):Utf8.decode (a++b) p=Utf8.decode a p:=by
 rw[bG] at h
 rw[bG,bG,bF,eO hp]
 exact Vs h (fun hh=>eO hh) (fun hh=>eO hh) (fun hh=>eO hh) (Nat.le_add_right _ _)
theorem pQ {s:ByteArray} {p:Nat} (h:p<s.size):p+(Utf8.decode s p).2≤s.size:=by
 rw[bG]
 exact Vt _ _ _ _ _ _ h
def shR (k:Nat) (x:Nat×Nat×Nat):Nat×Nat×Nat:=(k+x.1,x.2.1,x.2.2)
theorem EO (a b:ByteArray):∀(n p:Nat),dl (a++b) n (a.size+p)=(dl b n p).map (shR a.size)
 | 0,p=>rfl
 | n+1,p=>by
  rw[dl,dl,sw,bF]
  by_cases h:p<b.size
  ·rw[if_pos (by omega),if_pos h,List.map_cons,Nat.add_assoc,EO a b n]
   rfl
  ·rw[if_neg (by omega),if_neg h]
   rfl
theorem Vu (a b:ByteArray):∀(n p:Nat),p≤a.size->a.size≤p+n->(dl a n p).all okR=true->dl (a++b) (n+b.size) p=dl a n p++(dl b b.size 0).map (shR a.size)
 | 0,p,h1,h2,h3=>by
  obtain rfl:p=a.size:=by omega
  have:=EO a b b.size 0
  rw[Nat.add_zero] at this
  rw[Nat.zero_add,this]
  rfl
 | n+1,p,h1,h2,h3=>by
  by_cases hp:p<a.size
  ·rw[dl,if_pos hp] at h3
   rw[show dl a (n+1) p=(p,(Utf8.decode a p).1,(Utf8.decode a p).2)::dl a n (p+(Utf8.decode a p).2) by rw[dl,if_pos hp]]
   simp only[List.all_cons,adg] at h3
   have hd:=K6 (a:=a) b hp (by
    have:=h3.1
    simp only[okR,adt,Bool.and_eq_false_iff,adr] at this
    rintro ⟨e1,e2⟩
    rcases this with h | h
    ·exact h e1
    ·exact h e2)
   have hr:=pQ hp
   have:=bB a p
   rw[show n+1+b.size=(n+b.size)+1 by omega,dl,if_pos (by rw[bF];omega),hd,Vu a b n _ hr (by omega) h3.2]
   rfl
  ·obtain rfl:p=a.size:=by omega
   have h4:dl (a++b) (n+1+b.size) a.size=_:=EO a b (n+1+b.size) 0
   rw[h4,EN (s:=a) hp,Ji b (n+1+b.size) b.size 0 (by omega) (by omega)]
   rfl
def rl (s:ByteArray):List (Nat×Nat×Nat):=dl s s.size 0
theorem Vv {a:ByteArray} (b:ByteArray) (h:(rl a).all okR=true):rl (a++b)=rl a++(rl b).map (shR a.size):=by
 unfold rl at *
 rw[Ji (a++b) (a++b).size (a.size+b.size) 0 (by omega) (by rw[bF];omega)]
 exact Vu a b a.size 0 (by omega) (by omega) h
theorem Vw (s:ByteArray):(dQ s s.size 0=-1↔(rl s).all okR=true)∧(dQ s s.size 0<0↔(rl s).all okR=true):=by
 have:=Vr s s.size 0 (by omega)
 exact⟨this.2,this.1.trans this.2⟩
theorem Vx (s:ByteArray):mQ s s.size 0 0=(rl s).length:=by
 have:=K5 s s.size 0 0 (by omega)
 rw[Int.zero_add] at this
 exact this
def EP:List (List UInt8):=[[97,114,114,97,121],[102,110],[99,111,110,115,116],[112,104,105],[108,111,97,100],[119,114,97,112],[115,116,111,114,101],[99,97,108,108],[105,110,112,117,116],[111,117,116,112,117,116],[114,101,108,101,97,115,101],[106,117,109,112],[98,114,97,110,99,104],[114,101,116,117,114,110],[97,100,100],[115,117,98],[109,117,108],[100,105,118],[109,111,100],[97,110,100],[111,114],[120,111,114],[115,104,108],[115,104,114],[101,113],[108,101,115,115]]
def pR (s:ByteArray):Bool:=decide (s.data.toList∈EP)
theorem cK {s:ByteArray} {l:List UInt8} (h:s.data.toList=l) (hl:l∈EP):pR s=true:=by
 unfold pR;rw[h];exact decide_eq_true hl
theorem AJ (s:ByteArray):Pure PG 119 [vs s] (vb (pR s)) []:=by
 refine aI.mk (cfg 32) av [] Tryz.func119 rfl (by kernel_rfl) rfl rfl rfl ?_
 intro C x
 refine x.cond rfl tR (fun h=>?_) (fun a0=>?_)
 ·refine x.cond rfl tR (fun _=>?_) (fun h2=>?_)
  ·refine x.exit rfl tR ?_
   refine⟨.inr rfl,?_,tR,rfl⟩
   exact (cK (adi h) (l:=[97,114,114,97,121]) (by decide)).symm
  ·exact absurd (h.symm.trans h2) (by simp)
 have a0:¬s.data.toList=[97,114,114,97,121]:=adj a0
 refine x.cond rfl tR (fun h=>?_) (fun a1=>?_)
 ·refine x.cond rfl tR (fun _=>?_) (fun h2=>?_)
  ·refine x.exit rfl tR ?_
   refine⟨.inr rfl,?_,tR,rfl⟩
   exact (cK (adi h) (l:=[102,110]) (by decide)).symm
  ·exact absurd (h.symm.trans h2) (by simp)
 have a1:¬s.data.toList=[102,110]:=adj a1
 refine x.cond rfl tR (fun h=>?_) (fun a2=>?_)
 ·refine x.cond rfl tR (fun _=>?_) (fun h2=>?_)
  ·refine x.exit rfl tR ?_
   refine⟨.inr rfl,?_,tR,rfl⟩
   exact (cK (adi h) (l:=[99,111,110,115,116]) (by decide)).symm
  ·exact absurd (h.symm.trans h2) (by simp)
 have a2:¬s.data.toList=[99,111,110,115,116]:=adj a2
 refine x.cond rfl tR (fun h=>?_) (fun a3=>?_)
 ·refine x.cond rfl tR (fun _=>?_) (fun h2=>?_)
  ·refine x.exit rfl tR ?_
   refine⟨.inr rfl,?_,tR,rfl⟩
   exact (cK (adi h) (l:=[112,104,105]) (by decide)).symm
  ·exact absurd (h.symm.trans h2) (by simp)
 have a3:¬s.data.toList=[112,104,105]:=adj a3
 refine x.cond rfl tR (fun h=>?_) (fun a4=>?_)
 ·refine x.cond rfl tR (fun _=>?_) (fun h2=>?_)
  ·refine x.exit rfl tR ?_
   refine⟨.inr rfl,?_,tR,rfl⟩
   exact (cK (adi h) (l:=[108,111,97,100]) (by decide)).symm
  ·exact absurd (h.symm.trans h2) (by simp)
 have a4:¬s.data.toList=[108,111,97,100]:=adj a4
 refine x.cond rfl tR (fun h=>?_) (fun a5=>?_)
 ·refine x.cond rfl tR (fun _=>?_) (fun h2=>?_)
  ·refine x.exit rfl tR ?_
   refine⟨.inr rfl,?_,tR,rfl⟩
   exact (cK (adi h) (l:=[119,114,97,112]) (by decide)).symm
  ·exact absurd (h.symm.trans h2) (by simp)
 have a5:¬s.data.toList=[119,114,97,112]:=adj a5
 refine x.cond rfl tR (fun h=>?_) (fun a6=>?_)
 ·refine x.cond rfl tR (fun _=>?_) (fun h2=>?_)
  ·refine x.exit rfl tR ?_
   refine⟨.inr rfl,?_,tR,rfl⟩
   exact (cK (adi h) (l:=[115,116,111,114,101]) (by decide)).symm
  ·exact absurd (h.symm.trans h2) (by simp)
 have a6:¬s.data.toList=[115,116,111,114,101]:=adj a6
 refine x.cond rfl tR (fun h=>?_) (fun a7=>?_)
 ·refine x.cond rfl tR (fun _=>?_) (fun h2=>?_)
  ·refine x.exit rfl tR ?_
   refine⟨.inr rfl,?_,tR,rfl⟩
   exact (cK (adi h) (l:=[99,97,108,108]) (by decide)).symm
  ·exact absurd (h.symm.trans h2) (by simp)
 have a7:¬s.data.toList=[99,97,108,108]:=adj a7
 refine x.cond rfl tR (fun h=>?_) (fun a8=>?_)
 ·refine x.cond rfl tR (fun _=>?_) (fun h2=>?_)
  ·refine x.exit rfl tR ?_
   refine⟨.inr rfl,?_,tR,rfl⟩
   exact (cK (adi h) (l:=[105,110,112,117,116]) (by decide)).symm
  ·exact absurd (h.symm.trans h2) (by simp)
 have a8:¬s.data.toList=[105,110,112,117,116]:=adj a8
 refine x.cond rfl tR (fun h=>?_) (fun a9=>?_)
 ·refine x.cond rfl tR (fun _=>?_) (fun h2=>?_)
  ·refine x.exit rfl tR ?_
   refine⟨.inr rfl,?_,tR,rfl⟩
   exact (cK (adi h) (l:=[111,117,116,112,117,116]) (by decide)).symm
  ·exact absurd (h.symm.trans h2) (by simp)
 have a9:¬s.data.toList=[111,117,116,112,117,116]:=adj a9
 refine x.cond rfl tR (fun h=>?_) (fun a10=>?_)
 ·refine x.cond rfl tR (fun _=>?_) (fun h2=>?_)
  ·refine x.exit rfl tR ?_
   refine⟨.inr rfl,?_,tR,rfl⟩
   exact (cK (adi h) (l:=[114,101,108,101,97,115,101]) (by decide)).symm
  ·exact absurd (h.symm.trans h2) (by simp)
 have a10:¬s.data.toList=[114,101,108,101,97,115,101]:=adj a10
 refine x.cond rfl tR (fun h=>?_) (fun a11=>?_)
 ·refine x.cond rfl tR (fun _=>?_) (fun h2=>?_)
  ·refine x.exit rfl tR ?_
   refine⟨.inr rfl,?_,tR,rfl⟩
   exact (cK (adi h) (l:=[106,117,109,112]) (by decide)).symm
  ·exact absurd (h.symm.trans h2) (by simp)
 have a11:¬s.data.toList=[106,117,109,112]:=adj a11
 refine x.cond rfl tR (fun h=>?_) (fun a12=>?_)
 ·refine x.cond rfl tR (fun _=>?_) (fun h2=>?_)
  ·refine x.exit rfl tR ?_
   refine⟨.inr rfl,?_,tR,rfl⟩
   exact (cK (adi h) (l:=[98,114,97,110,99,104]) (by decide)).symm
  ·exact absurd (h.symm.trans h2) (by simp)
 have a12:¬s.data.toList=[98,114,97,110,99,104]:=adj a12
 refine x.cond rfl tR (fun h=>?_) (fun a13=>?_)
 ·refine x.exit rfl tR ?_
  refine⟨.inr rfl,?_,tR,rfl⟩
  exact (cK (adi h) (l:=[114,101,116,117,114,110]) (by decide)).symm
 have a13:¬s.data.toList=[114,101,116,117,114,110]:=adj a13
 refine x.cond rfl tR (fun h=>?_) (fun b0=>?_)
 ·refine x.cond rfl tR (fun _=>?_) (fun h2=>?_)
  ·refine x.exit rfl tR ?_
   refine⟨.inr rfl,?_,tR,rfl⟩
   exact (cK (adi h) (l:=[97,100,100]) (by decide)).symm
  ·exact absurd (h.symm.trans h2) (by simp)
 have b0:¬s.data.toList=[97,100,100]:=adj b0
 refine x.cond rfl tR (fun h=>?_) (fun b1=>?_)
 ·refine x.cond rfl tR (fun _=>?_) (fun h2=>?_)
  ·refine x.exit rfl tR ?_
   refine⟨.inr rfl,?_,tR,rfl⟩
   exact (cK (adi h) (l:=[115,117,98]) (by decide)).symm
  ·exact absurd (h.symm.trans h2) (by simp)
 have b1:¬s.data.toList=[115,117,98]:=adj b1
 refine x.cond rfl tR (fun h=>?_) (fun b2=>?_)
 ·refine x.cond rfl tR (fun _=>?_) (fun h2=>?_)
  ·refine x.exit rfl tR ?_
   refine⟨.inr rfl,?_,tR,rfl⟩
   exact (cK (adi h) (l:=[109,117,108]) (by decide)).symm
  ·exact absurd (h.symm.trans h2) (by simp)
 have b2:¬s.data.toList=[109,117,108]:=adj b2
 refine x.cond rfl tR (fun h=>?_) (fun b3=>?_)
 ·refine x.cond rfl tR (fun _=>?_) (fun h2=>?_)
  ·refine x.exit rfl tR ?_
   refine⟨.inr rfl,?_,tR,rfl⟩
   exact (cK (adi h) (l:=[100,105,118]) (by decide)).symm
  ·exact absurd (h.symm.trans h2) (by simp)
 have b3:¬s.data.toList=[100,105,118]:=adj b3
 refine x.cond rfl tR (fun h=>?_) (fun b4=>?_)
 ·refine x.cond rfl tR (fun _=>?_) (fun h2=>?_)
  ·refine x.exit rfl tR ?_
   refine⟨.inr rfl,?_,tR,rfl⟩
   exact (cK (adi h) (l:=[109,111,100]) (by decide)).symm
  ·exact absurd (h.symm.trans h2) (by simp)
 have b4:¬s.data.toList=[109,111,100]:=adj b4
 refine x.cond rfl tR (fun h=>?_) (fun b5=>?_)
 ·refine x.cond rfl tR (fun _=>?_) (fun h2=>?_)
  ·refine x.exit rfl tR ?_
   refine⟨.inr rfl,?_,tR,rfl⟩
   exact (cK (adi h) (l:=[97,110,100]) (by decide)).symm
  ·exact absurd (h.symm.trans h2) (by simp)
 have b5:¬s.data.toList=[97,110,100]:=adj b5
 refine x.cond rfl tR (fun h=>?_) (fun b6=>?_)
 ·refine x.cond rfl tR (fun _=>?_) (fun h2=>?_)
  ·refine x.exit rfl tR ?_
   refine⟨.inr rfl,?_,tR,rfl⟩
   exact (cK (adi h) (l:=[111,114]) (by decide)).symm
  ·exact absurd (h.symm.trans h2) (by simp)
 have b6:¬s.data.toList=[111,114]:=adj b6
 refine x.cond rfl tR (fun h=>?_) (fun b7=>?_)
 ·refine x.cond rfl tR (fun _=>?_) (fun h2=>?_)
  ·refine x.exit rfl tR ?_
   refine⟨.inr rfl,?_,tR,rfl⟩
   exact (cK (adi h) (l:=[120,111,114]) (by decide)).symm
  ·exact absurd (h.symm.trans h2) (by simp)
 have b7:¬s.data.toList=[120,111,114]:=adj b7
 refine x.cond rfl tR (fun h=>?_) (fun b8=>?_)
 ·refine x.cond rfl tR (fun _=>?_) (fun h2=>?_)
  ·refine x.exit rfl tR ?_
   refine⟨.inr rfl,?_,tR,rfl⟩
   exact (cK (adi h) (l:=[115,104,108]) (by decide)).symm
  ·exact absurd (h.symm.trans h2) (by simp)
 have b8:¬s.data.toList=[115,104,108]:=adj b8
 refine x.cond rfl tR (fun h=>?_) (fun b9=>?_)
 ·refine x.cond rfl tR (fun _=>?_) (fun h2=>?_)
  ·refine x.exit rfl tR ?_
   refine⟨.inr rfl,?_,tR,rfl⟩
   exact (cK (adi h) (l:=[115,104,114]) (by decide)).symm
  ·exact absurd (h.symm.trans h2) (by simp)
 have b9:¬s.data.toList=[115,104,114]:=adj b9
 refine x.cond rfl tR (fun h=>?_) (fun b10=>?_)
 ·refine x.cond rfl tR (fun _=>?_) (fun h2=>?_)
  ·refine x.exit rfl tR ?_
   refine⟨.inr rfl,?_,tR,rfl⟩
   exact (cK (adi h) (l:=[101,113]) (by decide)).symm
  ·exact absurd (h.symm.trans h2) (by simp)
 have b10:¬s.data.toList=[101,113]:=adj b10
 refine x.cond rfl tR (fun h=>?_) (fun b11=>?_)
 ·refine x.exit rfl tR ?_
  refine⟨.inr rfl,?_,tR,rfl⟩
  exact (cK (adi h) (l:=[108,101,115,115]) (by decide)).symm
 have b11:¬s.data.toList=[108,101,115,115]:=adj b11
 refine x.exit rfl tR ?_
 refine⟨.inr rfl,?_,tR,rfl⟩
 show false=pR s
 rw[eq_comm]
 unfold pR EP
 rw[adr]
 simp only[List.mem_cons,List.not_mem_nil,or_false,not_or]
 exact⟨a0,a1,a2,a3,a4,a5,a6,a7,a8,a9,a10,a11,a12,a13,b0,b1,b2,b3,b4,b5,b6,b7,b8,b9,b10,b11⟩
def tT (c:Nat):Bool:=(((((((decide (c=40)||decide (c=41))||decide (c=123))||decide (c=125))||decide (c=91))||decide (c=93))||decide (c=44))||decide (c=58))||decide (c=61)
def pU (s:ByteArray) (p:Nat):Bool:=decide (p<s.size)&&(decide (48≤bt s p)&&decide (bt s p≤57))
theorem uS (s:ByteArray) (c:Int):Pure PG 147 [vs s, .d (.int .u8 c)] (vi (Lib.indexByte s.data.toList c.toNat.toUInt8)) []:=
 Pure.U8 (vals:=[.string s, .int .u8 c]) (jk Tryz.func147 (by kernel_rfl) (by kernel_rfl)) rfl rfl rfl rfl fun w F hE=>(Tryz.strings_IndexByte s c w).mono fun e w' ⟨h1,h2⟩=>⟨h1,by subst h2;exact Go.RowKit.Below.refl _ _⟩
theorem K7 {c:UInt8}:∀{l:List UInt8},0≤Lib.indexByte l c->(Lib.indexByte l c).toNat<l.length∧l.getD (Lib.indexByte l c).toNat 0=c∧∀j,j<(Lib.indexByte l c).toNat->l.getD j 0≠c
 | [],h=>by exact absurd h (by unfold Lib.indexByte;omega)
 | b::l,h=>by
  unfold Lib.indexByte at h ⊢
  split at h
  ·rename_i hb
   rw[if_pos hb]
   refine⟨by simp,by simpa using hb,fun j hj=>absurd hj (adp _)⟩
  ·rename_i hb
   rw[if_neg hb]
   split at h
   ·omega
   ·rename_i h2
    rw[if_neg h2]
    have hge:=Lib.indexByte_ge l c
    have h2:¬Lib.indexByte l c=-1:=by simpa using h2
    obtain⟨h3,h4,h5⟩:=K7 (l:=l) (c:=c) (by omega)
    have e:(Lib.indexByte l c+1).toNat=(Lib.indexByte l c).toNat+1:=by omega
    rw[e]
    refine⟨by simpa using h3,by simpa using h4,fun j hj=>?_⟩
    match j with
    | 0=>simpa using hb
    | j+1=>simpa using h5 j (by omega)
theorem K8 {c:UInt8}:∀{l:List UInt8},Lib.indexByte l c<0->∀j,j<l.length->l.getD j 0≠c
 | [],h,j,hj=>absurd hj (adp _)
 | b::l,h,j,hj=>by
  unfold Lib.indexByte at h
  split at h
  ·omega
  ·rename_i hb
   split at h
   ·rename_i h2
    have h2:Lib.indexByte l c=-1:=by simpa using h2
    match j with
    | 0=>simpa using hb
    | j+1=>simpa using K8 (l:=l) (c:=c) (by omega) j (by simpa using hj)
   ·have hge:=Lib.indexByte_ge l c
    rename_i h2
    have h2:¬Lib.indexByte l c=-1:=by simpa using h2
    omega
def nextR (c:Nat) (rm:Bool):Bool:=if c=10 then false else if c=35 then true else rm
def tV (rm:Bool) (c:Nat):Bool:=((!rm&&!decide (c=32))&&!decide (c=9))&&!decide (c=10)
def skF (s:ByteArray):Nat->Bool->Nat->Nat
 | 0,_,p=>p
 | n+1,rm,p=>if p<s.size then (if tV (nextR (bt s p) rm) (bt s p) then p else skF s n (nextR (bt s p) rm) (p+1)) else p
theorem zq (s:ByteArray):∀(n m:Nat) (rm:Bool) (p:Nat),s.size≤p+n->s.size≤p+m->skF s n rm p=skF s m rm p
 | 0,0,_,_,_,_=>rfl
 | 0,m+1,rm,p,h,_=>by rw[skF,skF,if_neg (by omega)]
 | n+1,0,rm,p,_,h=>by rw[skF,skF,if_neg (by omega)]
 | n+1,m+1,rm,p,h1,h2=>by
  rw[skF,skF]
  split
  ·split
   ·rfl
   ·exact zq s n m _ _ (by omega) (by omega)
  ·rfl
def skV (s:ByteArray) (rm:Bool) (p:Nat):Nat:=skF s s.size rm p
theorem pV {s:ByteArray} {rm:Bool} {p:Nat} (h:s.size≤p):skV s rm p=p:=by
 unfold skV
 rw[zq s s.size 0 rm p (by omega) (by omega),skF]
theorem oh {s:ByteArray} {rm:Bool} {p:Nat} (h:p<s.size):skV s rm p=if tV (nextR (bt s p) rm) (bt s p) then p else skV s (nextR (bt s p) rm) (p+1):=by
 unfold skV
 obtain⟨n,hn⟩:∃n,s.size=n+1:=⟨s.size-1,by omega⟩
 rw[zq s s.size (n+1) rm p (by omega) (by omega),skF,if_pos h,zq s n s.size _ (p+1) (by omega) (by omega)]
theorem AL {s:ByteArray} {rm:Bool} {p:Nat} (h:p<s.size) (hs:tV (nextR (bt s p) rm) (bt s p)=false):skV s rm p=skV s (nextR (bt s p) rm) (p+1):=by
 rw[oh h,if_neg (by rw[hs];simp)]
theorem K9 {s:ByteArray} {rm:Bool} {p:Nat} (h:p<s.size) (hs:tV (nextR (bt s p) rm) (bt s p)=true):skV s rm p=p:=by
 rw[oh h,if_pos hs]
theorem ER (s:ByteArray):∀(n:Nat) (rm:Bool) (p:Nat),s.size≤p+n->p≤s.size->p≤skV s rm p∧skV s rm p≤s.size∧(skV s rm p<s.size->tV false (bt s (skV s rm p))=true∧bt s (skV s rm p)≠35)
 | 0,rm,p,h,hp=>by rw[pV (by omega)];exact⟨by omega,hp,fun h=>by omega⟩
 | n+1,rm,p,h,hp=>by
  by_cases hl:p<s.size
  ·cases hs:tV (nextR (bt s p) rm) (bt s p) with
   | true=>
    rw[K9 hl hs]
    refine⟨Nat.le_refl _,hp,fun _=>?_⟩
    unfold tV at hs
    simp only[adg,adt,adr] at hs
    obtain⟨⟨⟨h1,h2⟩,h3⟩,h4⟩:=hs
    refine⟨?_,fun e=>?_⟩
    ·unfold tV;simp [h2,h3,h4]
    ·rw[e] at h1;simp [nextR] at h1
   | false=>
    rw[AL hl hs]
    have:=ER s n (nextR (bt s p) rm) (p+1) (by omega) (by omega)
    exact⟨by omega,this.2.1,this.2.2⟩
  ·rw[pV (by omega)];exact⟨by omega,hp,fun h=>by omega⟩
theorem ES (s:ByteArray):∀(k p:Nat),p+k<s.size->bt s (p+k)=10->(∀j,j<k->bt s (p+j)≠10)->skV s true p=skV s false (p+k+1)
 | 0,p,h,h10,_=>by
  have h10:bt s p=10:=h10
  have h:p<s.size:=h
  rw[AL h (by rw[h10];rfl),h10];rfl
 | k+1,p,h,h10,hno=>by
  have h0:bt s p≠10:=hno 0 (by omega)
  have e:nextR (bt s p) true=true:=by unfold nextR;rw[if_neg h0];split<;>rfl
  rw[AL (by omega) (by rw[e];rfl),e,ES s k (p+1) (by omega) (by rw[←h10];congr 1;omega) (fun j hj=>by rw[show p+1+j=p+(j+1) by omega];exact hno (j+1) (by omega))]
  congr 1
  omega
theorem uT (s:ByteArray):∀(n p:Nat),s.size≤p+n->p≤s.size->(∀j,p≤j->j<s.size->bt s j≠10)->skV s true p=s.size
 | 0,p,h,hp,_=>by rw[pV (by omega)];omega
 | n+1,p,h,hp,hno=>by
  by_cases hl:p<s.size
  ·have h0:=hno p (Nat.le_refl _) hl
   have e:nextR (bt s p) true=true:=by unfold nextR;rw[if_neg h0];split<;>rfl
   rw[AL hl (by rw[e];rfl),e]
   exact uT s n (p+1) (by omega) (by omega) fun j h1 h2=>hno j (by omega) h2
  ·rw[pV (by omega)];omega
theorem RZ (s:ByteArray) (p0:Nat) (hs:s.size≤9223372036854775807) (hp0:p0≤s.size):Pure PG 146 [vs s,vi (p0:Int)] (vi (skV s false p0:Int)) []:=by
 refine aI.mk (cfg 34) av [] Tryz.func146 rfl (by kernel_rfl) rfl rfl rfl ?_
 intro C x
 refine x.loop (α:={p:Nat // p≤s.size∧skV s false p=skV s false p0}) (fun y=>⟨[(0,vs s),(1,vi (y.1:Int))],[],0⟩) (fun y=>s.size-y.1) ⟨p0,hp0,rfl⟩ rfl tR ⟨⟨rfl,rfl,tR⟩,tR,rfl⟩ (fun y=>?_)
 obtain⟨p,hp,same⟩:=y
 change Go C _ ⟨[(0,vs s),(1,vi (p:Int))],[],0⟩ _
 refine x.cond rfl tR (fun h1=>?_) (fun h1=>?_)
 ·have h1:p<s.size:=by have:=adi h1;omega
  have ec:sb s ((p:Int)).toNat=(bt s p:Int):=xC s p
  refine x.cond rfl ?_ (fun h2=>?_) (fun h2=>?_)
  ·simp only[aj];omega
  ·have h2:bt s p=35:=by have h2:sb s ((p:Int)).toNat=35:=adi h2;omega
   have e1:nextR (bt s p) false=true:=by rw[h2];rfl
   have g1:=AL (rm:=false) h1 (by rw[e1,h2];rfl)
   rw[e1] at g1
   refine x.pure rfl ?_ rfl (uS (s.extract p s.size) 10) ⟨rfl,rfl,tR⟩ ?_
   ·simp only[aj];omega
   obtain⟨n,hn⟩:∃n,Lib.indexByte (s.extract p s.size).data.toList (10:Int).toNat.toUInt8=n:=⟨_,rfl⟩
   rw[hn]
   have hlen:(s.extract p s.size).data.toList.length=s.size-p:=by
    rw[extract_data,List.length_drop,←iW]
   have hbt:∀j,((s.extract p s.size).data.toList.getD j 0).toNat=bt s (p+j):=fun j=>by rw[←pO,lW]
   refine x.cond rfl tR (fun h3=>?_) (fun h3=>?_)
   ·have h3:n<0:=adi h3
    have hno:=K8 (by rw[hn];exact h3)
    refine x.exit rfl tR ?_
    refine⟨.inr rfl,?_,tR,rfl⟩
    show (s.size:Int)=(skV s false p0:Int)
    rw[←same,g1,uT s s.size (p+1) (by omega) (by omega)]
    intro j hj1 hj2 e
    refine hno (j-p) (by omega) ?_
    have:=hbt (j-p)
    rw[show p+(j-p)=j by omega,e] at this
    exact UInt8.toNat_inj.1 this
   ·have h3:0≤n:=by have:=adj h3;omega
    obtain⟨a1,a2,a3⟩:=K7 (by rw[hn];exact h3)
    rw[hn] at a1 a2 a3
    have b2:bt s (p+n.toNat)=10:=by rw[←hbt,a2];rfl
    have b3:∀j,j<n.toNat->bt s (p+j)≠10:=fun j hj e=>by
     refine a3 j hj ?_
     have:=hbt j
     rw[e] at this
     exact UInt8.toNat_inj.1 this
    have hn0:n.toNat≠0:=fun e=>by rw[e,Nat.add_zero] at b2;omega
    obtain⟨m,hm⟩:∃m,n.toNat=m+1:=⟨n.toNat-1,by omega⟩
    have g2:=ES s m (p+1) (by omega) (by rw[show p+1+m=p+n.toNat by omega];exact b2) (fun j hj=>by rw[show p+1+j=p+(j+1) by omega];exact b3 (j+1) (by omega))
    refine x.back rfl ?_ ⟨⟨p+n.toNat+1,by omega,?_⟩,by show s.size-(p+n.toNat+1)<s.size-p;omega,⟨rfl,?_,tR⟩,tR,rfl⟩
    ·simp only[aj,ak];omega
    ·rw[←same,g1,g2];congr 1;omega
    ·show (p:Int)+n+1=((p+n.toNat+1:Nat):Int);omega
  have h2:bt s p≠35:=by have h2:¬sb s ((p:Int)).toNat=35:=adj h2;omega
  have blank:(bt s p=32∨bt s p=9∨bt s p=10)->∃z:{p:Nat // p≤s.size∧skV s false p=skV s false p0},z.1=p+1:=fun hb=>by
   refine⟨⟨p+1,by omega,?_⟩,rfl⟩
   have e1:nextR (bt s p) false=false:=by unfold nextR;rw[if_neg h2];split<;>rfl
   have g1:=AL (rm:=false) h1 (by rw[e1];unfold tV;rcases hb with e | e | e<;>rw[e]<;>rfl)
   rw[←same,g1,e1]
  refine x.cond rfl tR (fun h3=>?_) (fun h3=>?_)
  ·have h3b:bt s p=32:=by have h3:sb s ((p:Int)).toNat=32:=adi h3;omega
   refine x.cond rfl tR (fun _=>?_) (fun h4=>absurd (h3.symm.trans h4) (by simp))
   obtain⟨z,hz⟩:=blank (.inl h3b)
   refine x.back rfl (show ak _ by unfold ak;omega) ⟨z,by show s.size-z.1<s.size-p;omega,⟨rfl,?_,tR⟩,tR,rfl⟩
   show (p:Int)+1=(z.1:Int);omega
  have h3b:bt s p≠32:=by have h3:¬sb s ((p:Int)).toNat=32:=adj h3;omega
  refine x.cond rfl tR (fun h4=>?_) (fun h4=>?_)
  ·have h4b:bt s p=9:=by have h4:sb s ((p:Int)).toNat=9:=adi h4;omega
   refine x.cond rfl tR (fun _=>?_) (fun h5=>absurd (h4.symm.trans h5) (by simp))
   obtain⟨z,hz⟩:=blank (.inr (.inl h4b))
   refine x.back rfl (show ak _ by unfold ak;omega) ⟨z,by show s.size-z.1<s.size-p;omega,⟨rfl,?_,tR⟩,tR,rfl⟩
   show (p:Int)+1=(z.1:Int);omega
  have h4b:bt s p≠9:=by have h4:¬sb s ((p:Int)).toNat=9:=adj h4;omega
  refine x.cond rfl tR (fun h5=>?_) (fun h5=>?_)
  ·have h5b:bt s p=10:=by have h5:sb s ((p:Int)).toNat=10:=adi h5;omega
   obtain⟨z,hz⟩:=blank (.inr (.inr h5b))
   refine x.back rfl (show ak _ by unfold ak;omega) ⟨z,by show s.size-z.1<s.size-p;omega,⟨rfl,?_,tR⟩,tR,rfl⟩
   show (p:Int)+1=(z.1:Int);omega
  have h5b:bt s p≠10:=by have h5:¬sb s ((p:Int)).toNat=10:=adj h5;omega
  refine x.exit rfl tR ?_
  refine⟨.inr rfl,?_,tR,rfl⟩
  show (p:Int)=(skV s false p0:Int)
  rw[←same,K9 h1]
  unfold nextR tV
  rw[if_neg h5b,if_neg h2]
  simp [h3b,h4b,h5b]
 ·have h1:p=s.size:=by have:=adj h1;omega
  refine x.exit rfl tR ?_
  refine⟨.inr rfl,?_,tR,rfl⟩
  show (p:Int)=(skV s false p0:Int)
  rw[←same,pV (by omega)]
end Go.Proofs.YtojhdmfkfkfcbaaGreatDoor
namespace Go.Proofs.YtojhdmfkfkfcbaaGreatDoor
open Go.Sx
set_option linter.unusedVariables false
set_option maxRecDepth 100000
end Go.Proofs.YtojhdmfkfkfcbaaGreatDoor
namespace Go.Proofs.YtojhdmfkfkfcbaaGreatDoor
open Go.Sx
set_option linter.unusedVariables false
set_option linter.unusedSimpArgs false
set_option maxRecDepth 100000
def jE (s:ByteArray) (p:Nat):Bool:=qo (Utf8.decode s p).1||uf (Utf8.decode s p).1
def Jj (s:ByteArray):Nat->Nat->Nat
 | 0,p=>p
 | n+1,p=>if p<s.size then (if jE s p then Jj s n (p+(Utf8.decode s p).2) else p) else p
theorem uU {s:ByteArray} {n p:Nat} (h:s.size≤p):Jj s n p=p:=by
 cases n with
 | zero=>rfl
 | succ n=>rw[Jj,if_neg (by omega)]
theorem AO (s:ByteArray):∀(n m p:Nat),s.size≤p+n->s.size≤p+m->Jj s n p=Jj s m p
 | 0,m,p,h,_=>by rw[uU (by omega),uU (by omega)]
 | n+1,0,p,_,h=>by rw[uU (by omega),uU (by omega)]
 | n+1,m+1,p,h1,h2=>by
  have:=(bB s p).1
  rw[Jj,Jj]
  split
  ·split
   ·exact AO s n m _ (by omega) (by omega)
   ·rfl
  ·rfl
def oV (s:ByteArray) (p:Nat):Nat:=Jj s s.size p
theorem jM {s:ByteArray} {p:Nat} (h:s.size≤p):oV s p=p:=uU h
theorem jB {s:ByteArray} {p:Nat} (h:p<s.size):oV s p=if jE s p then oV s (p+(Utf8.decode s p).2) else p:=by
 unfold oV
 obtain⟨n,hn⟩:∃n,s.size=n+1:=⟨s.size-1,by omega⟩
 have:=(bB s p).1
 rw[AO s s.size (n+1) p (by omega) (by omega),Jj,if_pos h,AO s n s.size _ (by omega) (by omega)]
theorem wz (s:ByteArray):∀(n p:Nat),s.size≤p+n->p≤s.size->p≤oV s p∧oV s p≤s.size
 | 0,p,h,hp=>by rw[jM (by omega)];omega
 | n+1,p,h,hp=>by
  by_cases hl:p<s.size
  ·rw[jB hl]
   split
   ·have h1:=(bB s p).1
    have h2:=pQ hl
    have:=wz s n (p+(Utf8.decode s p).2) (by omega) h2
    omega
   ·omega
  ·rw[jM (by omega)];omega
theorem decode_extract {s:ByteArray} {p:Nat} (hp:p≤s.size) (q:Nat):Utf8.decode (s.extract p s.size) q=Utf8.decode s (p+q):=by
 have h:=Hu (s.size-p) q p (bt s (p+q)) (bt s (p+q+1)) (bt s (p+q+2)) (bt s (p+q+3))
 rw[show p+(s.size-p)=s.size by omega] at h
 rw[bG,bG,extract_size,lW,lW,lW,lW,←Nat.add_assoc,←Nat.add_assoc,←Nat.add_assoc,h]
theorem sD {s:ByteArray} {p:Nat} (hp:p≤s.size):∀(n q:Nat),s.size≤p+q+n->p+oV (s.extract p s.size) q=oV s (p+q)
 | 0,q,h=>by rw[jM (by rw[extract_size];omega),jM (by omega)]
 | n+1,q,h=>by
  by_cases hl:p+q<s.size
  ·rw[jB (by rw[extract_size];omega),jB hl,jE,jE,decode_extract hp]
   have:=(bB s (p+q)).1
   split
   ·rw[sD hp n _ (by omega),Nat.add_assoc]
   ·rfl
  ·rw[jM (by rw[extract_size];omega),jM (by omega)]
theorem La (s:ByteArray) (hs:s.size≤9223372036854775807):Pure PG 148 [vs s] (vi (oV s 0:Int)) []:=by
 refine aI.mk (cfg 22) av [] Tryz.func148 rfl (by kernel_rfl) rfl rfl rfl ?_
 intro C x
 refine x.loop (α:={p:Nat // p≤s.size∧oV s p=oV s 0}) (fun y=>⟨[(0,vs s),(6, .ptr 0 0)],[(0, .iter s y.1)],1⟩) (fun y=>s.size-y.1) ⟨0,by omega,rfl⟩ rfl tR ?_ (fun y=>?_)
 ·exact⟨⟨rfl,⟨rfl,rfl⟩,tR⟩,⟨⟨rfl,rfl⟩,tR⟩,rfl⟩
 obtain⟨p,hp,same⟩:=y
 change Go C _ ⟨[(0,vs s),(6, .ptr 0 0)],[(0, .iter s p)],1⟩ _
 obtain⟨d1,d2,d3⟩:=bB s p
 refine x.next rfl tR rfl rfl rfl (fun h=>?_) (fun h=>?_)
 ·have h:p<s.size:=h
  have hr:=pQ h
  rw[jB h] at same
  refine x.cond rfl tR (fun _=>?_) (fun h1=>by cases h1)
  refine x.pure rfl tR rfl (Cm _) ⟨rfl,tR⟩ ?_
  refine x.gW rfl tR rfl (fun _=>yg _) rfl ⟨rfl,tR⟩ ?_
  refine x.cond rfl tR (fun h2=>?_) (fun h2=>?_)
  ·have h2:(!qo (Utf8.decode s p).1&&!uf (Utf8.decode s p).1)=true:=h2
   have h3:jE s p=false:=by
    unfold jE
    simp only[adg,adt] at h2
    rw[h2.1,h2.2];rfl
   rw[if_neg (by rw[h3];simp)] at same
   refine x.exit rfl tR ?_
   refine⟨.inr rfl,?_,tR,rfl⟩
   rw[←same]
   exact rfl
  ·have h2:(!qo (Utf8.decode s p).1&&!uf (Utf8.decode s p).1)=false:=h2
   have h3:jE s p=true:=by
    unfold jE
    cases e:qo (Utf8.decode s p).1 with
    | true=>rfl
    | false=>rw[e] at h2;simpa using h2
   rw[if_pos h3] at same
   refine x.back rfl tR ⟨⟨p+(Utf8.decode s p).2,hr,same⟩,by show s.size-(p+(Utf8.decode s p).2)<s.size-p;omega,?_⟩
   exact⟨⟨rfl,⟨rfl,rfl⟩,tR⟩,⟨⟨rfl,rfl⟩,tR⟩,rfl⟩
 ·have h:¬p<s.size:=h
  refine x.cond rfl tR (fun h1=>by cases h1) (fun _=>?_)
  refine x.exit rfl tR ?_
  refine⟨.inr rfl,?_,tR,rfl⟩
  rw[jM (by omega)] at same
  show (s.size:Int)=(oV s 0:Int)
  rw[←same];omega
def om (u:Nat):List UInt8:=if u<10 then [UInt8.ofNat (48+u)] else om (u/10)++[UInt8.ofNat (48+u%10)]
termination_by u
decreasing_by omega
theorem sF {u:Nat} (h:u<10):om u=[UInt8.ofNat (48+u)]:=by rw[om,if_pos h]
theorem zu {u:Nat} (h:¬u<10):om u=om (u/10)++[UInt8.ofNat (48+u%10)]:=by rw[om,if_neg h]
def zw (u:Nat):List UInt8:=if u=0 then [] else om u
theorem R4 (u:Nat):zw (u/10)++[UInt8.ofNat (48+u%10)]=om u:=by
 by_cases h:u<10
 ·rw[sF h,zw,if_pos (by omega),Nat.mod_eq_of_lt h];rfl
 ·rw[zu h,zw,if_neg (by omega)]
def sgV (n:Int):List UInt8:=if n<0 then [45] else []
def jD (n:Int):ByteArray:=ba (sgV n++om n.natAbs)
theorem uV:∀(k u:Nat),u<10 ^ (k+1)->(om u).length≤k+1
 | 0,u,h=>by rw[sF (by simpa using h)];simp
 | k+1,u,h=>by
  by_cases hu:u<10
  ·rw[sF hu];simp
  ·rw[zu hu]
   have:=uV k (u/10) (by rw[Nat.pow_succ] at h;omega)
   simp;omega
theorem ET (s p:ByteArray) :
  Pure PG 197 [vs s,vs p] (vb (decide ((p.size:Int)≤s.size)&&decide ((s.extract 0 p.size).data.toList=p.data.toList))) []:=by
 refine aI.mk (cfg 18) av [] Tryz.func197 rfl (by kernel_rfl) rfl rfl rfl ?_
 intro C x
 refine x.exit rfl ?_ ?_
 ·intro h
  exact⟨by omega,by simpa using h⟩
 refine⟨.inr rfl,?_,tR,rfl⟩
 show _=_
 rfl
def cutV (s p:ByteArray):ByteArray×Bool:=if (decide ((p.size:Int)≤s.size)&&decide ((s.extract 0 p.size).data.toList=p.data.toList))=true then (s.extract p.size s.size,true) else (s,false)
theorem R5 (s p:ByteArray):Pure PG 177 [vs s,vs p] (.tup [vs (cutV s p).1,vb (cutV s p).2]) []:=by
 refine aI.mk (cfg 15) av [] Tryz.func177 rfl (by kernel_rfl) rfl rfl rfl ?_
 intro C x
 refine x.pure rfl tR rfl (ET s p) ⟨rfl,rfl,tR⟩ ?_
 refine x.cond rfl tR (fun h=>?_) (fun h=>?_)
 ·refine x.exit rfl tR ?_
  refine⟨.inr rfl,?_,tR,rfl⟩
  rw[cutV,if_neg (by simpa only[adt,Bool.not_eq_true] using h)]
  exact⟨rfl,rfl,tR⟩
 ·have h':(decide ((p.size:Int)≤s.size)&&decide ((s.extract 0 p.size).data.toList=p.data.toList))=true:=by simpa using h
  refine x.exit rfl ?_ ?_
  ·simp only[adg,adn] at h'
   simp only[aj]
   omega
  refine⟨.inr rfl,?_,tR,rfl⟩
  rw[cutV,if_pos h']
  exact⟨rfl,rfl,tR⟩
theorem Vy (s p:ByteArray):Pure PG 139 [vs s,vs p] (.tup [vs (cutV s p).1,vb (cutV s p).2]) []:=by
 refine aI.mk (cfg 11) av [] Tryz.func139 rfl (by kernel_rfl) rfl rfl rfl ?_
 intro C x
 refine x.pure rfl tR rfl (R5 s p) ⟨rfl,rfl,tR⟩ ?_
 refine x.exit rfl tR ?_
 exact⟨.inr rfl,⟨rfl,rfl,tR⟩,tR,rfl⟩
def dv (s:ByteArray):Nat->Nat->Nat->Option Nat
 | 0,_,u=>some u
 | n+1,i,u=>if i<s.size then if 48≤bt s i∧bt s i≤57 then dv s n (i+1) (10*u+(bt s i-48)) else none else some u
theorem Z9 {s:ByteArray} {n i u:Nat} (h:¬i<s.size):dv s n i u=some u:=by
 cases n with
 | zero=>rfl
 | succ n=>rw[dv,if_neg h]
theorem R6 {sz p a b c d:Nat} (h:a<128):dec sz p a b c d=(a,1):=by rw[dec,if_pos h]
theorem Vz {sz p a b c d:Nat} (h:¬a<128):128≤(dec sz p a b c d).1:=by
 unfold dec
 rw[if_neg h]
 split
 ·split
  ·rename_i h;exact h
  ·simp
 split
 ·split
  ·rename_i h;exact Nat.le_trans (by omega) h.1
  ·simp
 split
 ·split
  ·rename_i h;exact Nat.le_trans (by omega) h.1
  ·simp
 ·simp
theorem decode_ascii {s:ByteArray} {p:Nat} (h:bt s p<128):Utf8.decode s p=(bt s p,1):=by rw[bG];exact R6 h
theorem decode_high {s:ByteArray} {p:Nat} (h:¬bt s p<128):128≤(Utf8.decode s p).1:=by rw[bG];exact Vz h
def eT (s:ByteArray):Int×Bool:=
 let d:=(cutV s ⟨#[45]⟩).1
 let neg:=(cutV s ⟨#[45]⟩).2
 if d.size=0∨19<d.size∨(bt d 0=48∧(neg=true∨1<d.size)) then (0,false)
 else match dv d d.size 0 0 with
  | none=>(0,false)
  | some u=>if neg=true∧u≤9223372036854775808 then (-(u:Int),true) else if neg=false∧u<9223372036854775808 then ((u:Int),true) else (0,false)
structure WI (s:ByteArray) where
 n:Nat
 p:Nat
 u:Nat
 fuel:s.size≤p+n
 same:dv s n p u=dv s s.size 0 0
 hp:p≤s.size
 hu:u<10 ^ p
theorem mF (s:ByteArray):Pure PG 84 [vs s] (.tup [vi (eT s).1,vb (eT s).2]) []:=by
 refine aI.mk ⟨66,0,false,tys⟩ av [] Tryz.func84 rfl (by kernel_rfl) rfl rfl rfl ?_
 intro C x
 refine x.pure rfl tR rfl (Vy s ⟨#[45]⟩) ⟨rfl,rfl,tR⟩ ?_
 generalize hd:(cutV s ⟨#[45]⟩).1=d
 generalize hng:(cutV s ⟨#[45]⟩).2=ng
 have hnil:d.data.toList=(⟨#[]⟩:ByteArray).data.toList↔d.size=0:=by
  rw[show d.size=d.data.toList.length from (Array.length_toList).symm,List.length_eq_zero_iff]
 have hsb:sb d (Int.toNat 0)=(bt d 0:Int):=xC d 0
 have hcond:(decide (d.data.toList=(⟨#[]⟩:ByteArray).data.toList)||decide ((19:Int)<d.size)||decide (sb d (Int.toNat 0)=48)&&(ng||decide ((1:Int)<d.size)))=decide (d.size=0∨19<d.size∨(bt d 0=48∧(ng=true∨1<d.size))):=by
  rw[Bool.eq_iff_iff]
  simp only[Bool.or_eq_true,adg,adn,hnil,hsb]
  cases ng<;>simp only[adu,false_or,true_or,and_true]<;>omega
 refine x.cond rfl ?_ (fun h=>?_) (fun h=>?_)
 ·intro h
  simp only[adw,adr] at h
  have:¬d.size=0:=fun e=>h.1 (hnil.2 e)
  omega
 ·refine x.exit rfl tR ?_
  refine⟨.inr rfl,?_,tR,rfl⟩
  have:d.size=0∨19<d.size∨(bt d 0=48∧(ng=true∨1<d.size)):=by
   rw[hcond] at h
   simpa only[adn] using h
  simp only[eT,hd,hng]
  rw[if_pos this]
  exact⟨rfl,rfl,tR⟩
 have hno:¬(d.size=0∨19<d.size∨(bt d 0=48∧(ng=true∨1<d.size))):=by
  rw[hcond] at h
  simpa only[adr] using h
 have hsz:d.size≤19:=by omega
 refine x.loop (α:=WI d) (fun y=>⟨[(5,vb ng),(6, .d (.int .u64 (y.u:Int))),(35, .ptr 0 0)],[(0, .iter d y.p)],1⟩) (fun y=>d.size+4-y.p) ⟨d.size,0,0,by omega,rfl,by omega,by simp⟩ rfl tR ?_ (fun y=>?_)
 ·exact⟨⟨rfl,rfl,⟨rfl,rfl⟩,tR⟩,⟨⟨rfl,rfl⟩,tR⟩,rfl⟩
 obtain⟨n,p,u,fuel,same,hp,hu⟩:=y
 change Go C _ ⟨[(5,vb ng),(6, .d (.int .u64 (u:Int))),(35, .ptr 0 0)],[(0, .iter d p)],1⟩ _
 refine x.next rfl tR rfl rfl rfl (fun h=>?_) (fun h=>?_)
 ·refine x.cond rfl tR (fun _=>?_) (fun h1=>by cases h1)
  refine x.pure rfl tR rfl (yg _) ⟨rfl,tR⟩ ?_
  cases n with
  | zero=>omega
  | succ n=>
   rw[dv,if_pos h] at same
   refine x.cond rfl tR (fun h2=>?_) (fun h2=>?_)
   ·have hnd:¬(48≤bt d p∧bt d p≤57):=fun hh=>by
     rw[decode_ascii (by omega)] at h2
     simp at h2
     omega
    rw[if_neg hnd] at same
    refine x.exit rfl tR ?_
    refine⟨.inr rfl,?_,tR,rfl⟩
    simp only[eT,hd,hng]
    rw[if_neg hno,←same]
    exact⟨rfl,rfl,tR⟩
   ·have hdg:48≤bt d p∧bt d p≤57:=by
     by_cases ha:bt d p<128
     ·rw[decode_ascii ha] at h2
      simp at h2
      omega
     ·have:=decode_high ha
      simp at h2
      omega
    rw[if_pos hdg] at same
    have hdec:=decode_ascii (s:=d) (p:=p) (by omega)
    have hpow:10 ^ (p+1)≤10 ^ 19:=Nat.pow_le_pow_right (by omega) (by omega)
    have hu':10*u+(bt d p-48)<10 ^ (p+1):=by rw[Nat.pow_succ];omega
    refine x.back rfl tR ?_
    refine⟨⟨n,p+(Utf8.decode d p).2,10*u+(bt d p-48),by rw[hdec];omega,by rw[hdec];exact same,by rw[hdec];show p+1≤_;omega,by rw[hdec];exact hu'⟩,by show d.size+4-(p+(Utf8.decode d p).2)<d.size+4-p;rw[hdec];show d.size+4-(p+1)<d.size+4-p;omega,?_⟩
    refine⟨⟨rfl,?_,⟨rfl,rfl⟩,tR⟩,⟨⟨rfl,rfl⟩,tR⟩,rfl⟩
    show IntKind.u64.wrap (IntKind.u64.wrap (10*(u:Int))+IntKind.u64.wrap (IntKind.i32.wrap (((Utf8.decode d p).1:Int)-48)))=((10*u+(bt d p-48):Nat):Int)
    rw[hdec,IntKind.wrap_u64,IntKind.wrap_u64,IntKind.wrap_u64,IntKind.wrap_i32]
    omega
 ·refine x.cond rfl tR (fun h1=>by cases h1) (fun _=>?_)
  rw[Z9 h] at same
  have hpow:10 ^ p≤10 ^ 19:=Nat.pow_le_pow_right (by omega) (by omega)
  have hres:eT s=if ng=true∧u≤9223372036854775808 then (-(u:Int),true) else if ng=false∧u<9223372036854775808 then ((u:Int),true) else (0,false):=by
   simp only[eT,hd,hng]
   rw[if_neg hno,←same]
  rw[hres]
  refine x.cond rfl tR (fun h1=>?_) (fun h1=>?_)
  ·simp only[adg,adn] at h1
   refine x.exit rfl tR ?_
   refine⟨.inr rfl,?_,tR,rfl⟩
   rw[if_pos ⟨h1.1,by omega⟩]
   refine⟨?_,rfl,tR⟩
   show IntKind.i64.wrap (IntKind.u64.wrap (0-(u:Int)))=-(u:Int)
   rw[IntKind.wrap_i64,IntKind.wrap_u64]
   omega
  ·rw[if_neg (by rintro ⟨rfl,hh⟩;simp at h1;omega)]
   refine x.cond rfl tR (fun h2=>?_) (fun h2=>?_)
   ·simp only[adg,adt,adn] at h2
    refine x.exit rfl tR ?_
    refine⟨.inr rfl,?_,tR,rfl⟩
    rw[if_pos ⟨h2.1,by omega⟩]
    refine⟨?_,rfl,tR⟩
    show IntKind.i64.wrap (u:Int)=(u:Int)
    rw[IntKind.wrap_i64]
    omega
   ·refine x.exit rfl tR ?_
    refine⟨.inr rfl,?_,tR,rfl⟩
    rw[if_neg (by rintro ⟨rfl,hh⟩;simp at h2;omega)]
    exact⟨rfl,rfl,tR⟩
def dvl:List UInt8->Nat->Option Nat
 | [],u=>some u
 | c::r,u=>if 48≤c.toNat∧c.toNat≤57 then dvl r (10*u+(c.toNat-48)) else none
theorem Lb (s:ByteArray):s.data.toList.length=s.size:=Array.length_toList
theorem Qf (s:ByteArray) (i:Nat) (h:i<s.size):∃c,s.data.toList[i]?=some c∧bt s i=c.toNat:=by
 have h':i<s.data.size:=h
 refine⟨s.data[i],by simp [h'],?_⟩
 unfold bt
 cases s with
 | mk d=>show d[i]!.toNat=_;rw[getElem!_pos d i h']
theorem Jk (s:ByteArray):∀(n i u:Nat),s.size≤i+n->dv s n i u=dvl (s.data.toList.drop i) u
 | 0,i,u,h=>by
  rw[dv,List.drop_eq_nil_of_le (by rw[Lb];omega)]
  rfl
 | n+1,i,u,h=>by
  rw[dv]
  by_cases hi:i<s.size
  ·obtain⟨c,hc,hb⟩:=Qf s i hi
   have hl:i<s.data.toList.length:=(List.getElem?_eq_some_iff.1 hc).1
   rw[if_pos hi,List.drop_eq_getElem_cons hl,(List.getElem?_eq_some_iff.1 hc).2,dvl,hb,Jk s n (i+1) _ (by omega)]
  ·rw[if_neg hi,List.drop_eq_nil_of_le (by rw[Lb];omega)]
   rfl
theorem Qg:∀(l:List UInt8) (c:UInt8) (u:Nat),dvl (l++[c]) u=(dvl l u).bind fun v=>if 48≤c.toNat∧c.toNat≤57 then some (10*v+(c.toNat-48)) else none
 | [],c,u=>rfl
 | x::l,c,u=>by
  rw[List.cons_append,dvl,dvl]
  split
  ·exact Qg l c _
  ·rfl
theorem Oe (v:Nat) (h:v<10):(UInt8.ofNat (48+v)).toNat=48+v:=by
 rw[UInt8.toNat_ofNat']
 omega
theorem Hw:∀(u:Nat),∃c r,om u=c::r∧48≤c.toNat∧c.toNat≤57∧(0<u->c.toNat≠48):=by
 intro u
 induction u using Nat.strongRecOn with
 | _ u ih=>
  by_cases h:u<10
  ·refine⟨_,[],sF h,?_⟩
   rw[Oe u h]
   omega
  ·obtain⟨c,r,h1,h2,h3,h4⟩:=ih (u/10) (by omega)
   exact⟨c,r++[_],by rw[zu h,h1];rfl,h2,h3,fun _=>h4 (by omega)⟩
theorem Lc:∀(u:Nat),dvl (om u) 0=some u:=by
 intro u
 induction u using Nat.strongRecOn with
 | _ u ih=>
  by_cases h:u<10
  ·rw[sF h,dvl,Oe u h,if_pos (by omega)]
   show some _=some _
   congr 1
   omega
  ·rw[zu h,Qg,ih (u/10) (by omega),Oe _ (by omega)]
   show (if _ then some _ else none)=_
   rw[if_pos (by omega)]
   congr 1
   omega
theorem acI (c:UInt8):UInt8.ofNat c.toNat=c:=by simp
theorem XK {s:ByteArray} {r:List UInt8} (h:s.data.toList=45::r):cutV s ⟨#[45]⟩=(ba r,true):=by
 have hs:s.size=r.length+1:=by rw[show s.size=s.data.toList.length from (Array.length_toList).symm,h];rfl
 have e1:(s.extract 0 (ByteArray.size ⟨#[45]⟩)).data.toList=[45]:=by
  rw[ByteArray.data_extract,Array.toList_extract,h];rfl
 have e2:s.extract (ByteArray.size ⟨#[45]⟩) s.size=ba r:=by
  apply ByteArray.ext
  apply Array.toList_inj.1
  rw[ByteArray.data_extract,Array.toList_extract,h,hs]
  simp [ba,ByteArray.size,List.extract]
 rw[cutV,if_pos,e2]
 rw[e1]
 simp only[adg,adn]
 exact⟨by rw[hs];show (1:Int)≤_;omega,tR⟩
theorem XL {s:ByteArray} (h:s.data.toList.head?≠some 45):cutV s ⟨#[45]⟩=(s,false):=by
 rw[cutV,if_neg]
 simp only[adg,adn]
 rintro ⟨h1,h2⟩
 apply h
 rw[ByteArray.data_extract,Array.toList_extract] at h2
 cases hl:s.data.toList with
 | nil=>rw[hl] at h2;cases h2
 | cons a b=>
  rw[hl] at h2
  have:[a]=[45]:=h2
  simp at this
  simp [this]
theorem Ld {s:ByteArray} {c:UInt8} {r:List UInt8} (h:s.data.toList=c::r):bt s 0=c.toNat∧s.size=r.length+1:=by
 have hs:s.size=r.length+1:=by rw[show s.size=s.data.toList.length from (Array.length_toList).symm,h];rfl
 obtain⟨d,hd,hb⟩:=Qf s 0 (by omega)
 rw[h] at hd
 simp at hd
 subst hd
 exact⟨hb,hs⟩
theorem Y0 {c:UInt8} {n:Nat} (hn:n<256):c.toNat=n↔c=UInt8.ofNat n:=by
 constructor
 ·rintro rfl;exact (acI c).symm
 ·rintro rfl;rw[UInt8.toNat_ofNat'];omega
theorem VA {s:ByteArray} {r:List UInt8} (h:s.data.toList=45::r) :
  eT s=if r.length=0∨19<r.length∨r.head?=some 48 then (0,false) else match dvl r 0 with
   | none=>(0,false)
   | some u=>if u≤9223372036854775808 then (-(u:Int),true) else (0,false):=by
 have hc:=XK h
 have hd:dv (ba r) r.length 0 0=dvl r 0:=by rw[Jk _ _ _ _ (by rw[za];omega)];rfl
 unfold eT
 rw[hc]
 simp only[za,hd]
 cases r with
 | nil=>rw[if_pos (by simp),if_pos (by simp)]
 | cons c r=>
  have hb:bt (ba (c::r)) 0=c.toNat:=(Ld (s:=ba (c::r)) rfl).1
  have h48:c.toNat=48↔(c::r).head?=some 48:=by rw[Y0 (by omega)];simp
  refine uR (by rw[hb,h48];simp) rfl ?_
  cases dvl (c::r) 0<;>simp
theorem VB {s:ByteArray} {l:List UInt8} (hl:s.data.toList=l) (h:l.head?≠some 45) :
  eT s=if l.length=0∨19<l.length∨(l.head?=some 48∧1<l.length) then (0,false) else match dvl l 0 with
   | none=>(0,false)
   | some u=>if u<9223372036854775808 then ((u:Int),true) else (0,false):=by
 subst hl
 have hc:=XL h
 have hs:s.size=s.data.toList.length:=(Array.length_toList).symm
 have hd:dv s s.size 0 0=dvl s.data.toList 0:=by rw[Jk _ _ _ _ (by omega)];rfl
 unfold eT
 rw[hc]
 simp only[hd]
 rw[hs]
 cases hl:s.data.toList with
 | nil=>rw[if_pos (by simp),if_pos (by simp)]
 | cons c r=>
  have hb:=(Ld hl).1
  have h48:c.toNat=48↔(c::r).head?=some 48:=by rw[Y0 (by omega)];simp
  refine uR (by rw[hb,h48];simp) rfl ?_
  cases dvl (c::r) 0<;>simp
theorem oo (n:Int):(jD n).data.toList=sgV n++om n.natAbs:=rfl
theorem Le (n:Int) (hn:ak n):eT (jD n)=(n,true):=by
 unfold ak at hn
 obtain⟨c,q,e1,e2,e3,e4⟩:=Hw n.natAbs
 have hlen:=uV 18 n.natAbs (by show n.natAbs<10000000000000000000;omega)
 by_cases h0:n<0
 ·have hl:(jD n).data.toList=45::om n.natAbs:=by rw[oo,sgV,if_pos h0];rfl
  have h48:(om n.natAbs).head?≠some 48:=by
   rw[e1]
   intro e
   simp at e
   exact e4 (by omega) (by rw[e];rfl)
  rw[VA hl,if_neg,Lc]
  ·simp only
   rw[if_pos (by omega)]
   congr 1
   omega
  ·rintro (h | h | h)
   ·rw[e1] at h;simp at h
   ·omega
   ·exact h48 h
 ·have hl:(jD n).data.toList=om n.natAbs:=by rw[oo,sgV,if_neg h0];rfl
  have h45:(om n.natAbs).head?≠some 45:=by
   rw[e1]
   intro e
   simp at e
   rw[e] at e2
   simp at e2
  rw[VB hl h45,if_neg,Lc]
  ·simp only
   rw[if_pos (by omega)]
   congr 1
   omega
  ·rintro (h | h | h)
   ·rw[e1] at h;simp at h
   ·omega
   ·by_cases hz:n.natAbs=0
    ·rw[hz,sF (by omega)] at h
     simp at h
    ·rw[e1] at h
     simp at h
     exact e4 (by omega) (by rw[h.1];rfl)
end Go.Proofs.YtojhdmfkfkfcbaaGreatDoor
