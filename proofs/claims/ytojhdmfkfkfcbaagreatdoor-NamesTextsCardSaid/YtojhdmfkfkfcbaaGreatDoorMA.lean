import Derived.Test.YtojhdmfkfkfcbaaGreatDoorSxF
import Derived.Test.YtojhdmfkfkfcbaaGreatDoorProg
import Derived.Lib.DecodeN
import Derived.Test.YtojhdmfkfkfcbaaGreatDoorSxE
import Derived.Test.YtojhdmfkfkfcbaaGreatDoorShelf
namespace Go.Proofs.YtojhdmfkfkfcbaaGreatDoor
open Go.Sx
def opNames:List (List UInt8):=[[],[97,100,100],[115,117,98],[109,117,108],[100,105,118],[109,111,100],[97,110,100],[111,114],[120,111,114],[115,104,108],[115,104,114],[101,113],[108,101,115,115]]
def opAt (c:Nat):ByteArray:=⟨(opNames.getD c []).toArray⟩
def tzTab:List Int:=[0,1,56,2,57,49,28,3,61,58,42,50,38,29,17,4,62,47,59,36,45,43,51,22,53,39,33,30,24,18,12,5,63,55,48,27,60,41,37,16,46,35,44,21,52,32,23,11,54,26,40,15,34,20,31,10,25,14,19,9,13,8,7,6]
noncomputable def PG:Pg:=⟨Tryz.prog,
 (1,256,fun c=>.int .u8 (Lib.firstT c))::
 (2,32,fun c=>.int .u8 (if c%2=0 then Lib.accLo (c/2) else Lib.accHi (c/2)))::
 (3,13,fun c=>.string (opAt c))::
 (4,64,fun c=>.int .u8 (tzTab.getD c 0))::
 (0,0,fun _=>undef)::
 []⟩
theorem ty_0:TI.OK Tryz.prog 2 ⟨.int .i64,1,8,[.d (.int .i64 0)]⟩:=TI.mk' (z:=.int .i64 0) Tryz.underlying2 (by kernel_rfl) rfl ⟨rfl,tR⟩
theorem ty_1:TI.OK Tryz.prog 3 ⟨.int .i64,1,8,[.d (.int .i64 0)]⟩:=TI.mk' (z:=.int .i64 0) Tryz.underlying3 (by kernel_rfl) rfl ⟨rfl,tR⟩
theorem ty_2:TI.OK Tryz.prog 4 ⟨.bool,1,1,[.d (.bool false)]⟩:=TI.mk' (z:=.bool false) Tryz.underlying4 (by kernel_rfl) rfl ⟨rfl,tR⟩
theorem ty_3:TI.OK Tryz.prog 5 ⟨.int .u8,1,1,[.d (.int .u8 0)]⟩:=TI.mk' (z:=.int .u8 0) Tryz.underlying5 (by kernel_rfl) rfl ⟨rfl,tR⟩
theorem ty_4:TI.OK Tryz.prog 9 ⟨.str,1,16,[.d (.str .empty)]⟩:=TI.mk' (z:=.string .empty) Tryz.underlying9 (by kernel_rfl) rfl ⟨rfl,tR⟩
theorem ty_5:TI.OK Tryz.prog 21 ⟨.int .i32,1,4,[.d (.int .i32 0)]⟩:=TI.mk' (z:=.int .i32 0) Tryz.underlying21 (by kernel_rfl) rfl ⟨rfl,tR⟩
theorem ty_6:TI.OK Tryz.prog 178 ⟨.int .u64,1,8,[.d (.int .u64 0)]⟩:=TI.mk' (z:=.int .u64 0) Tryz.underlying178 (by kernel_rfl) rfl ⟨rfl,tR⟩
theorem ty_7:TI.OK Tryz.prog 36 ⟨.int .i64,1,8,[.d (.int .i64 0)]⟩:=TI.mk' (z:=.int .i64 0) Tryz.underlying36 (by kernel_rfl) rfl ⟨rfl,tR⟩
theorem ty_8:TI.OK Tryz.prog 141 ⟨.slice 5,1,24,[.nils]⟩:=TI.mk' (z:=.slice none 0 0) Tryz.underlying141 (by kernel_rfl) rfl ⟨rfl,tR⟩
theorem ty_9:TI.OK Tryz.prog 70 ⟨.slice 3,1,24,[.nils]⟩:=TI.mk' (z:=.slice none 0 0) Tryz.underlying70 (by kernel_rfl) rfl ⟨rfl,tR⟩
theorem ty_12:TI.OK Tryz.prog 22 ⟨.slice 9,1,24,[.nils]⟩:=TI.mk' (z:=.slice none 0 0) Tryz.underlying22 (by kernel_rfl) rfl ⟨rfl,tR⟩
theorem ty_13:TI.OK Tryz.prog 23 ⟨.slice 178,1,24,[.nils]⟩:=TI.mk' (z:=.slice none 0 0) Tryz.underlying23 (by kernel_rfl) rfl ⟨rfl,tR⟩
theorem ty_17:TI.OK Tryz.prog 259 ⟨.array 13 9,13,208,[.d (.str .empty)]⟩:=TI.mk' (z:=.agg (List.replicate 13 [Value.string .empty]).flatten.toArray) Tryz.underlying259 (by kernel_rfl) (by kernel_rfl) (all2_rep (us:=[.d (.str .empty)]) (cs:=[.string .empty]) ⟨rfl,tR⟩ 13)
theorem ty_18:TI.OK Tryz.prog 199 ⟨.other,1,8,[.dead]⟩:=TI.mk' (z:=.nilFunc) ⟨_,Tryz.underlying199,tR⟩ (by kernel_rfl) rfl ⟨rfl,tR⟩
theorem ty_19:TI.OK Tryz.prog 72 ⟨.struct [(0,5),(1,5),(2,3),(3,3),(4,3),(5,70),(6,70),(7,2),(8,3)] [],9,96,[.d (.int .u8 0), .d (.int .u8 0), .d (.int .i64 0), .d (.int .i64 0), .d (.int .i64 0), .nils, .nils, .d (.int .i64 0), .d (.int .i64 0)]⟩:=TI.mk' (z:=.agg #[.int .u8 0, .int .u8 0, .int .i64 0, .int .i64 0, .int .i64 0, .slice none 0 0, .slice none 0 0, .int .i64 0, .int .i64 0]) ⟨⟨_,Tryz.underlying72,rfl⟩, .inl rfl⟩ (by kernel_rfl) rfl ⟨rfl,rfl,rfl,rfl,rfl,rfl,rfl,rfl,rfl,tR⟩
theorem ty_20:TI.OK Tryz.prog 61 ⟨.slice 72,1,24,[.nils]⟩:=TI.mk' (z:=.slice none 0 0) Tryz.underlying61 (by kernel_rfl) rfl ⟨rfl,tR⟩
theorem ty_21:TI.OK Tryz.prog 58 ⟨.slice 61,1,24,[.nils]⟩:=TI.mk' (z:=.slice none 0 0) Tryz.underlying58 (by kernel_rfl) rfl ⟨rfl,tR⟩
theorem ty_22:TI.OK Tryz.prog 60 ⟨.struct [(0,3),(1,3),(2,58)] [],3,40,[.d (.int .i64 0), .d (.int .i64 0), .nils]⟩:=TI.mk' (z:=.agg #[.int .i64 0, .int .i64 0, .slice none 0 0]) ⟨⟨_,Tryz.underlying60,rfl⟩, .inl rfl⟩ (by kernel_rfl) rfl ⟨rfl,rfl,rfl,tR⟩
theorem ty_24:TI.OK Tryz.prog 183 ⟨.struct [(0,5),(1,3),(2,3)] [0,0,0],3,24,[.d (.int .u8 0), .d (.int .i64 0), .d (.int .i64 0)]⟩:=TI.mk' (z:=.agg #[.int .u8 0, .int .i64 0, .int .i64 0]) ⟨⟨_,Tryz.underlying183,rfl⟩, .inr (by kernel_rfl)⟩ (by kernel_rfl) rfl ⟨rfl,rfl,rfl,tR⟩
theorem ty_25:TI.OK Tryz.prog 102 ⟨.slice 183,1,24,[.nils]⟩:=TI.mk' (z:=.slice none 0 0) Tryz.underlying102 (by kernel_rfl) rfl ⟨rfl,tR⟩
theorem ty_26:TI.OK Tryz.prog 78 ⟨.struct [(0,9),(1,3),(2,9),(3,3)] [2,0,2,0],4,48,[.d (.str .empty), .d (.int .i64 0), .d (.str .empty), .d (.int .i64 0)]⟩:=TI.mk' (z:=.agg #[.string .empty, .int .i64 0, .string .empty, .int .i64 0]) ⟨⟨_,Tryz.underlying78,rfl⟩, .inr (by kernel_rfl)⟩ (by kernel_rfl) rfl ⟨rfl,rfl,rfl,rfl,tR⟩
theorem ty_27:TI.OK Tryz.prog 87 ⟨.struct [(0,5),(1,5),(2,9),(3,9),(4,9),(5,22),(6,22),(7,2),(8,3)] [],9,120,[.d (.int .u8 0), .d (.int .u8 0), .d (.str .empty), .d (.str .empty), .d (.str .empty), .nils, .nils, .d (.int .i64 0), .d (.int .i64 0)]⟩:=TI.mk' (z:=.agg #[.int .u8 0, .int .u8 0, .string .empty, .string .empty, .string .empty, .slice none 0 0, .slice none 0 0, .int .i64 0, .int .i64 0]) ⟨⟨_,Tryz.underlying87,rfl⟩, .inl rfl⟩ (by kernel_rfl) rfl ⟨rfl,rfl,rfl,rfl,rfl,rfl,rfl,rfl,rfl,tR⟩
theorem ty_28:TI.OK Tryz.prog 32 ⟨.slice 78,1,24,[.nils]⟩:=TI.mk' (z:=.slice none 0 0) Tryz.underlying32 (by kernel_rfl) rfl ⟨rfl,tR⟩
theorem ty_29:TI.OK Tryz.prog 83 ⟨.slice 87,1,24,[.nils]⟩:=TI.mk' (z:=.slice none 0 0) Tryz.underlying83 (by kernel_rfl) rfl ⟨rfl,tR⟩
theorem ty_30:TI.OK Tryz.prog 85 ⟨.struct [(0,9),(1,83),(2,3)] [],3,48,[.d (.str .empty), .nils, .d (.int .i64 0)]⟩:=TI.mk' (z:=.agg #[.string .empty, .slice none 0 0, .int .i64 0]) ⟨⟨_,Tryz.underlying85,rfl⟩, .inl rfl⟩ (by kernel_rfl) rfl ⟨rfl,rfl,rfl,tR⟩
theorem ty_31:TI.OK Tryz.prog 80 ⟨.slice 85,1,24,[.nils]⟩:=TI.mk' (z:=.slice none 0 0) Tryz.underlying80 (by kernel_rfl) rfl ⟨rfl,tR⟩
theorem ty_32:TI.OK Tryz.prog 82 ⟨.struct [(0,9),(1,22),(2,80),(3,3)] [],4,72,[.d (.str .empty), .nils, .nils, .d (.int .i64 0)]⟩:=TI.mk' (z:=.agg #[.string .empty, .slice none 0 0, .slice none 0 0, .int .i64 0]) ⟨⟨_,Tryz.underlying82,rfl⟩, .inl rfl⟩ (by kernel_rfl) rfl ⟨rfl,rfl,rfl,rfl,tR⟩
theorem ty_33:TI.OK Tryz.prog 33 ⟨.slice 82,1,24,[.nils]⟩:=TI.mk' (z:=.slice none 0 0) Tryz.underlying33 (by kernel_rfl) rfl ⟨rfl,tR⟩
theorem ty_34:TI.OK Tryz.prog 35 ⟨.struct [(0,32),(1,33)] [],2,48,[.nils, .nils]⟩:=TI.mk' (z:=.agg #[.slice none 0 0, .slice none 0 0]) ⟨⟨_,Tryz.underlying35,rfl⟩, .inl rfl⟩ (by kernel_rfl) rfl ⟨rfl,rfl,tR⟩
theorem ty_35:TI.OK Tryz.prog 106 ⟨.struct [(0,3),(1,36)] [0,0],2,16,[.d (.int .i64 0), .d (.int .i64 0)]⟩:=TI.mk' (z:=.agg #[.int .i64 0, .int .i64 0]) ⟨⟨_,Tryz.underlying106,rfl⟩, .inr (by kernel_rfl)⟩ (by kernel_rfl) rfl ⟨rfl,rfl,tR⟩
theorem ty_36:TI.OK Tryz.prog 110 ⟨.struct [(0,9),(1,102),(2,3),(3,3)] [],4,56,[.d (.str .empty), .nils, .d (.int .i64 0), .d (.int .i64 0)]⟩:=TI.mk' (z:=.agg #[.string .empty, .slice none 0 0, .int .i64 0, .int .i64 0]) ⟨⟨_,Tryz.underlying110,rfl⟩, .inl rfl⟩ (by kernel_rfl) rfl ⟨rfl,rfl,rfl,rfl,tR⟩
theorem ty_38:TI.OK Tryz.prog 108 ⟨.other,1,8,[.dead]⟩:=TI.mk' (z:=.pointer none) ⟨_,Tryz.underlying108,tR⟩ (by kernel_rfl) rfl ⟨rfl,tR⟩
theorem ty_39:TI.OK Tryz.prog 250 ⟨.other,1,8,[.dead]⟩:=TI.mk' (z:=.pointer none) ⟨_,Tryz.underlying250,tR⟩ (by kernel_rfl) rfl ⟨rfl,tR⟩
theorem ty_41:TI.OK Tryz.prog 1 ⟨.func,1,8,[.d .nf]⟩:=TI.mk' (z:=.nilFunc) ⟨_,_,_,Tryz.underlying1⟩ (by kernel_rfl) rfl ⟨rfl,tR⟩
theorem ty_42:TI.OK Tryz.prog 247 ⟨.func,1,8,[.d .nf]⟩:=TI.mk' (z:=.nilFunc) ⟨_,_,_,Tryz.underlying247⟩ (by kernel_rfl) rfl ⟨rfl,tR⟩
theorem ty_43:TI.OK Tryz.prog 143 ⟨.struct [(0,140),(1,141)] [],2,32,[.d .np, .nils]⟩:=TI.mk' (z:=.agg #[.pointer none, .slice none 0 0]) ⟨⟨_,Tryz.underlying143,rfl⟩, .inl rfl⟩ (by kernel_rfl) rfl ⟨rfl,rfl,tR⟩
theorem ty_44:TI.OK Tryz.prog 253 ⟨.struct [(0,3),(1,4),(2,4),(3,4)] [0,1,1,1],4,16,[.d (.int .i64 0), .d (.bool false), .d (.bool false), .d (.bool false)]⟩:=TI.mk' (z:=.agg #[.int .i64 0, .bool false, .bool false, .bool false]) ⟨⟨_,Tryz.underlying253,rfl⟩, .inr (by kernel_rfl)⟩ (by kernel_rfl) rfl ⟨rfl,rfl,rfl,rfl,tR⟩
theorem ty_45:TI.OK Tryz.prog 255 ⟨.map 5 253,1,8,[.d .nm]⟩:=TI.mk' (z:=.map none) Tryz.underlying255 (by kernel_rfl) rfl ⟨rfl,tR⟩
theorem ty_46:TI.OK Tryz.prog 145 ⟨.iface,1,16,[.d .ni]⟩:=TI.mk' (z:=.nilIface) ⟨_,Tryz.underlying145⟩ (by kernel_rfl) rfl ⟨rfl,tR⟩
theorem ty_47:TI.OK Tryz.prog 140 ⟨.other,1,8,[.dead]⟩:=TI.mk' (z:=.pointer none) ⟨_,Tryz.underlying140,tR⟩ (by kernel_rfl) rfl ⟨rfl,tR⟩
theorem ty_49:TI.OK Tryz.prog 20 ⟨.iface,1,16,[.d .ni]⟩:=TI.mk' (z:=.nilIface) ⟨_,Tryz.underlying20⟩ (by kernel_rfl) rfl ⟨rfl,tR⟩
theorem ty_50:TI.OK Tryz.prog 248 ⟨.map 9 247,1,8,[.d .nm]⟩:=TI.mk' (z:=.map none) Tryz.underlying248 (by kernel_rfl) rfl ⟨rfl,tR⟩
theorem ty_51:TI.OK Tryz.prog 121 ⟨.map 9 3,1,8,[.d .nm]⟩:=TI.mk' (z:=.map none) Tryz.underlying121 (by kernel_rfl) rfl ⟨rfl,tR⟩
theorem ty_52:TI.OK Tryz.prog 162 ⟨.struct [(0,9),(1,3)] [2,0],2,24,[.d (.str .empty), .d (.int .i64 0)]⟩:=TI.mk' (z:=.agg #[.string .empty, .int .i64 0]) ⟨⟨_,Tryz.underlying162,rfl⟩, .inr (by kernel_rfl)⟩ (by kernel_rfl) rfl ⟨rfl,rfl,tR⟩
theorem ty_53:TI.OK Tryz.prog 24 ⟨.slice 162,1,24,[.nils]⟩:=TI.mk' (z:=.slice none 0 0) Tryz.underlying24 (by kernel_rfl) rfl ⟨rfl,tR⟩
theorem ty_54:TI.OK Tryz.prog 26 ⟨.struct [(0,22),(1,23),(2,24),(3,24),(4,3)] [],5,104,[.nils, .nils, .nils, .nils, .d (.int .i64 0)]⟩:=TI.mk' (z:=.agg #[.slice none 0 0, .slice none 0 0, .slice none 0 0, .slice none 0 0, .int .i64 0]) ⟨⟨_,Tryz.underlying26,rfl⟩, .inl rfl⟩ (by kernel_rfl) rfl ⟨rfl,rfl,rfl,rfl,rfl,tR⟩
theorem ty_55:TI.OK Tryz.prog 180 ⟨.array 2 3,2,16,[.d (.int .i64 0)]⟩:=TI.mk' (z:=.agg (List.replicate 2 [Value.int .i64 0]).flatten.toArray) Tryz.underlying180 (by kernel_rfl) (by kernel_rfl) (all2_rep (us:=[.d (.int .i64 0)]) (cs:=[Value.int .i64 0]) ⟨rfl,tR⟩ 2)
theorem ty_56:TI.OK Tryz.prog 92 ⟨.slice 180,1,24,[.nils]⟩:=TI.mk' (z:=.slice none 0 0) Tryz.underlying92 (by kernel_rfl) rfl ⟨rfl,tR⟩
theorem ty_57:TI.OK Tryz.prog 94 ⟨.struct [(0,26),(5,92)] [],6,128,[.nils, .nils, .nils, .nils, .d (.int .i64 0), .nils]⟩:=TI.mk' (z:=.agg #[.slice none 0 0, .slice none 0 0, .slice none 0 0, .slice none 0 0, .int .i64 0, .slice none 0 0]) ⟨⟨_,Tryz.underlying94,rfl⟩, .inl rfl⟩ (by kernel_rfl) rfl ⟨rfl,rfl,rfl,rfl,rfl,rfl,tR⟩
theorem ty_58:TI.OK Tryz.prog 171 ⟨.func,1,8,[.d .nf]⟩:=TI.mk' (z:=.nilFunc) ⟨_,_,_,Tryz.underlying171⟩ (by kernel_rfl) rfl ⟨rfl,tR⟩
theorem ty_59:TI.OK Tryz.prog 139 ⟨.func,1,8,[.d .nf]⟩:=TI.mk' (z:=.nilFunc) ⟨_,_,_,Tryz.underlying139⟩ (by kernel_rfl) rfl ⟨rfl,tR⟩
theorem ty_60:TI.OK Tryz.prog 204 ⟨.func,1,8,[.d .nf]⟩:=TI.mk' (z:=.nilFunc) ⟨_,_,_,Tryz.underlying204⟩ (by kernel_rfl) rfl ⟨rfl,tR⟩
theorem ty_61:TI.OK Tryz.prog 156 ⟨.func,1,8,[.d .nf]⟩:=TI.mk' (z:=.nilFunc) ⟨_,_,_,Tryz.underlying156⟩ (by kernel_rfl) rfl ⟨rfl,tR⟩
theorem ty_62:TI.OK Tryz.prog 233 ⟨.func,1,8,[.d .nf]⟩:=TI.mk' (z:=.nilFunc) ⟨_,_,_,Tryz.underlying233⟩ (by kernel_rfl) rfl ⟨rfl,tR⟩
theorem ty_63:TI.OK Tryz.prog 173 ⟨.struct [(0,171),(1,3)] [],2,16,[.d .nf, .d (.int .i64 0)]⟩:=TI.mk' (z:=.agg #[.nilFunc, .int .i64 0]) ⟨⟨_,Tryz.underlying173,rfl⟩, .inl rfl⟩ (by kernel_rfl) rfl ⟨rfl,rfl,tR⟩
theorem ty_64:TI.OK Tryz.prog 174 ⟨.map 9 173,1,8,[.d .nm]⟩:=TI.mk' (z:=.map none) Tryz.underlying174 (by kernel_rfl) rfl ⟨rfl,tR⟩
theorem ty_65:TI.OK Tryz.prog 91 ⟨.other,1,8,[.dead]⟩:=TI.mk' (z:=.pointer none) ⟨_,Tryz.underlying91,tR⟩ (by kernel_rfl) rfl ⟨rfl,tR⟩
theorem ty_66:TI.OK Tryz.prog 243 ⟨.other,1,8,[.dead]⟩:=TI.mk' (z:=.pointer none) ⟨_,Tryz.underlying243,tR⟩ (by kernel_rfl) rfl ⟨rfl,tR⟩
theorem ty_80:TI.OK Tryz.prog 66 ⟨.struct [(0,3),(1,3)] [0,0],2,16,[.d (.int .i64 0), .d (.int .i64 0)]⟩:=TI.mk' (z:=.agg #[.int .i64 0, .int .i64 0]) ⟨⟨_,Tryz.underlying66,rfl⟩, .inr (by kernel_rfl)⟩ (by kernel_rfl) rfl ⟨rfl,rfl,tR⟩
theorem ty_81:TI.OK Tryz.prog 27 ⟨.slice 66,1,24,[.nils]⟩:=TI.mk' (z:=.slice none 0 0) Tryz.underlying27 (by kernel_rfl) rfl ⟨rfl,tR⟩
theorem ty_82:TI.OK Tryz.prog 28 ⟨.slice 60,1,24,[.nils]⟩:=TI.mk' (z:=.slice none 0 0) Tryz.underlying28 (by kernel_rfl) rfl ⟨rfl,tR⟩
theorem ty_83:TI.OK Tryz.prog 30 ⟨.struct [(0,27),(1,28),(2,3)] [],3,56,[.nils, .nils, .d (.int .i64 0)]⟩:=TI.mk' (z:=.agg #[.slice none 0 0, .slice none 0 0, .int .i64 0]) ⟨⟨_,Tryz.underlying30,rfl⟩, .inl rfl⟩ (by kernel_rfl) rfl ⟨rfl,rfl,rfl,tR⟩
theorem ty_84:TI.OK Tryz.prog 118 ⟨.struct [(0,3),(1,36)] [0,0],2,16,[.d (.int .i64 0), .d (.int .i64 0)]⟩:=TI.mk' (z:=.agg #[.int .i64 0, .int .i64 0]) ⟨⟨_,Tryz.underlying118,rfl⟩, .inr (by kernel_rfl)⟩ (by kernel_rfl) rfl ⟨rfl,rfl,tR⟩
theorem ty_85:TI.OK Tryz.prog 133 ⟨.struct [(0,121),(1,121)] [],2,16,[.d .nm, .d .nm]⟩:=TI.mk' (z:=.agg #[.map none, .map none]) ⟨⟨_,Tryz.underlying133,rfl⟩, .inl rfl⟩ (by kernel_rfl) rfl ⟨rfl,rfl,tR⟩
theorem ty_86:TI.OK Tryz.prog 131 ⟨.slice 133,1,24,[.nils]⟩:=TI.mk' (z:=.slice none 0 0) Tryz.underlying131 (by kernel_rfl) rfl ⟨rfl,tR⟩
theorem ty_87:TI.OK Tryz.prog 123 ⟨.struct [(0,26),(5,35),(7,121),(8,121)] [],9,168,[.nils, .nils, .nils, .nils, .d (.int .i64 0), .nils, .nils, .d .nm, .d .nm]⟩:=TI.mk' (z:=.agg #[.slice none 0 0, .slice none 0 0, .slice none 0 0, .slice none 0 0, .int .i64 0, .slice none 0 0, .slice none 0 0, .map none, .map none]) ⟨⟨_,Tryz.underlying123,rfl⟩, .inl rfl⟩ (by kernel_rfl) rfl ⟨rfl,rfl,rfl,rfl,rfl,rfl,rfl,rfl,rfl,tR⟩
theorem ty_88:TI.OK Tryz.prog 120 ⟨.other,1,8,[.dead]⟩:=TI.mk' (z:=.pointer none) ⟨_,Tryz.underlying120,tR⟩ (by kernel_rfl) rfl ⟨rfl,tR⟩
theorem ty_89:TI.OK Tryz.prog 205 ⟨.func,1,8,[.d .nf]⟩:=TI.mk' (z:=.nilFunc) ⟨_,_,_,Tryz.underlying205⟩ (by kernel_rfl) rfl ⟨rfl,tR⟩
theorem ty_90:TI.OK Tryz.prog 129 ⟨.func,1,8,[.d .nf]⟩:=TI.mk' (z:=.nilFunc) ⟨_,_,_,Tryz.underlying129⟩ (by kernel_rfl) rfl ⟨rfl,tR⟩
theorem ty_91:TI.OK Tryz.prog 130 ⟨.func,1,8,[.d .nf]⟩:=TI.mk' (z:=.nilFunc) ⟨_,_,_,Tryz.underlying130⟩ (by kernel_rfl) rfl ⟨rfl,tR⟩
theorem ty_92:TI.OK Tryz.prog 90 ⟨.func,1,8,[.d .nf]⟩:=TI.mk' (z:=.nilFunc) ⟨_,_,_,Tryz.underlying90⟩ (by kernel_rfl) rfl ⟨rfl,tR⟩
theorem ty_93:TI.OK Tryz.prog 195 ⟨.func,1,8,[.d .nf]⟩:=TI.mk' (z:=.nilFunc) ⟨_,_,_,Tryz.underlying195⟩ (by kernel_rfl) rfl ⟨rfl,tR⟩
theorem ty_94:TI.OK Tryz.prog 196 ⟨.func,1,8,[.d .nf]⟩:=TI.mk' (z:=.nilFunc) ⟨_,_,_,Tryz.underlying196⟩ (by kernel_rfl) rfl ⟨rfl,tR⟩
theorem ty_95:TI.OK Tryz.prog 75 ⟨.func,1,8,[.d .nf]⟩:=TI.mk' (z:=.nilFunc) ⟨_,_,_,Tryz.underlying75⟩ (by kernel_rfl) rfl ⟨rfl,tR⟩
theorem ty_96:TI.OK Tryz.prog 74 ⟨.func,1,8,[.d .nf]⟩:=TI.mk' (z:=.nilFunc) ⟨_,_,_,Tryz.underlying74⟩ (by kernel_rfl) rfl ⟨rfl,tR⟩
theorem ty_97:TI.OK Tryz.prog 73 ⟨.func,1,8,[.d .nf]⟩:=TI.mk' (z:=.nilFunc) ⟨_,_,_,Tryz.underlying73⟩ (by kernel_rfl) rfl ⟨rfl,tR⟩
theorem ty_98:TI.OK Tryz.prog 266 ⟨.array 64 5,64,64,[.d (.int .u8 0)]⟩:=TI.mk' (z:=.agg (List.replicate 64 [Value.int .u8 0]).flatten.toArray) Tryz.underlying266 (by kernel_rfl) (by kernel_rfl) (all2_rep (us:=[.d (.int .u8 0)]) (cs:=[Value.int .u8 0]) ⟨rfl,tR⟩ 64)
def tys:List (Nat×TI):=
 (2,⟨.int .i64,1,8,[.d (.int .i64 0)]⟩)::
 (3,⟨.int .i64,1,8,[.d (.int .i64 0)]⟩)::
 (4,⟨.bool,1,1,[.d (.bool false)]⟩)::
 (5,⟨.int .u8,1,1,[.d (.int .u8 0)]⟩)::
 (9,⟨.str,1,16,[.d (.str .empty)]⟩)::
 (21,⟨.int .i32,1,4,[.d (.int .i32 0)]⟩)::
 (178,⟨.int .u64,1,8,[.d (.int .u64 0)]⟩)::
 (36,⟨.int .i64,1,8,[.d (.int .i64 0)]⟩)::
 (141,⟨.slice 5,1,24,[.nils]⟩)::
 (70,⟨.slice 3,1,24,[.nils]⟩)::
 (22,⟨.slice 9,1,24,[.nils]⟩)::
 (23,⟨.slice 178,1,24,[.nils]⟩)::
 (259,⟨.array 13 9,13,208,[.d (.str .empty)]⟩)::
 (199,⟨.other,1,8,[.dead]⟩)::
 (72,⟨.struct [(0,5),(1,5),(2,3),(3,3),(4,3),(5,70),(6,70),(7,2),(8,3)] [],9,96,[.d (.int .u8 0), .d (.int .u8 0), .d (.int .i64 0), .d (.int .i64 0), .d (.int .i64 0), .nils, .nils, .d (.int .i64 0), .d (.int .i64 0)]⟩)::
 (61,⟨.slice 72,1,24,[.nils]⟩)::
 (58,⟨.slice 61,1,24,[.nils]⟩)::
 (60,⟨.struct [(0,3),(1,3),(2,58)] [],3,40,[.d (.int .i64 0), .d (.int .i64 0), .nils]⟩)::
 (183,⟨.struct [(0,5),(1,3),(2,3)] [0,0,0],3,24,[.d (.int .u8 0), .d (.int .i64 0), .d (.int .i64 0)]⟩)::
 (102,⟨.slice 183,1,24,[.nils]⟩)::
 (78,⟨.struct [(0,9),(1,3),(2,9),(3,3)] [2,0,2,0],4,48,[.d (.str .empty), .d (.int .i64 0), .d (.str .empty), .d (.int .i64 0)]⟩)::
 (87,⟨.struct [(0,5),(1,5),(2,9),(3,9),(4,9),(5,22),(6,22),(7,2),(8,3)] [],9,120,[.d (.int .u8 0), .d (.int .u8 0), .d (.str .empty), .d (.str .empty), .d (.str .empty), .nils, .nils, .d (.int .i64 0), .d (.int .i64 0)]⟩)::
 (32,⟨.slice 78,1,24,[.nils]⟩)::
 (83,⟨.slice 87,1,24,[.nils]⟩)::
 (85,⟨.struct [(0,9),(1,83),(2,3)] [],3,48,[.d (.str .empty), .nils, .d (.int .i64 0)]⟩)::
 (80,⟨.slice 85,1,24,[.nils]⟩)::
 (82,⟨.struct [(0,9),(1,22),(2,80),(3,3)] [],4,72,[.d (.str .empty), .nils, .nils, .d (.int .i64 0)]⟩)::
 (33,⟨.slice 82,1,24,[.nils]⟩)::
 (35,⟨.struct [(0,32),(1,33)] [],2,48,[.nils, .nils]⟩)::
 (106,⟨.struct [(0,3),(1,36)] [0,0],2,16,[.d (.int .i64 0), .d (.int .i64 0)]⟩)::
 (110,⟨.struct [(0,9),(1,102),(2,3),(3,3)] [],4,56,[.d (.str .empty), .nils, .d (.int .i64 0), .d (.int .i64 0)]⟩)::
 (108,⟨.other,1,8,[.dead]⟩)::
 (250,⟨.other,1,8,[.dead]⟩)::
 (1,⟨.func,1,8,[.d .nf]⟩)::
 (247,⟨.func,1,8,[.d .nf]⟩)::
 (143,⟨.struct [(0,140),(1,141)] [],2,32,[.d .np, .nils]⟩)::
 (253,⟨.struct [(0,3),(1,4),(2,4),(3,4)] [0,1,1,1],4,16,[.d (.int .i64 0), .d (.bool false), .d (.bool false), .d (.bool false)]⟩)::
 (255,⟨.map 5 253,1,8,[.d .nm]⟩)::
 (145,⟨.iface,1,16,[.d .ni]⟩)::
 (140,⟨.other,1,8,[.dead]⟩)::
 (20,⟨.iface,1,16,[.d .ni]⟩)::
 (248,⟨.map 9 247,1,8,[.d .nm]⟩)::
 (121,⟨.map 9 3,1,8,[.d .nm]⟩)::
 (162,⟨.struct [(0,9),(1,3)] [2,0],2,24,[.d (.str .empty), .d (.int .i64 0)]⟩)::
 (24,⟨.slice 162,1,24,[.nils]⟩)::
 (26,⟨.struct [(0,22),(1,23),(2,24),(3,24),(4,3)] [],5,104,[.nils, .nils, .nils, .nils, .d (.int .i64 0)]⟩)::
 (180,⟨.array 2 3,2,16,[.d (.int .i64 0)]⟩)::
 (92,⟨.slice 180,1,24,[.nils]⟩)::
 (94,⟨.struct [(0,26),(5,92)] [],6,128,[.nils, .nils, .nils, .nils, .d (.int .i64 0), .nils]⟩)::
 (171,⟨.func,1,8,[.d .nf]⟩)::
 (139,⟨.func,1,8,[.d .nf]⟩)::
 (204,⟨.func,1,8,[.d .nf]⟩)::
 (156,⟨.func,1,8,[.d .nf]⟩)::
 (233,⟨.func,1,8,[.d .nf]⟩)::
 (173,⟨.struct [(0,171),(1,3)] [],2,16,[.d .nf, .d (.int .i64 0)]⟩)::
 (174,⟨.map 9 173,1,8,[.d .nm]⟩)::
 (91,⟨.other,1,8,[.dead]⟩)::
 (243,⟨.other,1,8,[.dead]⟩)::
 (66,⟨.struct [(0,3),(1,3)] [0,0],2,16,[.d (.int .i64 0), .d (.int .i64 0)]⟩)::
 (27,⟨.slice 66,1,24,[.nils]⟩)::
 (28,⟨.slice 60,1,24,[.nils]⟩)::
 (30,⟨.struct [(0,27),(1,28),(2,3)] [],3,56,[.nils, .nils, .d (.int .i64 0)]⟩)::
 (118,⟨.struct [(0,3),(1,36)] [0,0],2,16,[.d (.int .i64 0), .d (.int .i64 0)]⟩)::
 (133,⟨.struct [(0,121),(1,121)] [],2,16,[.d .nm, .d .nm]⟩)::
 (131,⟨.slice 133,1,24,[.nils]⟩)::
 (123,⟨.struct [(0,26),(5,35),(7,121),(8,121)] [],9,168,[.nils, .nils, .nils, .nils, .d (.int .i64 0), .nils, .nils, .d .nm, .d .nm]⟩)::
 (120,⟨.other,1,8,[.dead]⟩)::
 (205,⟨.func,1,8,[.d .nf]⟩)::
 (129,⟨.func,1,8,[.d .nf]⟩)::
 (130,⟨.func,1,8,[.d .nf]⟩)::
 (90,⟨.func,1,8,[.d .nf]⟩)::
 (195,⟨.func,1,8,[.d .nf]⟩)::
 (196,⟨.func,1,8,[.d .nf]⟩)::
 (75,⟨.func,1,8,[.d .nf]⟩)::
 (74,⟨.func,1,8,[.d .nf]⟩)::
 (73,⟨.func,1,8,[.d .nf]⟩)::
 (266,⟨.array 64 5,64,64,[.d (.int .u8 0)]⟩)::
 []
theorem tysOK:TysOK Tryz.prog tys:=
 And.intro ty_0 <|
 And.intro ty_1 <|
 And.intro ty_2 <|
 And.intro ty_3 <|
 And.intro ty_4 <|
 And.intro ty_5 <|
 And.intro ty_6 <|
 And.intro ty_7 <|
 And.intro ty_8 <|
 And.intro ty_9 <|
 And.intro ty_12 <|
 And.intro ty_13 <|
 And.intro ty_17 <|
 And.intro ty_18 <|
 And.intro ty_19 <|
 And.intro ty_20 <|
 And.intro ty_21 <|
 And.intro ty_22 <|
 And.intro ty_24 <|
 And.intro ty_25 <|
 And.intro ty_26 <|
 And.intro ty_27 <|
 And.intro ty_28 <|
 And.intro ty_29 <|
 And.intro ty_30 <|
 And.intro ty_31 <|
 And.intro ty_32 <|
 And.intro ty_33 <|
 And.intro ty_34 <|
 And.intro ty_35 <|
 And.intro ty_36 <|
 And.intro ty_38 <|
 And.intro ty_39 <|
 And.intro ty_41 <|
 And.intro ty_42 <|
 And.intro ty_43 <|
 And.intro ty_44 <|
 And.intro ty_45 <|
 And.intro ty_46 <|
 And.intro ty_47 <|
 And.intro ty_49 <|
 And.intro ty_50 <|
 And.intro ty_51 <|
 And.intro ty_52 <|
 And.intro ty_53 <|
 And.intro ty_54 <|
 And.intro ty_55 <|
 And.intro ty_56 <|
 And.intro ty_57 <|
 And.intro ty_58 <|
 And.intro ty_59 <|
 And.intro ty_60 <|
 And.intro ty_61 <|
 And.intro ty_62 <|
 And.intro ty_63 <|
 And.intro ty_64 <|
 And.intro ty_65 <|
 And.intro ty_66 <|
 And.intro ty_80 <|
 And.intro ty_81 <|
 And.intro ty_82 <|
 And.intro ty_83 <|
 And.intro ty_84 <|
 And.intro ty_85 <|
 And.intro ty_86 <|
 And.intro ty_87 <|
 And.intro ty_88 <|
 And.intro ty_89 <|
 And.intro ty_90 <|
 And.intro ty_91 <|
 And.intro ty_92 <|
 And.intro ty_93 <|
 And.intro ty_94 <|
 And.intro ty_95 <|
 And.intro ty_96 <|
 And.intro ty_97 <|
 And.intro ty_98 <|
 trivial
theorem mixedP:Tryz.prog.follows .mixedOrders=true:=by kernel_rfl
def cfg (n:Nat):Cfg:=⟨n,0,true,tys⟩
def cfgF (n fix:Nat):Cfg:=⟨n,fix,true,tys⟩
end Go.Proofs.YtojhdmfkfkfcbaaGreatDoor
namespace Go.Proofs.YtojhdmfkfkfcbaaGreatDoor
open Go.Sx
set_option linter.unusedVariables false
set_option maxRecDepth 100000
theorem digit_spec (r:Int):Pure PG 140 [.d (.int .i32 r)] (vb (decide (48≤r)&&decide (r≤57))) []:=by
 refine Proc.mk (cfg 9) tysOK [] Tryz.func140 rfl (by kernel_rfl) rfl rfl rfl ?_
 intro C x
 refine x.exit rfl ?_ ?_
 ·exact tR
 ·exact⟨.inr rfl,rfl,tR,rfl⟩
def cfg1 (n:Nat):Cfg:=cfgF n 1
theorem between_spec (r a b:Int):Proc PG 189 1 [.d (.int .i32 a), .d (.int .i32 b), .ptr 0 0] [.box [.d (.int .i32 r)]] (vb (decide (a≤r)&&decide (r≤b))) [.box [.d (.int .i32 r)]]:=by
 refine Proc.mk (cfg1 14) tysOK [0] Tryz.func189 rfl (by kernel_rfl) rfl rfl rfl ?_
 intro C x
 refine x.exit rfl tR ?_
 exact⟨.inr rfl,rfl,⟨⟨rfl,tR⟩,tR⟩,rfl⟩
theorem letter_spec (r:Int):Pure PG 164 [.d (.int .i32 r)] (vb (decide (97≤r)&&decide (r≤122)||decide (65≤r)&&decide (r≤90)||decide (r=95)||decide (945≤r)&&decide (r≤969)||decide (913≤r)&&decide (r≤937)&&!decide (r=930))) []:=by
 refine Proc.mk (cfg 27) tysOK [] Tryz.func164 rfl (by kernel_rfl) rfl rfl rfl ?_
 intro C x
 refine x.call [0] rfl tR rfl (between_spec r 97 122) rfl ⟨rfl,rfl,⟨rfl,rfl⟩,tR⟩ ⟨⟨rfl,tR⟩,tR⟩ ?_
 refine x.callG [0] rfl tR rfl (fun _=>between_spec r 65 90) rfl ⟨rfl,rfl,⟨rfl,rfl⟩,tR⟩ ⟨⟨rfl,tR⟩,tR⟩ ⟨⟨rfl,tR⟩,tR⟩ ?_
 refine x.callG [0] rfl ?_ rfl (fun _=>between_spec r 945 969) rfl ⟨rfl,rfl,⟨rfl,rfl⟩,tR⟩ ⟨⟨rfl,tR⟩,tR⟩ ⟨⟨rfl,tR⟩,tR⟩ ?_
 ·exact tR
 refine x.callG [0] rfl tR rfl (fun _=>between_spec r 913 937) rfl ⟨rfl,rfl,⟨rfl,rfl⟩,tR⟩ ⟨⟨rfl,tR⟩,tR⟩ ⟨⟨rfl,tR⟩,tR⟩ ?_
 refine x.exit rfl ?_ ?_
 ·exact tR
 ·refine⟨.inr rfl,?_,tR,rfl⟩
  rfl
end Go.Proofs.YtojhdmfkfkfcbaaGreatDoor
namespace Go.Proofs.YtojhdmfkfkfcbaaGreatDoor
open Go.Sx
set_option linter.unusedVariables false
set_option linter.unusedSimpArgs false
set_option maxRecDepth 100000
theorem sb_get (s:ByteArray) (i:Nat):sb s i=((s.get! i).toNat:Int):=by
 unfold sb
 congr 2
 cases s with
 | mk d=>
  show d.toList.getD i 0=d[i]!
  simp [List.getD_eq_getElem?_getD,getElem!_def]
  cases h:d[i]?<;>simp<;>rfl
theorem sb_nonneg (s:ByteArray) (i:Nat):0≤sb s i:=by unfold sb;exact Int.natCast_nonneg _
theorem sb_lt (s:ByteArray) (i:Nat):sb s i<256:=by unfold sb;have:=(s.data.toList.getD i 0).toNat_lt;omega
theorem wrap_u8 {n:Nat} (h:n<256):IntKind.u8.wrap (n:Int)=n:=by
 show (n:Int)%256=n
 omega
theorem mask (x:Nat) (m k:Nat) (hx:x<256) (hm:m=2 ^ k-1) (hm':m<256):bitI .and .u8 (x:Int) (m:Int)=((x%2 ^ k:Nat):Int):=by
 unfold bitI
 simp only
 rw[BitVec.toNat_and]
 have h1:(BitVec.ofInt IntKind.u8.bits (x:Int)).toNat=x:=by
  show (BitVec.ofInt 8 (x:Int)).toNat=x
  simp [BitVec.toNat_ofInt];omega
 have h2:(BitVec.ofInt IntKind.u8.bits (m:Int)).toNat=m:=by
  show (BitVec.ofInt 8 (m:Int)).toNat=m
  simp [BitVec.toNat_ofInt];omega
 rw[h1,h2,hm,Nat.and_two_pow_sub_one_eq_mod]
 refine wrap_u8 (Nat.lt_of_le_of_lt (Nat.mod_le _ _) hx)
theorem maskI (x:Int) (m k:Nat) (h0:0≤x) (hx:x<256) (hm:m=2 ^ k-1) (hm':m<256):bitI .and .u8 x (m:Int)=x%(2 ^ k:Nat):=by
 obtain⟨y,rfl⟩:=Int.eq_ofNat_of_zero_le h0
 rw[mask y m k (by omega) hm hm']
 rfl
theorem mask31 {x:Int} (h0:0≤x) (hx:x<256):bitI .and .u8 x 31=x%32:=maskI x 31 5 h0 hx rfl (by decide)
theorem mask63 {x:Int} (h0:0≤x) (hx:x<256):bitI .and .u8 x 63=x%64:=maskI x 63 6 h0 hx rfl (by decide)
def moreB (s:ByteArray) (i lo hi:Int):Bool:=decide (i<s.size)&&decide (lo≤sb s i.toNat)&&decide (sb s i.toNat≤hi)
theorem ite_cg {α:Type} {c c':Prop} [Decidable c] [Decidable c'] {x x' y y':α} (h:c↔c') (e1:x=x') (e2:y=y'):ite c x y=ite c' x' y':=by
 subst e1 e2
 by_cases hc:c
 ·rw[if_pos hc,if_pos (h.1 hc)]
 ·rw[if_neg hc,if_neg (fun h'=>hc (h.2 h'))]
def bt (s:ByteArray) (i:Nat):Nat:=(s.get! i).toNat
theorem sb_bt (s:ByteArray) (i:Nat):sb s i=(bt s i:Int):=sb_get s i
theorem bt_lt (s:ByteArray) (i:Nat):bt s i<256:=(s.get! i).toNat_lt
def dec (sz p a b c d:Nat):Nat×Nat:=
 if a<128 then (a,1)
 else if a/32=6∧p+1<sz∧b/64=2 then
  if 128≤a%32*64+b%64 then (a%32*64+b%64,2) else (65533,1)
 else if a/16=14∧p+1<sz∧b/64=2∧p+2<sz∧c/64=2 then
  if 2048≤a%16*4096+b%64*64+c%64∧¬(55296≤a%16*4096+b%64*64+c%64∧a%16*4096+b%64*64+c%64≤57343)
  then (a%16*4096+b%64*64+c%64,3) else (65533,1)
 else if a/8=30∧p+1<sz∧b/64=2∧p+2<sz∧c/64=2∧p+3<sz∧d/64=2 then
  if 65536≤a%8*262144+b%64*4096+c%64*64+d%64∧a%8*262144+b%64*4096+c%64*64+d%64≤1114111
  then (a%8*262144+b%64*4096+c%64*64+d%64,4) else (65533,1)
 else (65533,1)
theorem decode_eq (s:ByteArray) (p:Nat):Utf8.decode s p=dec s.size p (bt s p) (bt s (p+1)) (bt s (p+2)) (bt s (p+3)):=by
 unfold Utf8.decode dec
 have hr:Utf8.runeError=65533:=rfl
 have e:∀k,(s.get! k).toNat=bt s k:=fun k=>rfl
 have h1:=bt_lt s (p+1)
 have h2:=bt_lt s (p+2)
 have h3:=bt_lt s (p+3)
 have h0:=bt_lt s p
 simp only[hr,e,Nat.add_zero,Bool.and_eq_true,decide_eq_true_eq,beq_iff_eq,and_assoc]
 refine ite_cg Iff.rfl rfl (ite_cg Iff.rfl rfl (ite_cg Iff.rfl (ite_cg ?_ rfl rfl) (ite_cg Iff.rfl (ite_cg ?_ rfl rfl) rfl)))
 ·simp only[Utf8.valid,Bool.or_eq_true,Bool.and_eq_true,decide_eq_true_eq]
  omega
 ·simp only[Utf8.valid,Bool.or_eq_true,Bool.and_eq_true,decide_eq_true_eq]
  omega
def formV (s:ByteArray) (i:Int):Int×Int:=
 if 0≤i∧i<s.size then
  if (Utf8.decode s i.toNat).2=1∧128≤bt s i.toNat then (0,0) else (((Utf8.decode s i.toNat).1:Int),((Utf8.decode s i.toNat).2:Int))
 else (0,0)
section
variable {s:ByteArray} {i:Int} (h:0≤i∧i<s.size)
include h
end
section
variable {s:ByteArray} {i:Int} (h:0≤i∧i<s.size) (hs:s.size≤9223372036854775807)
include h hs
theorem ob2 (h2:(decide (194≤sb s i.toNat)&&decide (sb s i.toNat≤223)&&moreB s (i+1) 128 191)=true) :
  AllP [inI64 (bitI BinOp.and IntKind.u8 (sb s i.toNat) 31),inI64 (bitI BinOp.and IntKind.u8 (sb s i.toNat) 31*64),
   inI64 (i+1),0≤i+1∧i+1 < ↑s.size,inI64 (bitI BinOp.and IntKind.u8 (sb s (i+1).toNat) 63),
   inI64 (bitI BinOp.and IntKind.u8 (sb s i.toNat) 31*64+bitI BinOp.and IntKind.u8 (sb s (i+1).toNat) 63)]:=by
 rw[mask31 (sb_nonneg _ _) (sb_lt _ _),mask63 (sb_nonneg _ _) (sb_lt _ _)]
 simp only[moreB,Bool.and_eq_true,decide_eq_true_eq] at h2
 simp only[AllP,inI64]
 omega
end
def nextV (s:ByteArray) (i:Int):Int:=if (formV s i).2=0 then i+1 else i+(formV s i).2
theorem decode_pos (s:ByteArray) (p:Nat):1≤(Utf8.decode s p).2∧(Utf8.decode s p).2≤4∧(Utf8.decode s p).1<4294967296:=by
 rw[decode_eq]
 have h0:=bt_lt s p
 unfold dec
 repeat' split
 all_goals simp
 all_goals omega
def runesV (s:ByteArray):Nat->Int->Int->Int
 | 0,_,c=>c
 | n+1,i,c=>if i<s.size then runesV s n (nextV s i) (c+1) else c
def badV (s:ByteArray):Nat->Int->Int
 | 0,_=>-1
 | n+1,i=>if i<s.size then if (formV s i).2=0 then i else badV s n (i+(formV s i).2) else -1
theorem badV_end {s:ByteArray} {n:Nat} {i:Int} (h:¬i<s.size):badV s n i=-1:=by
 cases n with
 | zero=>rfl
 | succ n=>rw[badV,if_neg h]
theorem dec_bad (sz p a b c d:Nat) (h1:(dec sz p a b c d).2=1) (h2:128≤a):(dec sz p a b c d).1=65533:=by
 unfold dec at *
 split
 ·omega
 split
 ·rw[if_neg (by omega)] at h1
  split
  ·rename_i h3 h4 h5;rw[if_pos h4,if_pos h5] at h1;simp at h1
  ·rfl
 split
 ·rename_i h3 h4 h5
  rw[if_neg h3,if_neg h4,if_pos h5] at h1
  split
  ·rename_i h6;rw[if_pos h6] at h1;simp at h1
  ·rfl
 split
 ·rename_i h3 h4 h5 h6
  rw[if_neg h3,if_neg h4,if_neg h5,if_pos h6] at h1
  split
  ·rename_i h7;rw[if_pos h7] at h1;simp at h1
  ·rfl
 ·rfl
theorem formV_at {s:ByteArray} {p:Nat} (h:p<s.size):formV s (p:Int)=if (Utf8.decode s p).2=1∧128≤bt s p then (0,0) else (((Utf8.decode s p).1:Int),((Utf8.decode s p).2:Int)):=by
 unfold formV
 rw[if_pos (by omega),Int.toNat_natCast]
theorem nextV_at {s:ByteArray} {p:Nat} (h:p<s.size):nextV s (p:Int)=((p+(Utf8.decode s p).2:Nat):Int):=by
 have hd:=decode_pos s p
 unfold nextV
 rw[formV_at h]
 by_cases h1:(Utf8.decode s p).2=1∧128≤bt s p
 ·rw[if_pos h1,if_pos rfl,h1.1];rfl
 ·rw[if_neg h1,if_neg (by show ¬((Utf8.decode s p).2:Int)=0;omega)];rfl
theorem tabs_of_env {F:Nat->Prop} {w:World} (h:EnvOK PG.env F w):Lib.Utf8Tabs 1 2 w:=by
 refine⟨fun c hc=>(h _ _ _ (.head _)).2.1 c hc,fun i hi=>⟨?_,?_⟩⟩
 ·have:=(h _ _ _ (.tail _ (.head _))).2.1 (2*i) (by omega)
  rw[this,if_pos (by omega),show 2*i/2=i by omega]
 ·have:=(h _ _ _ (.tail _ (.head _))).2.1 (2*i+1) (by omega)
  rw[this,if_neg (by omega),show (2*i+1)/2=i by omega]
theorem mem_env_cons {A B:Nat×Nat×(Nat->Value)} {l:List (Nat×Nat×(Nat->Value))} {Q:Nat->Nat->(Nat->Value)->Prop} (h:Q B.1 B.2.1 B.2.2) (k:A∈l->Q A.1 A.2.1 A.2.2):A∈B::l->Q A.1 A.2.1 A.2.2:=fun hm=>by
 rcases List.mem_cons.1 hm with rfl | hm
 ·exact h
 ·exact k hm
theorem env_of_tabs {W:World} (h:Lib.Utf8Tabs 1 2 W)
  (hN:∀j,j<13->W.cell? ⟨3,j,none⟩=some (.string (opAt j)))
  (hT:∀j,j<64->W.cell? ⟨4,j,none⟩=some (.int .u8 (tzTab.getD j 0)))
  (hL:∃m,W.cell? ⟨0,0,none⟩=some (.int .i64 m))
  : EnvOK PG.env (fun k=>k<W.heap.size) W:=by
 have lt:∀{b j:Nat} {v:Value},W.cell? ⟨b,j,none⟩=some v->b<W.heap.size:=fun {b j v} hc=>by
  refine Classical.byContradiction fun hn=>?_
  have:W.heap[b]?=none:=Array.getElem?_eq_none (by omega)
  simp [World.cell?,this] at hc
 intro g n f hm
 rcases List.mem_cons.1 hm with e | hm
 ·simp only[Prod.mk.injEq] at e
  obtain⟨rfl,rfl,rfl⟩:=e
  exact⟨lt (h.1 0 (by omega)),fun j hj=>h.1 j hj,fun h0=>by cases h0⟩
 ·rcases List.mem_cons.1 hm with e | hm
  ·simp only[Prod.mk.injEq] at e
   obtain⟨rfl,rfl,rfl⟩:=e
   refine⟨lt (h.2 0 (by omega)).1,fun j hj=>?_,fun h0=>by cases h0⟩
   obtain⟨h1,h2⟩:=h.2 (j/2) (by omega)
   by_cases hj2:j%2=0
   ·have e:2*(j/2)=j:=by omega
    dsimp only
    rw[if_pos hj2,←h1,e]
   ·have e:2*(j/2)+1=j:=by omega
    dsimp only
    rw[if_neg hj2,←h2,e]
  ·revert hm
   refine mem_env_cons (A:=(g,n,f)) (Q:=fun g n f=>(g<W.heap.size)∧(∀j,j<n->W.cell? ⟨g,j,none⟩=some (f j))∧(n=0->∃m,W.cell? ⟨g,0,none⟩=some (.int .i64 m))) ?_ ?_
   ·exact⟨lt (hN 0 (by omega)),fun j hj=>hN j hj,fun h0=>by cases h0⟩
   refine mem_env_cons (A:=(g,n,f)) (Q:=fun g n f=>(g<W.heap.size)∧(∀j,j<n->W.cell? ⟨g,j,none⟩=some (f j))∧(n=0->∃m,W.cell? ⟨g,0,none⟩=some (.int .i64 m))) ?_ ?_
   ·exact⟨lt (hT 0 (by omega)),fun j hj=>hT j hj,fun h0=>by cases h0⟩
   refine mem_env_cons (A:=(g,n,f)) (Q:=fun g n f=>(g<W.heap.size)∧(∀j,j<n->W.cell? ⟨g,j,none⟩=some (f j))∧(n=0->∃m,W.cell? ⟨g,0,none⟩=some (.int .i64 m))) ?_ ?_
   ·exact⟨lt hL.choose_spec,fun j hj=>absurd hj (Nat.not_lt_zero _),fun _=>hL⟩
   intro hm;cases hm
theorem decodeRune_spec (s:ByteArray):Pure PG 81 [vs s] (.tup [.d (.int .i32 ((Lib.decodeGo s).1:Int)),vi ((Lib.decodeGo s).2:Int)]) []:=
 Pure.ofLib (vals:=[.string s]) (callable_of Tryz.func81 (by kernel_rfl) (by kernel_rfl)) rfl rfl rfl rfl fun w F hE=>Tryz.utf8_DecodeRuneInString s w (tabs_of_env hE)
theorem extract_data (s:ByteArray) (p:Nat):(s.extract p s.size).data.toList=s.data.toList.drop p:=by
 rw[ByteArray.data_extract,Array.toList_extract]
 show (s.data.toList.drop p).take (s.size-p)=_
 rw[List.take_of_length_le]
 rw[List.length_drop,show s.data.toList.length=s.size from Array.length_toList]
 omega
theorem extract_size (s:ByteArray) (p:Nat):(s.extract p s.size).size=s.size-p:=by
 rw[show (s.extract p s.size).size=(s.extract p s.size).data.toList.length from (Array.length_toList).symm,extract_data,List.length_drop,Array.length_toList]
 rfl
theorem bt_getD (s:ByteArray) (i:Nat):bt s i=(s.data.toList.getD i 0).toNat:=by
 have:=sb_bt s i
 unfold sb at this
 omega
theorem bt_extract (s:ByteArray) (p k:Nat):bt (s.extract p s.size) k=bt s (p+k):=by
 rw[bt_getD,bt_getD,extract_data,List.getD_eq_getElem?_getD,List.getD_eq_getElem?_getD,List.getElem?_drop]
theorem dec_back (sz p a b c d:Nat) (h:p≤sz):dec (sz-p) 0 a b c d=dec sz p a b c d:=by
 unfold dec
 have h1:(0+1<sz-p)↔(p+1<sz):=by omega
 have h2:(0+2<sz-p)↔(p+2<sz):=by omega
 have h3:(0+3<sz-p)↔(p+3<sz):=by omega
 simp only[h1,h2,h3]
theorem decodeGo_at {s:ByteArray} {p:Nat} (h:p<s.size):Lib.decodeGo (s.extract p s.size)=Utf8.decode s p:=by
 unfold Lib.decodeGo
 rw[if_neg (by rw[extract_size];omega),decode_eq,decode_eq,extract_size,dec_back _ _ _ _ _ _ (by omega)]
 simp only[bt_extract,Nat.zero_add,Nat.add_zero]
theorem form_zero {s:ByteArray} {p:Nat} (h:p<s.size):(formV s (p:Int)).2=0↔(Utf8.decode s p).1=65533∧(Utf8.decode s p).2=1:=by
 obtain⟨d1,d2,d3⟩:=decode_pos s p
 rw[formV_at h]
 constructor
 ·intro hz
  split at hz
  ·rename_i hb
   refine⟨?_,hb.1⟩
   rw[decode_eq] at hb ⊢
   exact dec_bad _ _ _ _ _ _ hb.1 hb.2
  ·have:((Utf8.decode s p).2:Int)=0:=hz
   omega
 ·rintro ⟨h1,h2⟩
  have h128:128≤bt s p:=Classical.byContradiction fun hlt=>by
   rw[decode_eq,dec,if_pos (by omega)] at h1
   have h1':bt s p=65533:=h1
   omega
  rw[if_pos ⟨h2,h128⟩]
structure BW (s:ByteArray) where
 n:Nat
 p:Nat
 fuel:s.size≤p+n
 same:badV s n p=badV s s.size 0
 hp:p≤s.size+4
theorem badW_spec (s:ByteArray) (hs:s.size≤9223372036854775807):Pure PG 35 [vs s] (vi (badV s s.size 0)) []:=by
 refine Proc.mk (cfg 25) tysOK [] Tryz.func35 rfl (by kernel_rfl) rfl rfl rfl ?_
 intro C x
 refine x.loop (α:=BW s) (fun y=>⟨[(0,vs s),(8, .ptr 0 0)],[(0, .iter s y.p)],1⟩) (fun y=>s.size+4-y.p) ⟨s.size,0,by omega,rfl,by omega⟩ rfl tR ?_ (fun y=>?_)
 ·exact⟨⟨rfl,⟨rfl,rfl⟩,tR⟩,⟨⟨rfl,rfl⟩,tR⟩,rfl⟩
 obtain⟨n,p,fuel,same,hp⟩:=y
 change Go C _ ⟨[(0,vs s),(8, .ptr 0 0)],[(0, .iter s p)],1⟩ _
 obtain⟨d1,d2,d3⟩:=decode_pos s p
 refine x.next rfl tR rfl rfl rfl (fun h=>?_) (fun h=>?_)
 ·have h:p<s.size:=h
  refine x.cond rfl tR (fun _=>?_) (fun h1=>by cases h1)
  cases n with
  | zero=>omega
  | succ n=>
   have hz:=form_zero h
   rw[badV,if_pos (by omega)] at same
   have hgo:¬(formV s (p:Int)).2=0->(p:Int)+(formV s (p:Int)).2=((p+(Utf8.decode s p).2:Nat):Int):=fun hne=>by
    rw[formV_at h] at hne ⊢
    split
    ·rename_i hb;rw[if_pos hb] at hne;exact absurd rfl hne
    ·rfl
   have next:¬(formV s (p:Int)).2=0->∃y:BW s,y.p=p+(Utf8.decode s p).2:=fun hne=>by
    rw[if_neg hne,hgo hne] at same
    exact⟨⟨n,p+(Utf8.decode s p).2,by omega,same,by omega⟩,rfl⟩
   refine x.cond rfl tR (fun h2=>?_) (fun h2=>?_)
   ·have h2':(Utf8.decode s p).1=65533:=by
     simp only[decide_eq_true_eq] at h2
     omega
    refine x.pure rfl ?_ rfl (decodeRune_spec (s.extract p s.size)) ⟨?_,tR⟩ ?_
    ·simp only[AllP];omega
    ·show s.extract (p:Int).toNat (s.size:Int).toNat=s.extract p s.size
     rw[Int.toNat_natCast,Int.toNat_natCast]
    rw[decodeGo_at h]
    refine x.cond rfl tR (fun h3=>?_) (fun h3=>?_)
    ·have h3':(Utf8.decode s p).2=1:=by
      simp only[decide_eq_true_eq] at h3
      omega
     rw[if_pos (hz.2 ⟨h2',h3'⟩)] at same
     refine x.exit rfl tR ?_
     refine⟨.inr rfl,?_,tR,rfl⟩
     rw[←same]
     exact rfl
    ·have h3':¬(Utf8.decode s p).2=1:=by
      simp only[decide_eq_false_iff_not] at h3
      omega
     obtain⟨y,hy⟩:=next (fun e=>h3' (hz.1 e).2)
     refine x.back rfl tR ⟨y,by show s.size+4-y.p<s.size+4-p;rw[hy];omega,⟨rfl,⟨rfl,rfl⟩,tR⟩,⟨⟨rfl,hy.symm⟩,tR⟩,rfl⟩
   ·have h2':¬(Utf8.decode s p).1=65533:=by
     simp only[decide_eq_false_iff_not] at h2
     omega
    obtain⟨y,hy⟩:=next (fun e=>h2' (hz.1 e).1)
    refine x.back rfl tR ⟨y,by show s.size+4-y.p<s.size+4-p;rw[hy];omega,⟨rfl,⟨rfl,rfl⟩,tR⟩,⟨⟨rfl,hy.symm⟩,tR⟩,rfl⟩
 ·have h:¬p<s.size:=h
  refine x.cond rfl tR (fun h1=>by cases h1) (fun _=>?_)
  refine x.exit rfl tR ?_
  refine⟨.inr rfl,?_,tR,rfl⟩
  rw[←same,badV_end (by omega)]
  exact rfl
def letB (r:Int):Bool:=(decide (97≤r)&&decide (r≤122)||decide (65≤r)&&decide (r≤90)||decide (r=95)||decide (945≤r)&&decide (r≤969)||decide (913≤r)&&decide (r≤937)&&!decide (r=930))
def digB (r:Int):Bool:=(decide (48≤r)&&decide (r≤57))
def nameW (s:ByteArray):Nat->Nat->Int->Bool
 | 0,_,c=>decide (0<c)
 | n+1,p,c=>if p<s.size then
   if (!letB (Utf8.decode s p).1&&(decide ((p:Int)=0)||!digB (Utf8.decode s p).1))=true then false
   else if 24<c+1 then false else nameW s n (p+(Utf8.decode s p).2) (c+1)
  else decide (0<c)
theorem nameW_end {s:ByteArray} {n p:Nat} {c:Int} (h:¬p<s.size):nameW s n p c=decide (0<c):=by
 cases n with
 | zero=>rfl
 | succ n=>rw[nameW,if_neg h]
structure NI (s:ByteArray) where
 n:Nat
 p:Nat
 c:Int
 fuel:s.size≤p+n
 same:nameW s n p c=nameW s s.size 0 0
 hc:0≤c∧c≤24
 hp:p≤s.size+4
theorem name_spec (s:ByteArray) (hs:s.size≤9223372036854775807):Pure PG 118 [vs s] (vb (nameW s s.size 0 0)) []:=by
 refine Proc.mk (cfg 30) tysOK [] Tryz.func118 rfl (by kernel_rfl) rfl rfl rfl ?_
 intro C x
 refine x.loop (α:=NI s) (fun y=>⟨[(0,vs s),(3,vi y.c),(7, .ptr 0 0)],[(0, .iter s y.p)],1⟩) (fun y=>s.size+4-y.p) ⟨s.size,0,0,by omega,rfl,by omega,by omega⟩ rfl tR ?_ (fun y=>?_)
 ·exact⟨⟨rfl,rfl,⟨rfl,rfl⟩,tR⟩,⟨⟨rfl,rfl⟩,tR⟩,rfl⟩
 obtain⟨n,p,c,fuel,same,hc,hp⟩:=y
 change Go C _ ⟨[(0,vs s),(3,vi c),(7, .ptr 0 0)],[(0, .iter s p)],1⟩ _
 obtain⟨d1,d2,d3⟩:=decode_pos s p
 refine x.next rfl tR rfl rfl rfl (fun h=>?_) (fun h=>?_)
 ·refine x.cond rfl tR (fun _=>?_) (fun h1=>by cases h1)
  refine x.pure rfl tR rfl (letter_spec _) ⟨rfl,tR⟩ ?_
  refine x.pureG rfl tR rfl (fun _ _=>digit_spec _) rfl ⟨rfl,tR⟩ ?_
  cases n with
  | zero=>omega
  | succ n=>
   rw[nameW,if_pos h] at same
   refine x.cond rfl tR (fun h2=>?_) (fun h2=>?_)
   ·refine x.exit rfl tR ?_
    refine⟨.inr rfl,?_,tR,rfl⟩
    rw[if_pos (show (!letB (Utf8.decode s p).1&&(decide ((p:Int)=0)||!digB (Utf8.decode s p).1))=true from h2)] at same
    rw[←same]
    exact rfl
   ·rw[if_neg (by rw[show (!letB (Utf8.decode s p).1&&(decide ((p:Int)=0)||!digB (Utf8.decode s p).1))=false from h2];simp)] at same
    refine x.cond rfl (show inI64 (c+1) by unfold inI64;omega) (fun h3=>?_) (fun h3=>?_)
    ·refine x.exit rfl tR ?_
     refine⟨.inr rfl,?_,tR,rfl⟩
     rw[if_pos (by simpa using h3)] at same
     rw[←same]
     exact rfl
    ·rw[if_neg (by simpa using h3)] at same
     refine x.back rfl tR ?_
     refine⟨⟨n,p+(Utf8.decode s p).2,c+1,by omega,same,by simp at h3;omega,by omega⟩,by show s.size+4-(p+(Utf8.decode s p).2)<s.size+4-p;omega,?_⟩
     exact⟨⟨rfl,rfl,⟨rfl,rfl⟩,tR⟩,⟨⟨rfl,rfl⟩,tR⟩,rfl⟩
 ·refine x.cond rfl tR (fun h1=>by cases h1) (fun _=>?_)
  refine x.exit rfl tR ?_
  refine⟨.inr rfl,?_,tR,rfl⟩
  rw[←same,nameW_end h]
  exact rfl
def dl (s:ByteArray):Nat->Nat->List (Nat×Nat×Nat)
 | 0,_=>[]
 | n+1,p=>if p<s.size then (p,(Utf8.decode s p).1,(Utf8.decode s p).2)::dl s n (p+(Utf8.decode s p).2) else []
theorem dl_end {s:ByteArray} {n p:Nat} (h:¬p<s.size):dl s n p=[]:=by
 cases n with
 | zero=>rfl
 | succ n=>rw[dl,if_neg h]
theorem dl_fuel (s:ByteArray):∀(n m p:Nat),s.size≤p+n->s.size≤p+m->dl s n p=dl s m p
 | 0,m,p,h1,h2=>by rw[dl_end (by omega),dl_end (by omega)]
 | n+1,0,p,h1,h2=>by rw[dl_end (by omega),dl_end (by omega)]
 | n+1,m+1,p,h1,h2=>by
  have:=decode_pos s p
  rw[dl,dl,dl_fuel s n m _ (by omega) (by omega)]
theorem dl_runes (s:ByteArray):∀(n p:Nat) (c:Int),s.size≤p+n->runesV s n p c=c+(dl s n p).length
 | 0,p,c,h=>by simp [runesV,dl]
 | n+1,p,c,h=>by
  have:=decode_pos s p
  rw[runesV,dl]
  by_cases hp:p<s.size
  ·rw[if_pos (by omega),if_pos hp,nextV_at hp,dl_runes s n _ _ (by omega)]
   simp
   omega
  ·rw[if_neg (by omega),if_neg hp]
   simp
def okR (x:Nat×Nat×Nat):Bool:=!(decide (x.2.1=65533)&&decide (x.2.2=1))
theorem dl_bad (s:ByteArray):∀(n p:Nat),s.size≤p+n->(badV s n p<0↔badV s n p=-1)∧(badV s n p=-1↔(dl s n p).all okR=true)
 | 0,p,h=>by simp [badV,dl]
 | n+1,p,h=>by
  have:=decode_pos s p
  rw[badV,dl]
  by_cases hp:p<s.size
  ·have hz:=form_zero hp
   rw[if_pos (by omega),if_pos hp]
   by_cases h0:(formV s (p:Int)).2=0
   ·rw[if_pos h0]
    have:=hz.1 h0
    simp only[List.all_cons,okR,this]
    simp
   ·rw[if_neg h0]
    have hgo:(p:Int)+(formV s (p:Int)).2=((p+(Utf8.decode s p).2:Nat):Int):=by
     rw[formV_at hp] at h0 ⊢
     split
     ·rename_i hb;rw[if_pos hb] at h0;exact absurd rfl h0
     ·rfl
    have ih:=dl_bad s n (p+(Utf8.decode s p).2) (by omega)
    rw[hgo]
    refine⟨ih.1,?_⟩
    rw[ih.2,List.all_cons,show okR (p,(Utf8.decode s p).1,(Utf8.decode s p).2)=true from ?_,Bool.true_and]
    simp only[okR,Bool.not_eq_true',Bool.and_eq_false_iff,decide_eq_false_iff_not]
    by_cases e:(Utf8.decode s p).1=65533
    ·exact .inr fun e2=>h0 (hz.2 ⟨e,e2⟩)
    ·exact .inl e
  ·rw[if_neg (by omega),if_neg hp]
   simp
theorem dec_more {sz sz' p a b c d b' c' d':Nat} (h:¬((dec sz p a b c d).1=65533∧(dec sz p a b c d).2=1)) (hb:p+1<sz->b'=b) (hc:p+2<sz->c'=c) (hd:p+3<sz->d'=d) (hs:sz≤sz'):dec sz' p a b' c' d'=dec sz p a b c d:=by
 unfold dec at *
 by_cases h1:a<128
 ·rw[if_pos h1,if_pos h1]
 rw[if_neg h1] at h ⊢
 rw[if_neg h1]
 by_cases h2:a/32=6∧p+1<sz∧b/64=2
 ·obtain rfl:=hb h2.2.1
  rw[if_pos h2,if_pos (by omega)]
 rw[if_neg h2] at h ⊢
 by_cases h3:a/16=14∧p+1<sz∧b/64=2∧p+2<sz∧c/64=2
 ·obtain rfl:=hb h3.2.1
  obtain rfl:=hc h3.2.2.2.1
  rw[if_pos h3,if_neg (by omega),if_pos (by omega)]
 rw[if_neg h3] at h ⊢
 by_cases h4:a/8=30∧p+1<sz∧b/64=2∧p+2<sz∧c/64=2∧p+3<sz∧d/64=2
 ·obtain rfl:=hb h4.2.1
  obtain rfl:=hc h4.2.2.2.1
  obtain rfl:=hd h4.2.2.2.2.2.1
  rw[if_pos h4,if_neg (by omega),if_neg (by omega),if_pos (by omega)]
 rw[if_neg h4] at h
 exact absurd ⟨rfl,rfl⟩ h
theorem dec_room (sz p a b c d:Nat) (h:p<sz):p+(dec sz p a b c d).2≤sz:=by
 unfold dec
 repeat' split
 all_goals (simp only;omega)
theorem size_list (s:ByteArray):s.size=s.data.toList.length:=(Array.length_toList).symm
theorem app_data (a b:ByteArray):(a++b).data.toList=a.data.toList++b.data.toList:=by rw[ByteArray.data_append,Array.toList_append]
theorem app_size (a b:ByteArray):(a++b).size=a.size+b.size:=by rw[size_list,app_data,List.length_append,←size_list,←size_list]
theorem bt_left {a b:ByteArray} {i:Nat} (h:i<a.size):bt (a++b) i=bt a i:=by
 rw[size_list] at h
 rw[bt_getD,bt_getD,app_data,List.getD_eq_getElem?_getD,List.getD_eq_getElem?_getD,List.getElem?_append_left h]
theorem bt_right (a b:ByteArray) (i:Nat):bt (a++b) (a.size+i)=bt b i:=by
 rw[bt_getD,bt_getD,app_data,List.getD_eq_getElem?_getD,List.getD_eq_getElem?_getD,size_list a,List.getElem?_append_right (by omega)]
 congr 3
 omega
theorem dec_shift (sz p k a b c d:Nat):dec (k+sz) (k+p) a b c d=dec sz p a b c d:=by
 unfold dec
 have h1:(k+p+1<k+sz)↔(p+1<sz):=by omega
 have h2:(k+p+2<k+sz)↔(p+2<sz):=by omega
 have h3:(k+p+3<k+sz)↔(p+3<sz):=by omega
 simp only[h1,h2,h3]
theorem decode_right (a b:ByteArray) (p:Nat):Utf8.decode (a++b) (a.size+p)=Utf8.decode b p:=by
 have b1:=bt_right a b (p+1)
 have b2:=bt_right a b (p+2)
 have b3:=bt_right a b (p+3)
 rw[←Nat.add_assoc] at b1 b2 b3
 rw[decode_eq,decode_eq,app_size,b1,b2,b3,bt_right,dec_shift]
theorem decode_left {a:ByteArray} (b:ByteArray) {p:Nat} (hp:p<a.size) (h:¬((Utf8.decode a p).1=65533∧(Utf8.decode a p).2=1)):Utf8.decode (a++b) p=Utf8.decode a p:=by
 rw[decode_eq] at h
 rw[decode_eq,decode_eq,app_size,bt_left hp]
 exact dec_more h (fun hh=>bt_left hh) (fun hh=>bt_left hh) (fun hh=>bt_left hh) (Nat.le_add_right _ _)
theorem decode_room {s:ByteArray} {p:Nat} (h:p<s.size):p+(Utf8.decode s p).2≤s.size:=by
 rw[decode_eq]
 exact dec_room _ _ _ _ _ _ h
def shR (k:Nat) (x:Nat×Nat×Nat):Nat×Nat×Nat:=(k+x.1,x.2.1,x.2.2)
theorem dl_right (a b:ByteArray):∀(n p:Nat),dl (a++b) n (a.size+p)=(dl b n p).map (shR a.size)
 | 0,p=>rfl
 | n+1,p=>by
  rw[dl,dl,decode_right,app_size]
  by_cases h:p<b.size
  ·rw[if_pos (by omega),if_pos h,List.map_cons,Nat.add_assoc,dl_right a b n]
   rfl
  ·rw[if_neg (by omega),if_neg h]
   rfl
theorem dl_app (a b:ByteArray):∀(n p:Nat),p≤a.size->a.size≤p+n->(dl a n p).all okR=true->dl (a++b) (n+b.size) p=dl a n p++(dl b b.size 0).map (shR a.size)
 | 0,p,h1,h2,h3=>by
  obtain rfl:p=a.size:=by omega
  have:=dl_right a b b.size 0
  rw[Nat.add_zero] at this
  rw[Nat.zero_add,this]
  rfl
 | n+1,p,h1,h2,h3=>by
  by_cases hp:p<a.size
  ·rw[dl,if_pos hp] at h3
   rw[show dl a (n+1) p=(p,(Utf8.decode a p).1,(Utf8.decode a p).2)::dl a n (p+(Utf8.decode a p).2) by rw[dl,if_pos hp]]
   simp only[List.all_cons,Bool.and_eq_true] at h3
   have hd:=decode_left (a:=a) b hp (by
    have:=h3.1
    simp only[okR,Bool.not_eq_true',Bool.and_eq_false_iff,decide_eq_false_iff_not] at this
    rintro ⟨e1,e2⟩
    rcases this with h | h
    ·exact h e1
    ·exact h e2)
   have hr:=decode_room hp
   have:=decode_pos a p
   rw[show n+1+b.size=(n+b.size)+1 by omega,dl,if_pos (by rw[app_size];omega),hd,dl_app a b n _ hr (by omega) h3.2]
   rfl
  ·obtain rfl:p=a.size:=by omega
   have h4:dl (a++b) (n+1+b.size) a.size=_:=dl_right a b (n+1+b.size) 0
   rw[h4,dl_end (s:=a) hp,dl_fuel b (n+1+b.size) b.size 0 (by omega) (by omega)]
   rfl
def rl (s:ByteArray):List (Nat×Nat×Nat):=dl s s.size 0
theorem rl_app {a:ByteArray} (b:ByteArray) (h:(rl a).all okR=true):rl (a++b)=rl a++(rl b).map (shR a.size):=by
 unfold rl at *
 rw[dl_fuel (a++b) (a++b).size (a.size+b.size) 0 (by omega) (by rw[app_size];omega)]
 exact dl_app a b a.size 0 (by omega) (by omega) h
theorem bad_rl (s:ByteArray):(badV s s.size 0=-1↔(rl s).all okR=true)∧(badV s s.size 0<0↔(rl s).all okR=true):=by
 have:=dl_bad s s.size 0 (by omega)
 exact⟨this.2,this.1.trans this.2⟩
def wordsL:List (List UInt8):=[[97,114,114,97,121],[102,110],[99,111,110,115,116],[112,104,105],[108,111,97,100],[119,114,97,112],[115,116,111,114,101],[99,97,108,108],[105,110,112,117,116],[111,117,116,112,117,116],[114,101,108,101,97,115,101],[106,117,109,112],[98,114,97,110,99,104],[114,101,116,117,114,110],[97,100,100],[115,117,98],[109,117,108],[100,105,118],[109,111,100],[97,110,100],[111,114],[120,111,114],[115,104,108],[115,104,114],[101,113],[108,101,115,115]]
def wordB (s:ByteArray):Bool:=decide (s.data.toList∈wordsL)
theorem word_in {s:ByteArray} {l:List UInt8} (h:s.data.toList=l) (hl:l∈wordsL):wordB s=true:=by
 unfold wordB;rw[h];exact decide_eq_true hl
theorem word_spec (s:ByteArray):Pure PG 119 [vs s] (vb (wordB s)) []:=by
 refine Proc.mk (cfg 32) tysOK [] Tryz.func119 rfl (by kernel_rfl) rfl rfl rfl ?_
 intro C x
 refine x.cond rfl tR (fun h=>?_) (fun a0=>?_)
 ·refine x.cond rfl tR (fun _=>?_) (fun h2=>?_)
  ·refine x.exit rfl tR ?_
   refine⟨.inr rfl,?_,tR,rfl⟩
   exact (word_in (of_decide_eq_true h) (l:=[97,114,114,97,121]) (by decide)).symm
  ·exact absurd (h.symm.trans h2) (by simp)
 have a0:¬s.data.toList=[97,114,114,97,121]:=of_decide_eq_false a0
 refine x.cond rfl tR (fun h=>?_) (fun a1=>?_)
 ·refine x.cond rfl tR (fun _=>?_) (fun h2=>?_)
  ·refine x.exit rfl tR ?_
   refine⟨.inr rfl,?_,tR,rfl⟩
   exact (word_in (of_decide_eq_true h) (l:=[102,110]) (by decide)).symm
  ·exact absurd (h.symm.trans h2) (by simp)
 have a1:¬s.data.toList=[102,110]:=of_decide_eq_false a1
 refine x.cond rfl tR (fun h=>?_) (fun a2=>?_)
 ·refine x.cond rfl tR (fun _=>?_) (fun h2=>?_)
  ·refine x.exit rfl tR ?_
   refine⟨.inr rfl,?_,tR,rfl⟩
   exact (word_in (of_decide_eq_true h) (l:=[99,111,110,115,116]) (by decide)).symm
  ·exact absurd (h.symm.trans h2) (by simp)
 have a2:¬s.data.toList=[99,111,110,115,116]:=of_decide_eq_false a2
 refine x.cond rfl tR (fun h=>?_) (fun a3=>?_)
 ·refine x.cond rfl tR (fun _=>?_) (fun h2=>?_)
  ·refine x.exit rfl tR ?_
   refine⟨.inr rfl,?_,tR,rfl⟩
   exact (word_in (of_decide_eq_true h) (l:=[112,104,105]) (by decide)).symm
  ·exact absurd (h.symm.trans h2) (by simp)
 have a3:¬s.data.toList=[112,104,105]:=of_decide_eq_false a3
 refine x.cond rfl tR (fun h=>?_) (fun a4=>?_)
 ·refine x.cond rfl tR (fun _=>?_) (fun h2=>?_)
  ·refine x.exit rfl tR ?_
   refine⟨.inr rfl,?_,tR,rfl⟩
   exact (word_in (of_decide_eq_true h) (l:=[108,111,97,100]) (by decide)).symm
  ·exact absurd (h.symm.trans h2) (by simp)
 have a4:¬s.data.toList=[108,111,97,100]:=of_decide_eq_false a4
 refine x.cond rfl tR (fun h=>?_) (fun a5=>?_)
 ·refine x.cond rfl tR (fun _=>?_) (fun h2=>?_)
  ·refine x.exit rfl tR ?_
   refine⟨.inr rfl,?_,tR,rfl⟩
   exact (word_in (of_decide_eq_true h) (l:=[119,114,97,112]) (by decide)).symm
  ·exact absurd (h.symm.trans h2) (by simp)
 have a5:¬s.data.toList=[119,114,97,112]:=of_decide_eq_false a5
 refine x.cond rfl tR (fun h=>?_) (fun a6=>?_)
 ·refine x.cond rfl tR (fun _=>?_) (fun h2=>?_)
  ·refine x.exit rfl tR ?_
   refine⟨.inr rfl,?_,tR,rfl⟩
   exact (word_in (of_decide_eq_true h) (l:=[115,116,111,114,101]) (by decide)).symm
  ·exact absurd (h.symm.trans h2) (by simp)
 have a6:¬s.data.toList=[115,116,111,114,101]:=of_decide_eq_false a6
 refine x.cond rfl tR (fun h=>?_) (fun a7=>?_)
 ·refine x.cond rfl tR (fun _=>?_) (fun h2=>?_)
  ·refine x.exit rfl tR ?_
   refine⟨.inr rfl,?_,tR,rfl⟩
   exact (word_in (of_decide_eq_true h) (l:=[99,97,108,108]) (by decide)).symm
  ·exact absurd (h.symm.trans h2) (by simp)
 have a7:¬s.data.toList=[99,97,108,108]:=of_decide_eq_false a7
 refine x.cond rfl tR (fun h=>?_) (fun a8=>?_)
 ·refine x.cond rfl tR (fun _=>?_) (fun h2=>?_)
  ·refine x.exit rfl tR ?_
   refine⟨.inr rfl,?_,tR,rfl⟩
   exact (word_in (of_decide_eq_true h) (l:=[105,110,112,117,116]) (by decide)).symm
  ·exact absurd (h.symm.trans h2) (by simp)
 have a8:¬s.data.toList=[105,110,112,117,116]:=of_decide_eq_false a8
 refine x.cond rfl tR (fun h=>?_) (fun a9=>?_)
 ·refine x.cond rfl tR (fun _=>?_) (fun h2=>?_)
  ·refine x.exit rfl tR ?_
   refine⟨.inr rfl,?_,tR,rfl⟩
   exact (word_in (of_decide_eq_true h) (l:=[111,117,116,112,117,116]) (by decide)).symm
  ·exact absurd (h.symm.trans h2) (by simp)
 have a9:¬s.data.toList=[111,117,116,112,117,116]:=of_decide_eq_false a9
 refine x.cond rfl tR (fun h=>?_) (fun a10=>?_)
 ·refine x.cond rfl tR (fun _=>?_) (fun h2=>?_)
  ·refine x.exit rfl tR ?_
   refine⟨.inr rfl,?_,tR,rfl⟩
   exact (word_in (of_decide_eq_true h) (l:=[114,101,108,101,97,115,101]) (by decide)).symm
  ·exact absurd (h.symm.trans h2) (by simp)
 have a10:¬s.data.toList=[114,101,108,101,97,115,101]:=of_decide_eq_false a10
 refine x.cond rfl tR (fun h=>?_) (fun a11=>?_)
 ·refine x.cond rfl tR (fun _=>?_) (fun h2=>?_)
  ·refine x.exit rfl tR ?_
   refine⟨.inr rfl,?_,tR,rfl⟩
   exact (word_in (of_decide_eq_true h) (l:=[106,117,109,112]) (by decide)).symm
  ·exact absurd (h.symm.trans h2) (by simp)
 have a11:¬s.data.toList=[106,117,109,112]:=of_decide_eq_false a11
 refine x.cond rfl tR (fun h=>?_) (fun a12=>?_)
 ·refine x.cond rfl tR (fun _=>?_) (fun h2=>?_)
  ·refine x.exit rfl tR ?_
   refine⟨.inr rfl,?_,tR,rfl⟩
   exact (word_in (of_decide_eq_true h) (l:=[98,114,97,110,99,104]) (by decide)).symm
  ·exact absurd (h.symm.trans h2) (by simp)
 have a12:¬s.data.toList=[98,114,97,110,99,104]:=of_decide_eq_false a12
 refine x.cond rfl tR (fun h=>?_) (fun a13=>?_)
 ·refine x.exit rfl tR ?_
  refine⟨.inr rfl,?_,tR,rfl⟩
  exact (word_in (of_decide_eq_true h) (l:=[114,101,116,117,114,110]) (by decide)).symm
 have a13:¬s.data.toList=[114,101,116,117,114,110]:=of_decide_eq_false a13
 refine x.cond rfl tR (fun h=>?_) (fun b0=>?_)
 ·refine x.cond rfl tR (fun _=>?_) (fun h2=>?_)
  ·refine x.exit rfl tR ?_
   refine⟨.inr rfl,?_,tR,rfl⟩
   exact (word_in (of_decide_eq_true h) (l:=[97,100,100]) (by decide)).symm
  ·exact absurd (h.symm.trans h2) (by simp)
 have b0:¬s.data.toList=[97,100,100]:=of_decide_eq_false b0
 refine x.cond rfl tR (fun h=>?_) (fun b1=>?_)
 ·refine x.cond rfl tR (fun _=>?_) (fun h2=>?_)
  ·refine x.exit rfl tR ?_
   refine⟨.inr rfl,?_,tR,rfl⟩
   exact (word_in (of_decide_eq_true h) (l:=[115,117,98]) (by decide)).symm
  ·exact absurd (h.symm.trans h2) (by simp)
 have b1:¬s.data.toList=[115,117,98]:=of_decide_eq_false b1
 refine x.cond rfl tR (fun h=>?_) (fun b2=>?_)
 ·refine x.cond rfl tR (fun _=>?_) (fun h2=>?_)
  ·refine x.exit rfl tR ?_
   refine⟨.inr rfl,?_,tR,rfl⟩
   exact (word_in (of_decide_eq_true h) (l:=[109,117,108]) (by decide)).symm
  ·exact absurd (h.symm.trans h2) (by simp)
 have b2:¬s.data.toList=[109,117,108]:=of_decide_eq_false b2
 refine x.cond rfl tR (fun h=>?_) (fun b3=>?_)
 ·refine x.cond rfl tR (fun _=>?_) (fun h2=>?_)
  ·refine x.exit rfl tR ?_
   refine⟨.inr rfl,?_,tR,rfl⟩
   exact (word_in (of_decide_eq_true h) (l:=[100,105,118]) (by decide)).symm
  ·exact absurd (h.symm.trans h2) (by simp)
 have b3:¬s.data.toList=[100,105,118]:=of_decide_eq_false b3
 refine x.cond rfl tR (fun h=>?_) (fun b4=>?_)
 ·refine x.cond rfl tR (fun _=>?_) (fun h2=>?_)
  ·refine x.exit rfl tR ?_
   refine⟨.inr rfl,?_,tR,rfl⟩
   exact (word_in (of_decide_eq_true h) (l:=[109,111,100]) (by decide)).symm
  ·exact absurd (h.symm.trans h2) (by simp)
 have b4:¬s.data.toList=[109,111,100]:=of_decide_eq_false b4
 refine x.cond rfl tR (fun h=>?_) (fun b5=>?_)
 ·refine x.cond rfl tR (fun _=>?_) (fun h2=>?_)
  ·refine x.exit rfl tR ?_
   refine⟨.inr rfl,?_,tR,rfl⟩
   exact (word_in (of_decide_eq_true h) (l:=[97,110,100]) (by decide)).symm
  ·exact absurd (h.symm.trans h2) (by simp)
 have b5:¬s.data.toList=[97,110,100]:=of_decide_eq_false b5
 refine x.cond rfl tR (fun h=>?_) (fun b6=>?_)
 ·refine x.cond rfl tR (fun _=>?_) (fun h2=>?_)
  ·refine x.exit rfl tR ?_
   refine⟨.inr rfl,?_,tR,rfl⟩
   exact (word_in (of_decide_eq_true h) (l:=[111,114]) (by decide)).symm
  ·exact absurd (h.symm.trans h2) (by simp)
 have b6:¬s.data.toList=[111,114]:=of_decide_eq_false b6
 refine x.cond rfl tR (fun h=>?_) (fun b7=>?_)
 ·refine x.cond rfl tR (fun _=>?_) (fun h2=>?_)
  ·refine x.exit rfl tR ?_
   refine⟨.inr rfl,?_,tR,rfl⟩
   exact (word_in (of_decide_eq_true h) (l:=[120,111,114]) (by decide)).symm
  ·exact absurd (h.symm.trans h2) (by simp)
 have b7:¬s.data.toList=[120,111,114]:=of_decide_eq_false b7
 refine x.cond rfl tR (fun h=>?_) (fun b8=>?_)
 ·refine x.cond rfl tR (fun _=>?_) (fun h2=>?_)
  ·refine x.exit rfl tR ?_
   refine⟨.inr rfl,?_,tR,rfl⟩
   exact (word_in (of_decide_eq_true h) (l:=[115,104,108]) (by decide)).symm
  ·exact absurd (h.symm.trans h2) (by simp)
 have b8:¬s.data.toList=[115,104,108]:=of_decide_eq_false b8
 refine x.cond rfl tR (fun h=>?_) (fun b9=>?_)
 ·refine x.cond rfl tR (fun _=>?_) (fun h2=>?_)
  ·refine x.exit rfl tR ?_
   refine⟨.inr rfl,?_,tR,rfl⟩
   exact (word_in (of_decide_eq_true h) (l:=[115,104,114]) (by decide)).symm
  ·exact absurd (h.symm.trans h2) (by simp)
 have b9:¬s.data.toList=[115,104,114]:=of_decide_eq_false b9
 refine x.cond rfl tR (fun h=>?_) (fun b10=>?_)
 ·refine x.cond rfl tR (fun _=>?_) (fun h2=>?_)
  ·refine x.exit rfl tR ?_
   refine⟨.inr rfl,?_,tR,rfl⟩
   exact (word_in (of_decide_eq_true h) (l:=[101,113]) (by decide)).symm
  ·exact absurd (h.symm.trans h2) (by simp)
 have b10:¬s.data.toList=[101,113]:=of_decide_eq_false b10
 refine x.cond rfl tR (fun h=>?_) (fun b11=>?_)
 ·refine x.exit rfl tR ?_
  refine⟨.inr rfl,?_,tR,rfl⟩
  exact (word_in (of_decide_eq_true h) (l:=[108,101,115,115]) (by decide)).symm
 have b11:¬s.data.toList=[108,101,115,115]:=of_decide_eq_false b11
 refine x.exit rfl tR ?_
 refine⟨.inr rfl,?_,tR,rfl⟩
 show false=wordB s
 rw[eq_comm]
 unfold wordB wordsL
 rw[decide_eq_false_iff_not]
 simp only[List.mem_cons,List.not_mem_nil,or_false,not_or]
 exact⟨a0,a1,a2,a3,a4,a5,a6,a7,a8,a9,a10,a11,a12,a13,b0,b1,b2,b3,b4,b5,b6,b7,b8,b9,b10,b11⟩
def signB (c:Nat):Bool:=(((((((decide (c=40)||decide (c=41))||decide (c=123))||decide (c=125))||decide (c=91))||decide (c=93))||decide (c=44))||decide (c=58))||decide (c=61)
def digAt (s:ByteArray) (p:Nat):Bool:=decide (p<s.size)&&(decide (48≤bt s p)&&decide (bt s p≤57))
theorem indexByte_spec (s:ByteArray) (c:Int):Pure PG 147 [vs s, .d (.int .u8 c)] (vi (Lib.indexByte s.data.toList c.toNat.toUInt8)) []:=
 Pure.ofLib (vals:=[.string s, .int .u8 c]) (callable_of Tryz.func147 (by kernel_rfl) (by kernel_rfl)) rfl rfl rfl rfl fun w F hE=>(Tryz.strings_IndexByte s c w).mono fun e w' ⟨h1,h2⟩=>⟨h1,by subst h2;exact Go.RowKit.Below.refl _ _⟩
theorem idx_some {c:UInt8}:∀{l:List UInt8},0≤Lib.indexByte l c->(Lib.indexByte l c).toNat<l.length∧l.getD (Lib.indexByte l c).toNat 0=c∧∀j,j<(Lib.indexByte l c).toNat->l.getD j 0≠c
 | [],h=>by exact absurd h (by unfold Lib.indexByte;omega)
 | b::l,h=>by
  unfold Lib.indexByte at h ⊢
  split at h
  ·rename_i hb
   rw[if_pos hb]
   refine⟨by simp,by simpa using hb,fun j hj=>absurd hj (Nat.not_lt_zero _)⟩
  ·rename_i hb
   rw[if_neg hb]
   split at h
   ·omega
   ·rename_i h2
    rw[if_neg h2]
    have hge:=Lib.indexByte_ge l c
    have h2:¬Lib.indexByte l c=-1:=by simpa using h2
    obtain⟨h3,h4,h5⟩:=idx_some (l:=l) (c:=c) (by omega)
    have e:(Lib.indexByte l c+1).toNat=(Lib.indexByte l c).toNat+1:=by omega
    rw[e]
    refine⟨by simpa using h3,by simpa using h4,fun j hj=>?_⟩
    match j with
    | 0=>simpa using hb
    | j+1=>simpa using h5 j (by omega)
theorem idx_none {c:UInt8}:∀{l:List UInt8},Lib.indexByte l c<0->∀j,j<l.length->l.getD j 0≠c
 | [],h,j,hj=>absurd hj (Nat.not_lt_zero _)
 | b::l,h,j,hj=>by
  unfold Lib.indexByte at h
  split at h
  ·omega
  ·rename_i hb
   split at h
   ·rename_i h2
    have h2:Lib.indexByte l c=-1:=by simpa using h2
    match j with
    | 0=>simpa using hb
    | j+1=>simpa using idx_none (l:=l) (c:=c) (by omega) j (by simpa using hj)
   ·have hge:=Lib.indexByte_ge l c
    rename_i h2
    have h2:¬Lib.indexByte l c=-1:=by simpa using h2
    omega
def nextR (c:Nat) (rm:Bool):Bool:=if c=10 then false else if c=35 then true else rm
def stopB (rm:Bool) (c:Nat):Bool:=((!rm&&!decide (c=32))&&!decide (c=9))&&!decide (c=10)
def skF (s:ByteArray):Nat->Bool->Nat->Nat
 | 0,_,p=>p
 | n+1,rm,p=>if p<s.size then (if stopB (nextR (bt s p) rm) (bt s p) then p else skF s n (nextR (bt s p) rm) (p+1)) else p
theorem skF_fuel (s:ByteArray):∀(n m:Nat) (rm:Bool) (p:Nat),s.size≤p+n->s.size≤p+m->skF s n rm p=skF s m rm p
 | 0,0,_,_,_,_=>rfl
 | 0,m+1,rm,p,h,_=>by rw[skF,skF,if_neg (by omega)]
 | n+1,0,rm,p,_,h=>by rw[skF,skF,if_neg (by omega)]
 | n+1,m+1,rm,p,h1,h2=>by
  rw[skF,skF]
  split
  ·split
   ·rfl
   ·exact skF_fuel s n m _ _ (by omega) (by omega)
  ·rfl
def skV (s:ByteArray) (rm:Bool) (p:Nat):Nat:=skF s s.size rm p
theorem skV_end {s:ByteArray} {rm:Bool} {p:Nat} (h:s.size≤p):skV s rm p=p:=by
 unfold skV
 rw[skF_fuel s s.size 0 rm p (by omega) (by omega),skF]
theorem skV_step {s:ByteArray} {rm:Bool} {p:Nat} (h:p<s.size):skV s rm p=if stopB (nextR (bt s p) rm) (bt s p) then p else skV s (nextR (bt s p) rm) (p+1):=by
 unfold skV
 obtain⟨n,hn⟩:∃n,s.size=n+1:=⟨s.size-1,by omega⟩
 rw[skF_fuel s s.size (n+1) rm p (by omega) (by omega),skF,if_pos h,skF_fuel s n s.size _ (p+1) (by omega) (by omega)]
theorem skV_go {s:ByteArray} {rm:Bool} {p:Nat} (h:p<s.size) (hs:stopB (nextR (bt s p) rm) (bt s p)=false):skV s rm p=skV s (nextR (bt s p) rm) (p+1):=by
 rw[skV_step h,if_neg (by rw[hs];simp)]
theorem skV_stop {s:ByteArray} {rm:Bool} {p:Nat} (h:p<s.size) (hs:stopB (nextR (bt s p) rm) (bt s p)=true):skV s rm p=p:=by
 rw[skV_step h,if_pos hs]
theorem skV_le (s:ByteArray):∀(n:Nat) (rm:Bool) (p:Nat),s.size≤p+n->p≤s.size->p≤skV s rm p∧skV s rm p≤s.size∧(skV s rm p<s.size->stopB false (bt s (skV s rm p))=true∧bt s (skV s rm p)≠35)
 | 0,rm,p,h,hp=>by rw[skV_end (by omega)];exact⟨by omega,hp,fun h=>by omega⟩
 | n+1,rm,p,h,hp=>by
  by_cases hl:p<s.size
  ·cases hs:stopB (nextR (bt s p) rm) (bt s p) with
   | true=>
    rw[skV_stop hl hs]
    refine⟨Nat.le_refl _,hp,fun _=>?_⟩
    unfold stopB at hs
    simp only[Bool.and_eq_true,Bool.not_eq_true',decide_eq_false_iff_not] at hs
    obtain⟨⟨⟨h1,h2⟩,h3⟩,h4⟩:=hs
    refine⟨?_,fun e=>?_⟩
    ·unfold stopB;simp [h2,h3,h4]
    ·rw[e] at h1;simp [nextR] at h1
   | false=>
    rw[skV_go hl hs]
    have:=skV_le s n (nextR (bt s p) rm) (p+1) (by omega) (by omega)
    exact⟨by omega,this.2.1,this.2.2⟩
  ·rw[skV_end (by omega)];exact⟨by omega,hp,fun h=>by omega⟩
theorem skV_remark (s:ByteArray):∀(k p:Nat),p+k<s.size->bt s (p+k)=10->(∀j,j<k->bt s (p+j)≠10)->skV s true p=skV s false (p+k+1)
 | 0,p,h,h10,_=>by
  have h10:bt s p=10:=h10
  have h:p<s.size:=h
  rw[skV_go h (by rw[h10];rfl),h10];rfl
 | k+1,p,h,h10,hno=>by
  have h0:bt s p≠10:=hno 0 (by omega)
  have e:nextR (bt s p) true=true:=by unfold nextR;rw[if_neg h0];split<;>rfl
  rw[skV_go (by omega) (by rw[e];rfl),e,skV_remark s k (p+1) (by omega) (by rw[←h10];congr 1;omega) (fun j hj=>by rw[show p+1+j=p+(j+1) by omega];exact hno (j+1) (by omega))]
  congr 1
  omega
theorem skV_remark_end (s:ByteArray):∀(n p:Nat),s.size≤p+n->p≤s.size->(∀j,p≤j->j<s.size->bt s j≠10)->skV s true p=s.size
 | 0,p,h,hp,_=>by rw[skV_end (by omega)];omega
 | n+1,p,h,hp,hno=>by
  by_cases hl:p<s.size
  ·have h0:=hno p (Nat.le_refl _) hl
   have e:nextR (bt s p) true=true:=by unfold nextR;rw[if_neg h0];split<;>rfl
   rw[skV_go hl (by rw[e];rfl),e]
   exact skV_remark_end s n (p+1) (by omega) (by omega) fun j h1 h2=>hno j (by omega) h2
  ·rw[skV_end (by omega)];omega
theorem skip_spec (s:ByteArray) (p0:Nat) (hs:s.size≤9223372036854775807) (hp0:p0≤s.size):Pure PG 146 [vs s,vi (p0:Int)] (vi (skV s false p0:Int)) []:=by
 refine Proc.mk (cfg 34) tysOK [] Tryz.func146 rfl (by kernel_rfl) rfl rfl rfl ?_
 intro C x
 refine x.loop (α:={p:Nat // p≤s.size∧skV s false p=skV s false p0}) (fun y=>⟨[(0,vs s),(1,vi (y.1:Int))],[],0⟩) (fun y=>s.size-y.1) ⟨p0,hp0,rfl⟩ rfl tR ⟨⟨rfl,rfl,tR⟩,tR,rfl⟩ (fun y=>?_)
 obtain⟨p,hp,same⟩:=y
 change Go C _ ⟨[(0,vs s),(1,vi (p:Int))],[],0⟩ _
 refine x.cond rfl tR (fun h1=>?_) (fun h1=>?_)
 ·have h1:p<s.size:=by have:=of_decide_eq_true h1;omega
  have ec:sb s ((p:Int)).toNat=(bt s p:Int):=sb_bt s p
  refine x.cond rfl ?_ (fun h2=>?_) (fun h2=>?_)
  ·simp only[AllP];omega
  ·have h2:bt s p=35:=by have h2:sb s ((p:Int)).toNat=35:=of_decide_eq_true h2;omega
   have e1:nextR (bt s p) false=true:=by rw[h2];rfl
   have g1:=skV_go (rm:=false) h1 (by rw[e1,h2];rfl)
   rw[e1] at g1
   refine x.pure rfl ?_ rfl (indexByte_spec (s.extract p s.size) 10) ⟨rfl,rfl,tR⟩ ?_
   ·simp only[AllP];omega
   obtain⟨n,hn⟩:∃n,Lib.indexByte (s.extract p s.size).data.toList (10:Int).toNat.toUInt8=n:=⟨_,rfl⟩
   rw[hn]
   have hlen:(s.extract p s.size).data.toList.length=s.size-p:=by
    rw[extract_data,List.length_drop,←size_list]
   have hbt:∀j,((s.extract p s.size).data.toList.getD j 0).toNat=bt s (p+j):=fun j=>by rw[←bt_getD,bt_extract]
   refine x.cond rfl tR (fun h3=>?_) (fun h3=>?_)
   ·have h3:n<0:=of_decide_eq_true h3
    have hno:=idx_none (by rw[hn];exact h3)
    refine x.exit rfl tR ?_
    refine⟨.inr rfl,?_,tR,rfl⟩
    show (s.size:Int)=(skV s false p0:Int)
    rw[←same,g1,skV_remark_end s s.size (p+1) (by omega) (by omega)]
    intro j hj1 hj2 e
    refine hno (j-p) (by omega) ?_
    have:=hbt (j-p)
    rw[show p+(j-p)=j by omega,e] at this
    exact UInt8.toNat_inj.1 this
   ·have h3:0≤n:=by have:=of_decide_eq_false h3;omega
    obtain⟨a1,a2,a3⟩:=idx_some (by rw[hn];exact h3)
    rw[hn] at a1 a2 a3
    have b2:bt s (p+n.toNat)=10:=by rw[←hbt,a2];rfl
    have b3:∀j,j<n.toNat->bt s (p+j)≠10:=fun j hj e=>by
     refine a3 j hj ?_
     have:=hbt j
     rw[e] at this
     exact UInt8.toNat_inj.1 this
    have hn0:n.toNat≠0:=fun e=>by rw[e,Nat.add_zero] at b2;omega
    obtain⟨m,hm⟩:∃m,n.toNat=m+1:=⟨n.toNat-1,by omega⟩
    have g2:=skV_remark s m (p+1) (by omega) (by rw[show p+1+m=p+n.toNat by omega];exact b2) (fun j hj=>by rw[show p+1+j=p+(j+1) by omega];exact b3 (j+1) (by omega))
    refine x.back rfl ?_ ⟨⟨p+n.toNat+1,by omega,?_⟩,by show s.size-(p+n.toNat+1)<s.size-p;omega,⟨rfl,?_,tR⟩,tR,rfl⟩
    ·simp only[AllP,inI64];omega
    ·rw[←same,g1,g2];congr 1;omega
    ·show (p:Int)+n+1=((p+n.toNat+1:Nat):Int);omega
  have h2:bt s p≠35:=by have h2:¬sb s ((p:Int)).toNat=35:=of_decide_eq_false h2;omega
  have blank:(bt s p=32∨bt s p=9∨bt s p=10)->∃z:{p:Nat // p≤s.size∧skV s false p=skV s false p0},z.1=p+1:=fun hb=>by
   refine⟨⟨p+1,by omega,?_⟩,rfl⟩
   have e1:nextR (bt s p) false=false:=by unfold nextR;rw[if_neg h2];split<;>rfl
   have g1:=skV_go (rm:=false) h1 (by rw[e1];unfold stopB;rcases hb with e | e | e<;>rw[e]<;>rfl)
   rw[←same,g1,e1]
  refine x.cond rfl tR (fun h3=>?_) (fun h3=>?_)
  ·have h3b:bt s p=32:=by have h3:sb s ((p:Int)).toNat=32:=of_decide_eq_true h3;omega
   refine x.cond rfl tR (fun _=>?_) (fun h4=>absurd (h3.symm.trans h4) (by simp))
   obtain⟨z,hz⟩:=blank (.inl h3b)
   refine x.back rfl (show inI64 _ by unfold inI64;omega) ⟨z,by show s.size-z.1<s.size-p;omega,⟨rfl,?_,tR⟩,tR,rfl⟩
   show (p:Int)+1=(z.1:Int);omega
  have h3b:bt s p≠32:=by have h3:¬sb s ((p:Int)).toNat=32:=of_decide_eq_false h3;omega
  refine x.cond rfl tR (fun h4=>?_) (fun h4=>?_)
  ·have h4b:bt s p=9:=by have h4:sb s ((p:Int)).toNat=9:=of_decide_eq_true h4;omega
   refine x.cond rfl tR (fun _=>?_) (fun h5=>absurd (h4.symm.trans h5) (by simp))
   obtain⟨z,hz⟩:=blank (.inr (.inl h4b))
   refine x.back rfl (show inI64 _ by unfold inI64;omega) ⟨z,by show s.size-z.1<s.size-p;omega,⟨rfl,?_,tR⟩,tR,rfl⟩
   show (p:Int)+1=(z.1:Int);omega
  have h4b:bt s p≠9:=by have h4:¬sb s ((p:Int)).toNat=9:=of_decide_eq_false h4;omega
  refine x.cond rfl tR (fun h5=>?_) (fun h5=>?_)
  ·have h5b:bt s p=10:=by have h5:sb s ((p:Int)).toNat=10:=of_decide_eq_true h5;omega
   obtain⟨z,hz⟩:=blank (.inr (.inr h5b))
   refine x.back rfl (show inI64 _ by unfold inI64;omega) ⟨z,by show s.size-z.1<s.size-p;omega,⟨rfl,?_,tR⟩,tR,rfl⟩
   show (p:Int)+1=(z.1:Int);omega
  have h5b:bt s p≠10:=by have h5:¬sb s ((p:Int)).toNat=10:=of_decide_eq_false h5;omega
  refine x.exit rfl tR ?_
  refine⟨.inr rfl,?_,tR,rfl⟩
  show (p:Int)=(skV s false p0:Int)
  rw[←same,skV_stop h1]
  unfold nextR stopB
  rw[if_neg h5b,if_neg h2]
  simp [h3b,h4b,h5b]
 ·have h1:p=s.size:=by have:=of_decide_eq_false h1;omega
  refine x.exit rfl tR ?_
  refine⟨.inr rfl,?_,tR,rfl⟩
  show (p:Int)=(skV s false p0:Int)
  rw[←same,skV_end (by omega)]
end Go.Proofs.YtojhdmfkfkfcbaaGreatDoor
namespace Go.Proofs.YtojhdmfkfkfcbaaGreatDoor
open Go.Sx
set_option linter.unusedVariables false
set_option maxRecDepth 100000
end Go.Proofs.YtojhdmfkfkfcbaaGreatDoor
namespace Go.Proofs.YtojhdmfkfkfcbaaGreatDoor
open Go.Sx
set_option linter.unusedVariables false
set_option linter.unusedSimpArgs false
set_option maxRecDepth 100000
def plainB (s:ByteArray) (p:Nat):Bool:=letB (Utf8.decode s p).1||digB (Utf8.decode s p).1
def rowN (s:ByteArray):Nat->Nat->Nat
 | 0,p=>p
 | n+1,p=>if p<s.size then (if plainB s p then rowN s n (p+(Utf8.decode s p).2) else p) else p
theorem rowN_end {s:ByteArray} {n p:Nat} (h:s.size≤p):rowN s n p=p:=by
 cases n with
 | zero=>rfl
 | succ n=>rw[rowN,if_neg (by omega)]
theorem rowN_fuel (s:ByteArray):∀(n m p:Nat),s.size≤p+n->s.size≤p+m->rowN s n p=rowN s m p
 | 0,m,p,h,_=>by rw[rowN_end (by omega),rowN_end (by omega)]
 | n+1,0,p,_,h=>by rw[rowN_end (by omega),rowN_end (by omega)]
 | n+1,m+1,p,h1,h2=>by
  have:=(decode_pos s p).1
  rw[rowN,rowN]
  split
  ·split
   ·exact rowN_fuel s n m _ (by omega) (by omega)
   ·rfl
  ·rfl
def rowV (s:ByteArray) (p:Nat):Nat:=rowN s s.size p
theorem rowV_end {s:ByteArray} {p:Nat} (h:s.size≤p):rowV s p=p:=rowN_end h
theorem rowV_step {s:ByteArray} {p:Nat} (h:p<s.size):rowV s p=if plainB s p then rowV s (p+(Utf8.decode s p).2) else p:=by
 unfold rowV
 obtain⟨n,hn⟩:∃n,s.size=n+1:=⟨s.size-1,by omega⟩
 have:=(decode_pos s p).1
 rw[rowN_fuel s s.size (n+1) p (by omega) (by omega),rowN,if_pos h,rowN_fuel s n s.size _ (by omega) (by omega)]
theorem rowV_le (s:ByteArray):∀(n p:Nat),s.size≤p+n->p≤s.size->p≤rowV s p∧rowV s p≤s.size
 | 0,p,h,hp=>by rw[rowV_end (by omega)];omega
 | n+1,p,h,hp=>by
  by_cases hl:p<s.size
  ·rw[rowV_step hl]
   split
   ·have h1:=(decode_pos s p).1
    have h2:=decode_room hl
    have:=rowV_le s n (p+(Utf8.decode s p).2) (by omega) h2
    omega
   ·omega
  ·rw[rowV_end (by omega)];omega
theorem decode_extract {s:ByteArray} {p:Nat} (hp:p≤s.size) (q:Nat):Utf8.decode (s.extract p s.size) q=Utf8.decode s (p+q):=by
 have h:=dec_shift (s.size-p) q p (bt s (p+q)) (bt s (p+q+1)) (bt s (p+q+2)) (bt s (p+q+3))
 rw[show p+(s.size-p)=s.size by omega] at h
 rw[decode_eq,decode_eq,extract_size,bt_extract,bt_extract,bt_extract,bt_extract,←Nat.add_assoc,←Nat.add_assoc,←Nat.add_assoc,h]
theorem rowV_extract {s:ByteArray} {p:Nat} (hp:p≤s.size):∀(n q:Nat),s.size≤p+q+n->p+rowV (s.extract p s.size) q=rowV s (p+q)
 | 0,q,h=>by rw[rowV_end (by rw[extract_size];omega),rowV_end (by omega)]
 | n+1,q,h=>by
  by_cases hl:p+q<s.size
  ·rw[rowV_step (by rw[extract_size];omega),rowV_step hl,plainB,plainB,decode_extract hp]
   have:=(decode_pos s (p+q)).1
   split
   ·rw[rowV_extract hp n _ (by omega),Nat.add_assoc]
   ·rfl
  ·rw[rowV_end (by rw[extract_size];omega),rowV_end (by omega)]
theorem row_spec (s:ByteArray) (hs:s.size≤9223372036854775807):Pure PG 148 [vs s] (vi (rowV s 0:Int)) []:=by
 refine Proc.mk (cfg 22) tysOK [] Tryz.func148 rfl (by kernel_rfl) rfl rfl rfl ?_
 intro C x
 refine x.loop (α:={p:Nat // p≤s.size∧rowV s p=rowV s 0}) (fun y=>⟨[(0,vs s),(6, .ptr 0 0)],[(0, .iter s y.1)],1⟩) (fun y=>s.size-y.1) ⟨0,by omega,rfl⟩ rfl tR ?_ (fun y=>?_)
 ·exact⟨⟨rfl,⟨rfl,rfl⟩,tR⟩,⟨⟨rfl,rfl⟩,tR⟩,rfl⟩
 obtain⟨p,hp,same⟩:=y
 change Go C _ ⟨[(0,vs s),(6, .ptr 0 0)],[(0, .iter s p)],1⟩ _
 obtain⟨d1,d2,d3⟩:=decode_pos s p
 refine x.next rfl tR rfl rfl rfl (fun h=>?_) (fun h=>?_)
 ·have h:p<s.size:=h
  have hr:=decode_room h
  rw[rowV_step h] at same
  refine x.cond rfl tR (fun _=>?_) (fun h1=>by cases h1)
  refine x.pure rfl tR rfl (letter_spec _) ⟨rfl,tR⟩ ?_
  refine x.pureG rfl tR rfl (fun _=>digit_spec _) rfl ⟨rfl,tR⟩ ?_
  refine x.cond rfl tR (fun h2=>?_) (fun h2=>?_)
  ·have h2:(!letB (Utf8.decode s p).1&&!digB (Utf8.decode s p).1)=true:=h2
   have h3:plainB s p=false:=by
    unfold plainB
    simp only[Bool.and_eq_true,Bool.not_eq_true'] at h2
    rw[h2.1,h2.2];rfl
   rw[if_neg (by rw[h3];simp)] at same
   refine x.exit rfl tR ?_
   refine⟨.inr rfl,?_,tR,rfl⟩
   rw[←same]
   exact rfl
  ·have h2:(!letB (Utf8.decode s p).1&&!digB (Utf8.decode s p).1)=false:=h2
   have h3:plainB s p=true:=by
    unfold plainB
    cases e:letB (Utf8.decode s p).1 with
    | true=>rfl
    | false=>rw[e] at h2;simpa using h2
   rw[if_pos h3] at same
   refine x.back rfl tR ⟨⟨p+(Utf8.decode s p).2,hr,same⟩,by show s.size-(p+(Utf8.decode s p).2)<s.size-p;omega,?_⟩
   exact⟨⟨rfl,⟨rfl,rfl⟩,tR⟩,⟨⟨rfl,rfl⟩,tR⟩,rfl⟩
 ·have h:¬p<s.size:=h
  refine x.cond rfl tR (fun h1=>by cases h1) (fun _=>?_)
  refine x.exit rfl tR ?_
  refine⟨.inr rfl,?_,tR,rfl⟩
  rw[rowV_end (by omega)] at same
  show (s.size:Int)=(rowV s 0:Int)
  rw[←same];omega
def digs (u:Nat):List UInt8:=if u<10 then [UInt8.ofNat (48+u)] else digs (u/10)++[UInt8.ofNat (48+u%10)]
termination_by u
decreasing_by omega
theorem digs_lt {u:Nat} (h:u<10):digs u=[UInt8.ofNat (48+u)]:=by rw[digs,if_pos h]
theorem digs_ge {u:Nat} (h:¬u<10):digs u=digs (u/10)++[UInt8.ofNat (48+u%10)]:=by rw[digs,if_neg h]
def digs0 (u:Nat):List UInt8:=if u=0 then [] else digs u
theorem digs0_app (u:Nat):digs0 (u/10)++[UInt8.ofNat (48+u%10)]=digs u:=by
 by_cases h:u<10
 ·rw[digs_lt h,digs0,if_pos (by omega),Nat.mod_eq_of_lt h];rfl
 ·rw[digs_ge h,digs0,if_neg (by omega)]
def sgV (n:Int):List UInt8:=if n<0 then [45] else []
def showV (n:Int):ByteArray:=ba (sgV n++digs n.natAbs)
theorem digs_len:∀(k u:Nat),u<10 ^ (k+1)->(digs u).length≤k+1
 | 0,u,h=>by rw[digs_lt (by simpa using h)];simp
 | k+1,u,h=>by
  by_cases hu:u<10
  ·rw[digs_lt hu];simp
  ·rw[digs_ge hu]
   have:=digs_len k (u/10) (by rw[Nat.pow_succ] at h;omega)
   simp;omega
theorem hasPrefix_spec (s p:ByteArray) :
  Pure PG 197 [vs s,vs p] (vb (decide ((p.size:Int)≤s.size)&&decide ((s.extract 0 p.size).data.toList=p.data.toList))) []:=by
 refine Proc.mk (cfg 18) tysOK [] Tryz.func197 rfl (by kernel_rfl) rfl rfl rfl ?_
 intro C x
 refine x.exit rfl ?_ ?_
 ·intro h
  exact⟨by omega,by simpa using h⟩
 refine⟨.inr rfl,?_,tR,rfl⟩
 show _=_
 rfl
def cutV (s p:ByteArray):ByteArray×Bool:=if (decide ((p.size:Int)≤s.size)&&decide ((s.extract 0 p.size).data.toList=p.data.toList))=true then (s.extract p.size s.size,true) else (s,false)
theorem cut1_spec (s p:ByteArray):Pure PG 177 [vs s,vs p] (.tup [vs (cutV s p).1,vb (cutV s p).2]) []:=by
 refine Proc.mk (cfg 15) tysOK [] Tryz.func177 rfl (by kernel_rfl) rfl rfl rfl ?_
 intro C x
 refine x.pure rfl tR rfl (hasPrefix_spec s p) ⟨rfl,rfl,tR⟩ ?_
 refine x.cond rfl tR (fun h=>?_) (fun h=>?_)
 ·refine x.exit rfl tR ?_
  refine⟨.inr rfl,?_,tR,rfl⟩
  rw[cutV,if_neg (by simpa only[Bool.not_eq_true',Bool.not_eq_true] using h)]
  exact⟨rfl,rfl,tR⟩
 ·have h':(decide ((p.size:Int)≤s.size)&&decide ((s.extract 0 p.size).data.toList=p.data.toList))=true:=by simpa using h
  refine x.exit rfl ?_ ?_
  ·simp only[Bool.and_eq_true,decide_eq_true_eq] at h'
   simp only[AllP]
   omega
  refine⟨.inr rfl,?_,tR,rfl⟩
  rw[cutV,if_pos h']
  exact⟨rfl,rfl,tR⟩
theorem cut_spec (s p:ByteArray):Pure PG 139 [vs s,vs p] (.tup [vs (cutV s p).1,vb (cutV s p).2]) []:=by
 refine Proc.mk (cfg 11) tysOK [] Tryz.func139 rfl (by kernel_rfl) rfl rfl rfl ?_
 intro C x
 refine x.pure rfl tR rfl (cut1_spec s p) ⟨rfl,rfl,tR⟩ ?_
 refine x.exit rfl tR ?_
 exact⟨.inr rfl,⟨rfl,rfl,tR⟩,tR,rfl⟩
def dv (s:ByteArray):Nat->Nat->Nat->Option Nat
 | 0,_,u=>some u
 | n+1,i,u=>if i<s.size then if 48≤bt s i∧bt s i≤57 then dv s n (i+1) (10*u+(bt s i-48)) else none else some u
theorem dv_end {s:ByteArray} {n i u:Nat} (h:¬i<s.size):dv s n i u=some u:=by
 cases n with
 | zero=>rfl
 | succ n=>rw[dv,if_neg h]
theorem dec_ascii {sz p a b c d:Nat} (h:a<128):dec sz p a b c d=(a,1):=by rw[dec,if_pos h]
theorem dec_high {sz p a b c d:Nat} (h:¬a<128):128≤(dec sz p a b c d).1:=by
 unfold dec
 rw[if_neg h]
 split
 ·split
  ·rename_i h;exact h
  ·simp
 split
 ·split
  ·rename_i h;exact Nat.le_trans (by omega) h.1
  ·simp
 split
 ·split
  ·rename_i h;exact Nat.le_trans (by omega) h.1
  ·simp
 ·simp
theorem decode_ascii {s:ByteArray} {p:Nat} (h:bt s p<128):Utf8.decode s p=(bt s p,1):=by rw[decode_eq];exact dec_ascii h
theorem decode_high {s:ByteArray} {p:Nat} (h:¬bt s p<128):128≤(Utf8.decode s p).1:=by rw[decode_eq];exact dec_high h
def numV (s:ByteArray):Int×Bool:=
 let d:=(cutV s ⟨#[45]⟩).1
 let neg:=(cutV s ⟨#[45]⟩).2
 if d.size=0∨19<d.size∨(bt d 0=48∧(neg=true∨1<d.size)) then (0,false)
 else match dv d d.size 0 0 with
  | none=>(0,false)
  | some u=>if neg=true∧u≤9223372036854775808 then (-(u:Int),true) else if neg=false∧u<9223372036854775808 then ((u:Int),true) else (0,false)
structure WI (s:ByteArray) where
 n:Nat
 p:Nat
 u:Nat
 fuel:s.size≤p+n
 same:dv s n p u=dv s s.size 0 0
 hp:p≤s.size
 hu:u<10 ^ p
theorem number_spec (s:ByteArray):Pure PG 84 [vs s] (.tup [vi (numV s).1,vb (numV s).2]) []:=by
 refine Proc.mk ⟨66,0,false,tys⟩ tysOK [] Tryz.func84 rfl (by kernel_rfl) rfl rfl rfl ?_
 intro C x
 refine x.pure rfl tR rfl (cut_spec s ⟨#[45]⟩) ⟨rfl,rfl,tR⟩ ?_
 generalize hd:(cutV s ⟨#[45]⟩).1=d
 generalize hng:(cutV s ⟨#[45]⟩).2=ng
 have hnil:d.data.toList=(⟨#[]⟩:ByteArray).data.toList↔d.size=0:=by
  rw[show d.size=d.data.toList.length from (Array.length_toList).symm,List.length_eq_zero_iff]
 have hsb:sb d (Int.toNat 0)=(bt d 0:Int):=sb_bt d 0
 have hcond:(decide (d.data.toList=(⟨#[]⟩:ByteArray).data.toList)||decide ((19:Int)<d.size)||decide (sb d (Int.toNat 0)=48)&&(ng||decide ((1:Int)<d.size)))=decide (d.size=0∨19<d.size∨(bt d 0=48∧(ng=true∨1<d.size))):=by
  rw[Bool.eq_iff_iff]
  simp only[Bool.or_eq_true,Bool.and_eq_true,decide_eq_true_eq,hnil,hsb]
  cases ng<;>simp only[Bool.false_eq_true,false_or,true_or,and_true]<;>omega
 refine x.cond rfl ?_ (fun h=>?_) (fun h=>?_)
 ·intro h
  simp only[Bool.or_eq_false_iff,decide_eq_false_iff_not] at h
  have:¬d.size=0:=fun e=>h.1 (hnil.2 e)
  omega
 ·refine x.exit rfl tR ?_
  refine⟨.inr rfl,?_,tR,rfl⟩
  have:d.size=0∨19<d.size∨(bt d 0=48∧(ng=true∨1<d.size)):=by
   rw[hcond] at h
   simpa only[decide_eq_true_eq] using h
  simp only[numV,hd,hng]
  rw[if_pos this]
  exact⟨rfl,rfl,tR⟩
 have hno:¬(d.size=0∨19<d.size∨(bt d 0=48∧(ng=true∨1<d.size))):=by
  rw[hcond] at h
  simpa only[decide_eq_false_iff_not] using h
 have hsz:d.size≤19:=by omega
 refine x.loop (α:=WI d) (fun y=>⟨[(5,vb ng),(6, .d (.int .u64 (y.u:Int))),(35, .ptr 0 0)],[(0, .iter d y.p)],1⟩) (fun y=>d.size+4-y.p) ⟨d.size,0,0,by omega,rfl,by omega,by simp⟩ rfl tR ?_ (fun y=>?_)
 ·exact⟨⟨rfl,rfl,⟨rfl,rfl⟩,tR⟩,⟨⟨rfl,rfl⟩,tR⟩,rfl⟩
 obtain⟨n,p,u,fuel,same,hp,hu⟩:=y
 change Go C _ ⟨[(5,vb ng),(6, .d (.int .u64 (u:Int))),(35, .ptr 0 0)],[(0, .iter d p)],1⟩ _
 refine x.next rfl tR rfl rfl rfl (fun h=>?_) (fun h=>?_)
 ·refine x.cond rfl tR (fun _=>?_) (fun h1=>by cases h1)
  refine x.pure rfl tR rfl (digit_spec _) ⟨rfl,tR⟩ ?_
  cases n with
  | zero=>omega
  | succ n=>
   rw[dv,if_pos h] at same
   refine x.cond rfl tR (fun h2=>?_) (fun h2=>?_)
   ·have hnd:¬(48≤bt d p∧bt d p≤57):=fun hh=>by
     rw[decode_ascii (by omega)] at h2
     simp at h2
     omega
    rw[if_neg hnd] at same
    refine x.exit rfl tR ?_
    refine⟨.inr rfl,?_,tR,rfl⟩
    simp only[numV,hd,hng]
    rw[if_neg hno,←same]
    exact⟨rfl,rfl,tR⟩
   ·have hdg:48≤bt d p∧bt d p≤57:=by
     by_cases ha:bt d p<128
     ·rw[decode_ascii ha] at h2
      simp at h2
      omega
     ·have:=decode_high ha
      simp at h2
      omega
    rw[if_pos hdg] at same
    have hdec:=decode_ascii (s:=d) (p:=p) (by omega)
    have hpow:10 ^ (p+1)≤10 ^ 19:=Nat.pow_le_pow_right (by omega) (by omega)
    have hu':10*u+(bt d p-48)<10 ^ (p+1):=by rw[Nat.pow_succ];omega
    refine x.back rfl tR ?_
    refine⟨⟨n,p+(Utf8.decode d p).2,10*u+(bt d p-48),by rw[hdec];omega,by rw[hdec];exact same,by rw[hdec];show p+1≤_;omega,by rw[hdec];exact hu'⟩,by show d.size+4-(p+(Utf8.decode d p).2)<d.size+4-p;rw[hdec];show d.size+4-(p+1)<d.size+4-p;omega,?_⟩
    refine⟨⟨rfl,?_,⟨rfl,rfl⟩,tR⟩,⟨⟨rfl,rfl⟩,tR⟩,rfl⟩
    show IntKind.u64.wrap (IntKind.u64.wrap (10*(u:Int))+IntKind.u64.wrap (IntKind.i32.wrap (((Utf8.decode d p).1:Int)-48)))=((10*u+(bt d p-48):Nat):Int)
    rw[hdec,IntKind.wrap_u64,IntKind.wrap_u64,IntKind.wrap_u64,IntKind.wrap_i32]
    omega
 ·refine x.cond rfl tR (fun h1=>by cases h1) (fun _=>?_)
  rw[dv_end h] at same
  have hpow:10 ^ p≤10 ^ 19:=Nat.pow_le_pow_right (by omega) (by omega)
  have hres:numV s=if ng=true∧u≤9223372036854775808 then (-(u:Int),true) else if ng=false∧u<9223372036854775808 then ((u:Int),true) else (0,false):=by
   simp only[numV,hd,hng]
   rw[if_neg hno,←same]
  rw[hres]
  refine x.cond rfl tR (fun h1=>?_) (fun h1=>?_)
  ·simp only[Bool.and_eq_true,decide_eq_true_eq] at h1
   refine x.exit rfl tR ?_
   refine⟨.inr rfl,?_,tR,rfl⟩
   rw[if_pos ⟨h1.1,by omega⟩]
   refine⟨?_,rfl,tR⟩
   show IntKind.i64.wrap (IntKind.u64.wrap (0-(u:Int)))=-(u:Int)
   rw[IntKind.wrap_i64,IntKind.wrap_u64]
   omega
  ·rw[if_neg (by rintro ⟨rfl,hh⟩;simp at h1;omega)]
   refine x.cond rfl tR (fun h2=>?_) (fun h2=>?_)
   ·simp only[Bool.and_eq_true,Bool.not_eq_true',decide_eq_true_eq] at h2
    refine x.exit rfl tR ?_
    refine⟨.inr rfl,?_,tR,rfl⟩
    rw[if_pos ⟨h2.1,by omega⟩]
    refine⟨?_,rfl,tR⟩
    show IntKind.i64.wrap (u:Int)=(u:Int)
    rw[IntKind.wrap_i64]
    omega
   ·refine x.exit rfl tR ?_
    refine⟨.inr rfl,?_,tR,rfl⟩
    rw[if_neg (by rintro ⟨rfl,hh⟩;simp at h2;omega)]
    exact⟨rfl,rfl,tR⟩
def dvl:List UInt8->Nat->Option Nat
 | [],u=>some u
 | c::r,u=>if 48≤c.toNat∧c.toNat≤57 then dvl r (10*u+(c.toNat-48)) else none
theorem len_size (s:ByteArray):s.data.toList.length=s.size:=Array.length_toList
theorem bt_list (s:ByteArray) (i:Nat) (h:i<s.size):∃c,s.data.toList[i]?=some c∧bt s i=c.toNat:=by
 have h':i<s.data.size:=h
 refine⟨s.data[i],by simp [h'],?_⟩
 unfold bt
 cases s with
 | mk d=>show d[i]!.toNat=_;rw[getElem!_pos d i h']
theorem dv_list (s:ByteArray):∀(n i u:Nat),s.size≤i+n->dv s n i u=dvl (s.data.toList.drop i) u
 | 0,i,u,h=>by
  rw[dv,List.drop_eq_nil_of_le (by rw[len_size];omega)]
  rfl
 | n+1,i,u,h=>by
  rw[dv]
  by_cases hi:i<s.size
  ·obtain⟨c,hc,hb⟩:=bt_list s i hi
   have hl:i<s.data.toList.length:=(List.getElem?_eq_some_iff.1 hc).1
   rw[if_pos hi,List.drop_eq_getElem_cons hl,(List.getElem?_eq_some_iff.1 hc).2,dvl,hb,dv_list s n (i+1) _ (by omega)]
  ·rw[if_neg hi,List.drop_eq_nil_of_le (by rw[len_size];omega)]
   rfl
theorem dvl_app:∀(l:List UInt8) (c:UInt8) (u:Nat),dvl (l++[c]) u=(dvl l u).bind fun v=>if 48≤c.toNat∧c.toNat≤57 then some (10*v+(c.toNat-48)) else none
 | [],c,u=>rfl
 | x::l,c,u=>by
  rw[List.cons_append,dvl,dvl]
  split
  ·exact dvl_app l c _
  ·rfl
theorem u8_dig (v:Nat) (h:v<10):(UInt8.ofNat (48+v)).toNat=48+v:=by
 rw[UInt8.toNat_ofNat']
 omega
theorem digs_head:∀(u:Nat),∃c r,digs u=c::r∧48≤c.toNat∧c.toNat≤57∧(0<u->c.toNat≠48):=by
 intro u
 induction u using Nat.strongRecOn with
 | _ u ih=>
  by_cases h:u<10
  ·refine⟨_,[],digs_lt h,?_⟩
   rw[u8_dig u h]
   omega
  ·obtain⟨c,r,h1,h2,h3,h4⟩:=ih (u/10) (by omega)
   exact⟨c,r++[_],by rw[digs_ge h,h1];rfl,h2,h3,fun _=>h4 (by omega)⟩
theorem dvl_digs:∀(u:Nat),dvl (digs u) 0=some u:=by
 intro u
 induction u using Nat.strongRecOn with
 | _ u ih=>
  by_cases h:u<10
  ·rw[digs_lt h,dvl,u8_dig u h,if_pos (by omega)]
   show some _=some _
   congr 1
   omega
  ·rw[digs_ge h,dvl_app,ih (u/10) (by omega),u8_dig _ (by omega)]
   show (if _ then some _ else none)=_
   rw[if_pos (by omega)]
   congr 1
   omega
theorem u8_of (c:UInt8):UInt8.ofNat c.toNat=c:=by simp
theorem cut_neg {s:ByteArray} {r:List UInt8} (h:s.data.toList=45::r):cutV s ⟨#[45]⟩=(ba r,true):=by
 have hs:s.size=r.length+1:=by rw[show s.size=s.data.toList.length from (Array.length_toList).symm,h];rfl
 have e1:(s.extract 0 (ByteArray.size ⟨#[45]⟩)).data.toList=[45]:=by
  rw[ByteArray.data_extract,Array.toList_extract,h];rfl
 have e2:s.extract (ByteArray.size ⟨#[45]⟩) s.size=ba r:=by
  apply ByteArray.ext
  apply Array.toList_inj.1
  rw[ByteArray.data_extract,Array.toList_extract,h,hs]
  simp [ba,ByteArray.size,List.extract]
 rw[cutV,if_pos,e2]
 rw[e1]
 simp only[Bool.and_eq_true,decide_eq_true_eq]
 exact⟨by rw[hs];show (1:Int)≤_;omega,tR⟩
theorem cut_pos {s:ByteArray} (h:s.data.toList.head?≠some 45):cutV s ⟨#[45]⟩=(s,false):=by
 rw[cutV,if_neg]
 simp only[Bool.and_eq_true,decide_eq_true_eq]
 rintro ⟨h1,h2⟩
 apply h
 rw[ByteArray.data_extract,Array.toList_extract] at h2
 cases hl:s.data.toList with
 | nil=>rw[hl] at h2;cases h2
 | cons a b=>
  rw[hl] at h2
  have:[a]=[45]:=h2
  simp at this
  simp [this]
theorem bt0_head {s:ByteArray} {c:UInt8} {r:List UInt8} (h:s.data.toList=c::r):bt s 0=c.toNat∧s.size=r.length+1:=by
 have hs:s.size=r.length+1:=by rw[show s.size=s.data.toList.length from (Array.length_toList).symm,h];rfl
 obtain⟨d,hd,hb⟩:=bt_list s 0 (by omega)
 rw[h] at hd
 simp at hd
 subst hd
 exact⟨hb,hs⟩
theorem u8_eq {c:UInt8} {n:Nat} (hn:n<256):c.toNat=n↔c=UInt8.ofNat n:=by
 constructor
 ·rintro rfl;exact (u8_of c).symm
 ·rintro rfl;rw[UInt8.toNat_ofNat'];omega
theorem numV_neg {s:ByteArray} {r:List UInt8} (h:s.data.toList=45::r) :
  numV s=if r.length=0∨19<r.length∨r.head?=some 48 then (0,false) else match dvl r 0 with
   | none=>(0,false)
   | some u=>if u≤9223372036854775808 then (-(u:Int),true) else (0,false):=by
 have hc:=cut_neg h
 have hd:dv (ba r) r.length 0 0=dvl r 0:=by rw[dv_list _ _ _ _ (by rw[ba_size];omega)];rfl
 unfold numV
 rw[hc]
 simp only[ba_size,hd]
 cases r with
 | nil=>rw[if_pos (by simp),if_pos (by simp)]
 | cons c r=>
  have hb:bt (ba (c::r)) 0=c.toNat:=(bt0_head (s:=ba (c::r)) rfl).1
  have h48:c.toNat=48↔(c::r).head?=some 48:=by rw[u8_eq (by omega)];simp
  refine ite_cg (by rw[hb,h48];simp) rfl ?_
  cases dvl (c::r) 0<;>simp
theorem numV_pos {s:ByteArray} {l:List UInt8} (hl:s.data.toList=l) (h:l.head?≠some 45) :
  numV s=if l.length=0∨19<l.length∨(l.head?=some 48∧1<l.length) then (0,false) else match dvl l 0 with
   | none=>(0,false)
   | some u=>if u<9223372036854775808 then ((u:Int),true) else (0,false):=by
 subst hl
 have hc:=cut_pos h
 have hs:s.size=s.data.toList.length:=(Array.length_toList).symm
 have hd:dv s s.size 0 0=dvl s.data.toList 0:=by rw[dv_list _ _ _ _ (by omega)];rfl
 unfold numV
 rw[hc]
 simp only[hd]
 rw[hs]
 cases hl:s.data.toList with
 | nil=>rw[if_pos (by simp),if_pos (by simp)]
 | cons c r=>
  have hb:=(bt0_head hl).1
  have h48:c.toNat=48↔(c::r).head?=some 48:=by rw[u8_eq (by omega)];simp
  refine ite_cg (by rw[hb,h48];simp) rfl ?_
  cases dvl (c::r) 0<;>simp
theorem showV_list (n:Int):(showV n).data.toList=sgV n++digs n.natAbs:=rfl
theorem num_back (n:Int) (hn:inI64 n):numV (showV n)=(n,true):=by
 unfold inI64 at hn
 obtain⟨c,q,e1,e2,e3,e4⟩:=digs_head n.natAbs
 have hlen:=digs_len 18 n.natAbs (by show n.natAbs<10000000000000000000;omega)
 by_cases h0:n<0
 ·have hl:(showV n).data.toList=45::digs n.natAbs:=by rw[showV_list,sgV,if_pos h0];rfl
  have h48:(digs n.natAbs).head?≠some 48:=by
   rw[e1]
   intro e
   simp at e
   exact e4 (by omega) (by rw[e];rfl)
  rw[numV_neg hl,if_neg,dvl_digs]
  ·simp only
   rw[if_pos (by omega)]
   congr 1
   omega
  ·rintro (h | h | h)
   ·rw[e1] at h;simp at h
   ·omega
   ·exact h48 h
 ·have hl:(showV n).data.toList=digs n.natAbs:=by rw[showV_list,sgV,if_neg h0];rfl
  have h45:(digs n.natAbs).head?≠some 45:=by
   rw[e1]
   intro e
   simp at e
   rw[e] at e2
   simp at e2
  rw[numV_pos hl h45,if_neg,dvl_digs]
  ·simp only
   rw[if_pos (by omega)]
   congr 1
   omega
  ·rintro (h | h | h)
   ·rw[e1] at h;simp at h
   ·omega
   ·by_cases hz:n.natAbs=0
    ·rw[hz,digs_lt (by omega)] at h
     simp at h
    ·rw[e1] at h
     simp at h
     exact e4 (by omega) (by rw[h.1];rfl)
end Go.Proofs.YtojhdmfkfkfcbaaGreatDoor
