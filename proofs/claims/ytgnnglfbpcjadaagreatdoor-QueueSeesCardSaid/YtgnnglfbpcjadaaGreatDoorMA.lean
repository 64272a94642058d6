/- Texts put together: TTy, T01A, T01P, T01F, T01G, T01L, T01M, T01QA, T01B, T01N, T01E, T03A, T06A. -/
import Derived.Test.YtgnnglfbpcjadaaGreatDoorSxE
import Derived.Test.YtgnnglfbpcjadaaGreatDoorProg
import Derived.Lib.DecodeN
import Derived.Test.YtgnnglfbpcjadaaGreatDoorShelf
import Derived.Test.YtgnnglfbpcjadaaGreatDoorSxF
import Derived.Test.YtgnnglfbpcjadaaGreatDoorSxH

/- The types that the program uses, as the engine Sx takes them; the program, and the tables of its library that it reads. -/
namespace Go.Proofs.YtgnnglfbpcjadaaGreatDoor
open Go.Sx
def opNames : List (List UInt8) := [[], [97, 100, 100], [115, 117, 98], [109, 117, 108], [100, 105, 118], [109, 111, 100], [97, 110, 100], [111, 114], [120, 111, 114], [115, 104, 108], [115, 104, 114], [101, 113], [108, 101, 115, 115]]
def opAt (c : Nat) : ByteArray := ⟨(opNames.getD c []).toArray⟩
def tzTab : List Int := [0, 1, 56, 2, 57, 49, 28, 3, 61, 58, 42, 50, 38, 29, 17, 4, 62, 47, 59, 36, 45, 43, 51, 22, 53, 39, 33, 30, 24, 18, 12, 5, 63, 55, 48, 27, 60, 41, 37, 16, 46, 35, 44, 21, 52, 32, 23, 11, 54, 26, 40, 15, 34, 20, 31, 10, 25, 14, 19, 9, 13, 8, 7, 6]
noncomputable def PG : Pg := ⟨Tryz.prog,
  (1, 256, fun c => .int .u8 (Lib.firstT c)) ::
  (2, 32, fun c => .int .u8 (if c % 2 = 0 then Lib.accLo (c / 2) else Lib.accHi (c / 2))) ::
  (3, 64, fun c => .int .u8 (tzTab.getD c 0)) ::
  (0, 0, fun _ => undef) ::
  []⟩
theorem ty_0 : TI.OK Tryz.prog 2 ⟨.int .i64, 1, 8, [.d (.int .i64 0)]⟩ := TI.mk' (z := .int .i64 0) Tryz.underlying2 (by kernel_rfl) rfl ⟨rfl, trivial⟩
theorem ty_1 : TI.OK Tryz.prog 3 ⟨.int .i64, 1, 8, [.d (.int .i64 0)]⟩ := TI.mk' (z := .int .i64 0) Tryz.underlying3 (by kernel_rfl) rfl ⟨rfl, trivial⟩
theorem ty_2 : TI.OK Tryz.prog 4 ⟨.bool, 1, 1, [.d (.bool false)]⟩ := TI.mk' (z := .bool false) Tryz.underlying4 (by kernel_rfl) rfl ⟨rfl, trivial⟩
theorem ty_3 : TI.OK Tryz.prog 5 ⟨.int .u8, 1, 1, [.d (.int .u8 0)]⟩ := TI.mk' (z := .int .u8 0) Tryz.underlying5 (by kernel_rfl) rfl ⟨rfl, trivial⟩
theorem ty_4 : TI.OK Tryz.prog 9 ⟨.str, 1, 16, [.d (.str .empty)]⟩ := TI.mk' (z := .string .empty) Tryz.underlying9 (by kernel_rfl) rfl ⟨rfl, trivial⟩
theorem ty_5 : TI.OK Tryz.prog 21 ⟨.int .i32, 1, 4, [.d (.int .i32 0)]⟩ := TI.mk' (z := .int .i32 0) Tryz.underlying21 (by kernel_rfl) rfl ⟨rfl, trivial⟩
theorem ty_6 : TI.OK Tryz.prog 72 ⟨.int .u64, 1, 8, [.d (.int .u64 0)]⟩ := TI.mk' (z := .int .u64 0) Tryz.underlying72 (by kernel_rfl) rfl ⟨rfl, trivial⟩
theorem ty_7 : TI.OK Tryz.prog 31 ⟨.int .i64, 1, 8, [.d (.int .i64 0)]⟩ := TI.mk' (z := .int .i64 0) Tryz.underlying31 (by kernel_rfl) rfl ⟨rfl, trivial⟩
theorem ty_9 : TI.OK Tryz.prog 36 ⟨.slice 3, 1, 24, [.nils]⟩ := TI.mk' (z := .slice none 0 0) Tryz.underlying36 (by kernel_rfl) rfl ⟨rfl, trivial⟩
theorem ty_12 : TI.OK Tryz.prog 22 ⟨.slice 9, 1, 24, [.nils]⟩ := TI.mk' (z := .slice none 0 0) Tryz.underlying22 (by kernel_rfl) rfl ⟨rfl, trivial⟩
theorem ty_13 : TI.OK Tryz.prog 23 ⟨.slice 72, 1, 24, [.nils]⟩ := TI.mk' (z := .slice none 0 0) Tryz.underlying23 (by kernel_rfl) rfl ⟨rfl, trivial⟩
theorem ty_14 : TI.OK Tryz.prog 29 ⟨.slice 2, 1, 24, [.nils]⟩ := TI.mk' (z := .slice none 0 0) Tryz.underlying29 (by kernel_rfl) rfl ⟨rfl, trivial⟩
theorem ty_41 : TI.OK Tryz.prog 1 ⟨.func, 1, 8, [.d .nf]⟩ := TI.mk' (z := .nilFunc) ⟨_, _, _, Tryz.underlying1⟩ (by kernel_rfl) rfl ⟨rfl, trivial⟩
theorem ty_49 : TI.OK Tryz.prog 20 ⟨.iface, 1, 16, [.d .ni]⟩ := TI.mk' (z := .nilIface) ⟨_, Tryz.underlying20⟩ (by kernel_rfl) rfl ⟨rfl, trivial⟩
theorem ty_52 : TI.OK Tryz.prog 75 ⟨.struct [(0, 9), (1, 3)] [2, 0], 2, 24, [.d (.str .empty), .d (.int .i64 0)]⟩ := TI.mk' (z := .agg #[.string .empty, .int .i64 0]) ⟨⟨_, Tryz.underlying75, rfl⟩, .inr (by kernel_rfl)⟩ (by kernel_rfl) rfl ⟨rfl, rfl, trivial⟩
theorem ty_53 : TI.OK Tryz.prog 24 ⟨.slice 75, 1, 24, [.nils]⟩ := TI.mk' (z := .slice none 0 0) Tryz.underlying24 (by kernel_rfl) rfl ⟨rfl, trivial⟩
theorem ty_54 : TI.OK Tryz.prog 26 ⟨.struct [(0, 22), (1, 23), (2, 24), (3, 24), (4, 3)] [], 5, 104, [.nils, .nils, .nils, .nils, .d (.int .i64 0)]⟩ := TI.mk' (z := .agg #[.slice none 0 0, .slice none 0 0, .slice none 0 0, .slice none 0 0, .int .i64 0]) ⟨⟨_, Tryz.underlying26, rfl⟩, .inl rfl⟩ (by kernel_rfl) rfl ⟨rfl, rfl, rfl, rfl, rfl, trivial⟩
theorem ty_55 : TI.OK Tryz.prog 127 ⟨.array 2 3, 2, 16, [.d (.int .i64 0)]⟩ := TI.mk' (z := .agg (List.replicate 2 [Value.int .i64 0]).flatten.toArray) Tryz.underlying127 (by kernel_rfl) (by kernel_rfl) (all2_rep (us := [.d (.int .i64 0)]) (cs := [Value.int .i64 0]) ⟨rfl, trivial⟩ 2)
theorem ty_56 : TI.OK Tryz.prog 94 ⟨.slice 127, 1, 24, [.nils]⟩ := TI.mk' (z := .slice none 0 0) Tryz.underlying94 (by kernel_rfl) rfl ⟨rfl, trivial⟩
theorem ty_57 : TI.OK Tryz.prog 96 ⟨.struct [(0, 26), (5, 94)] [], 6, 128, [.nils, .nils, .nils, .nils, .d (.int .i64 0), .nils]⟩ := TI.mk' (z := .agg #[.slice none 0 0, .slice none 0 0, .slice none 0 0, .slice none 0 0, .int .i64 0, .slice none 0 0]) ⟨⟨_, Tryz.underlying96, rfl⟩, .inl rfl⟩ (by kernel_rfl) rfl ⟨rfl, rfl, rfl, rfl, rfl, rfl, trivial⟩
theorem ty_58 : TI.OK Tryz.prog 119 ⟨.func, 1, 8, [.d .nf]⟩ := TI.mk' (z := .nilFunc) ⟨_, _, _, Tryz.underlying119⟩ (by kernel_rfl) rfl ⟨rfl, trivial⟩
theorem ty_59 : TI.OK Tryz.prog 130 ⟨.func, 1, 8, [.d .nf]⟩ := TI.mk' (z := .nilFunc) ⟨_, _, _, Tryz.underlying130⟩ (by kernel_rfl) rfl ⟨rfl, trivial⟩
theorem ty_60 : TI.OK Tryz.prog 132 ⟨.func, 1, 8, [.d .nf]⟩ := TI.mk' (z := .nilFunc) ⟨_, _, _, Tryz.underlying132⟩ (by kernel_rfl) rfl ⟨rfl, trivial⟩
theorem ty_61 : TI.OK Tryz.prog 108 ⟨.func, 1, 8, [.d .nf]⟩ := TI.mk' (z := .nilFunc) ⟨_, _, _, Tryz.underlying108⟩ (by kernel_rfl) rfl ⟨rfl, trivial⟩
theorem ty_62 : TI.OK Tryz.prog 147 ⟨.func, 1, 8, [.d .nf]⟩ := TI.mk' (z := .nilFunc) ⟨_, _, _, Tryz.underlying147⟩ (by kernel_rfl) rfl ⟨rfl, trivial⟩
theorem ty_63 : TI.OK Tryz.prog 121 ⟨.struct [(0, 119), (1, 3)] [], 2, 16, [.d .nf, .d (.int .i64 0)]⟩ := TI.mk' (z := .agg #[.nilFunc, .int .i64 0]) ⟨⟨_, Tryz.underlying121, rfl⟩, .inl rfl⟩ (by kernel_rfl) rfl ⟨rfl, rfl, trivial⟩
theorem ty_64 : TI.OK Tryz.prog 122 ⟨.map 9 121, 1, 8, [.dead]⟩ := TI.mk' (z := .map none) Tryz.underlying122 (by kernel_rfl) rfl ⟨rfl, trivial⟩
theorem ty_65 : TI.OK Tryz.prog 93 ⟨.other, 1, 8, [.dead]⟩ := TI.mk' (z := .pointer none) ⟨_, Tryz.underlying93, trivial⟩ (by kernel_rfl) rfl ⟨rfl, trivial⟩
theorem ty_66 : TI.OK Tryz.prog 156 ⟨.other, 1, 8, [.dead]⟩ := TI.mk' (z := .pointer none) ⟨_, Tryz.underlying156, trivial⟩ (by kernel_rfl) rfl ⟨rfl, trivial⟩
theorem ty_67 : TI.OK Tryz.prog 27 ⟨.slice 29, 1, 24, [.nils]⟩ := TI.mk' (z := .slice none 0 0) Tryz.underlying27 (by kernel_rfl) rfl ⟨rfl, trivial⟩
theorem ty_68 : TI.OK Tryz.prog 44 ⟨.struct [(0, 5), (1, 3), (2, 2), (3, 3), (4, 3)] [0, 0, 0, 0, 0], 5, 40, [.d (.int .u8 0), .d (.int .i64 0), .d (.int .i64 0), .d (.int .i64 0), .d (.int .i64 0)]⟩ := TI.mk' (z := .agg #[.int .u8 0, .int .i64 0, .int .i64 0, .int .i64 0, .int .i64 0]) ⟨⟨_, Tryz.underlying44, rfl⟩, .inr (by kernel_rfl)⟩ (by kernel_rfl) rfl ⟨rfl, rfl, rfl, rfl, rfl, trivial⟩
theorem ty_69 : TI.OK Tryz.prog 37 ⟨.slice 44, 1, 24, [.nils]⟩ := TI.mk' (z := .slice none 0 0) Tryz.underlying37 (by kernel_rfl) rfl ⟨rfl, trivial⟩
theorem ty_70 : TI.OK Tryz.prog 46 ⟨.struct [(0, 3), (1, 3), (2, 44)] [], 7, 56, [.d (.int .i64 0), .d (.int .i64 0), .d (.int .u8 0), .d (.int .i64 0), .d (.int .i64 0), .d (.int .i64 0), .d (.int .i64 0)]⟩ := TI.mk' (z := .agg #[.int .i64 0, .int .i64 0, .int .u8 0, .int .i64 0, .int .i64 0, .int .i64 0, .int .i64 0]) ⟨⟨_, Tryz.underlying46, rfl⟩, .inl rfl⟩ (by kernel_rfl) rfl ⟨rfl, rfl, rfl, rfl, rfl, rfl, rfl, trivial⟩
theorem ty_71 : TI.OK Tryz.prog 28 ⟨.slice 46, 1, 24, [.nils]⟩ := TI.mk' (z := .slice none 0 0) Tryz.underlying28 (by kernel_rfl) rfl ⟨rfl, trivial⟩
theorem ty_72 : TI.OK Tryz.prog 59 ⟨.struct [(0, 26), (5, 3), (6, 27), (7, 27), (8, 5), (9, 37)] [], 10, 192, [.nils, .nils, .nils, .nils, .d (.int .i64 0), .d (.int .i64 0), .nils, .nils, .d (.int .u8 0), .nils]⟩ := TI.mk' (z := .agg #[.slice none 0 0, .slice none 0 0, .slice none 0 0, .slice none 0 0, .int .i64 0, .int .i64 0, .slice none 0 0, .slice none 0 0, .int .u8 0, .slice none 0 0]) ⟨⟨_, Tryz.underlying59, rfl⟩, .inl rfl⟩ (by kernel_rfl) rfl ⟨rfl, rfl, rfl, rfl, rfl, rfl, rfl, rfl, rfl, rfl, trivial⟩
theorem ty_73 : TI.OK Tryz.prog 77 ⟨.struct [(0, 27), (1, 36)] [], 2, 48, [.nils, .nils]⟩ := TI.mk' (z := .agg #[.slice none 0 0, .slice none 0 0]) ⟨⟨_, Tryz.underlying77, rfl⟩, .inl rfl⟩ (by kernel_rfl) rfl ⟨rfl, rfl, trivial⟩
theorem ty_74 : TI.OK Tryz.prog 79 ⟨.struct [(0, 77), (2, 26), (7, 37)] [], 8, 176, [.nils, .nils, .nils, .nils, .nils, .nils, .d (.int .i64 0), .nils]⟩ := TI.mk' (z := .agg #[.slice none 0 0, .slice none 0 0, .slice none 0 0, .slice none 0 0, .slice none 0 0, .slice none 0 0, .int .i64 0, .slice none 0 0]) ⟨⟨_, Tryz.underlying79, rfl⟩, .inl rfl⟩ (by kernel_rfl) rfl ⟨rfl, rfl, rfl, rfl, rfl, rfl, rfl, rfl, trivial⟩
theorem ty_75 : TI.OK Tryz.prog 39 ⟨.struct [(0, 26), (5, 27), (6, 36), (7, 37)] [], 8, 176, [.nils, .nils, .nils, .nils, .d (.int .i64 0), .nils, .nils, .nils]⟩ := TI.mk' (z := .agg #[.slice none 0 0, .slice none 0 0, .slice none 0 0, .slice none 0 0, .int .i64 0, .slice none 0 0, .slice none 0 0, .slice none 0 0]) ⟨⟨_, Tryz.underlying39, rfl⟩, .inl rfl⟩ (by kernel_rfl) rfl ⟨rfl, rfl, rfl, rfl, rfl, rfl, rfl, rfl, trivial⟩
theorem ty_76 : TI.OK Tryz.prog 30 ⟨.ptr, 1, 8, [.d .np]⟩ := TI.mk' (z := .pointer none) ⟨_, Tryz.underlying30⟩ (by kernel_rfl) rfl ⟨rfl, trivial⟩
theorem ty_77 : TI.OK Tryz.prog 104 ⟨.ptr, 1, 8, [.d .np]⟩ := TI.mk' (z := .pointer none) ⟨_, Tryz.underlying104⟩ (by kernel_rfl) rfl ⟨rfl, trivial⟩
theorem ty_78 : TI.OK Tryz.prog 91 ⟨.func, 1, 8, [.d .nf]⟩ := TI.mk' (z := .nilFunc) ⟨_, _, _, Tryz.underlying91⟩ (by kernel_rfl) rfl ⟨rfl, trivial⟩
theorem ty_79 : TI.OK Tryz.prog 87 ⟨.func, 1, 8, [.d .nf]⟩ := TI.mk' (z := .nilFunc) ⟨_, _, _, Tryz.underlying87⟩ (by kernel_rfl) rfl ⟨rfl, trivial⟩
theorem ty_80 : TI.OK Tryz.prog 164 ⟨.array 64 5, 64, 64, [.d (.int .u8 0)]⟩ := TI.mk' (z := .agg (List.replicate 64 [Value.int .u8 0]).flatten.toArray) Tryz.underlying164 (by kernel_rfl) (by kernel_rfl) (all2_rep (us := [.d (.int .u8 0)]) (cs := [Value.int .u8 0]) ⟨rfl, trivial⟩ 64)
def tys : List (Nat × TI) :=
  (2, ⟨.int .i64, 1, 8, [.d (.int .i64 0)]⟩) ::
  (3, ⟨.int .i64, 1, 8, [.d (.int .i64 0)]⟩) ::
  (4, ⟨.bool, 1, 1, [.d (.bool false)]⟩) ::
  (5, ⟨.int .u8, 1, 1, [.d (.int .u8 0)]⟩) ::
  (9, ⟨.str, 1, 16, [.d (.str .empty)]⟩) ::
  (21, ⟨.int .i32, 1, 4, [.d (.int .i32 0)]⟩) ::
  (72, ⟨.int .u64, 1, 8, [.d (.int .u64 0)]⟩) ::
  (31, ⟨.int .i64, 1, 8, [.d (.int .i64 0)]⟩) ::
  (36, ⟨.slice 3, 1, 24, [.nils]⟩) ::
  (22, ⟨.slice 9, 1, 24, [.nils]⟩) ::
  (23, ⟨.slice 72, 1, 24, [.nils]⟩) ::
  (29, ⟨.slice 2, 1, 24, [.nils]⟩) ::
  (1, ⟨.func, 1, 8, [.d .nf]⟩) ::
  (20, ⟨.iface, 1, 16, [.d .ni]⟩) ::
  (75, ⟨.struct [(0, 9), (1, 3)] [2, 0], 2, 24, [.d (.str .empty), .d (.int .i64 0)]⟩) ::
  (24, ⟨.slice 75, 1, 24, [.nils]⟩) ::
  (26, ⟨.struct [(0, 22), (1, 23), (2, 24), (3, 24), (4, 3)] [], 5, 104, [.nils, .nils, .nils, .nils, .d (.int .i64 0)]⟩) ::
  (127, ⟨.array 2 3, 2, 16, [.d (.int .i64 0)]⟩) ::
  (94, ⟨.slice 127, 1, 24, [.nils]⟩) ::
  (96, ⟨.struct [(0, 26), (5, 94)] [], 6, 128, [.nils, .nils, .nils, .nils, .d (.int .i64 0), .nils]⟩) ::
  (119, ⟨.func, 1, 8, [.d .nf]⟩) ::
  (130, ⟨.func, 1, 8, [.d .nf]⟩) ::
  (132, ⟨.func, 1, 8, [.d .nf]⟩) ::
  (108, ⟨.func, 1, 8, [.d .nf]⟩) ::
  (147, ⟨.func, 1, 8, [.d .nf]⟩) ::
  (121, ⟨.struct [(0, 119), (1, 3)] [], 2, 16, [.d .nf, .d (.int .i64 0)]⟩) ::
  (122, ⟨.map 9 121, 1, 8, [.dead]⟩) ::
  (93, ⟨.other, 1, 8, [.dead]⟩) ::
  (156, ⟨.other, 1, 8, [.dead]⟩) ::
  (27, ⟨.slice 29, 1, 24, [.nils]⟩) ::
  (44, ⟨.struct [(0, 5), (1, 3), (2, 2), (3, 3), (4, 3)] [0, 0, 0, 0, 0], 5, 40, [.d (.int .u8 0), .d (.int .i64 0), .d (.int .i64 0), .d (.int .i64 0), .d (.int .i64 0)]⟩) ::
  (37, ⟨.slice 44, 1, 24, [.nils]⟩) ::
  (46, ⟨.struct [(0, 3), (1, 3), (2, 44)] [], 7, 56, [.d (.int .i64 0), .d (.int .i64 0), .d (.int .u8 0), .d (.int .i64 0), .d (.int .i64 0), .d (.int .i64 0), .d (.int .i64 0)]⟩) ::
  (28, ⟨.slice 46, 1, 24, [.nils]⟩) ::
  (59, ⟨.struct [(0, 26), (5, 3), (6, 27), (7, 27), (8, 5), (9, 37)] [], 10, 192, [.nils, .nils, .nils, .nils, .d (.int .i64 0), .d (.int .i64 0), .nils, .nils, .d (.int .u8 0), .nils]⟩) ::
  (77, ⟨.struct [(0, 27), (1, 36)] [], 2, 48, [.nils, .nils]⟩) ::
  (79, ⟨.struct [(0, 77), (2, 26), (7, 37)] [], 8, 176, [.nils, .nils, .nils, .nils, .nils, .nils, .d (.int .i64 0), .nils]⟩) ::
  (39, ⟨.struct [(0, 26), (5, 27), (6, 36), (7, 37)] [], 8, 176, [.nils, .nils, .nils, .nils, .d (.int .i64 0), .nils, .nils, .nils]⟩) ::
  (30, ⟨.ptr, 1, 8, [.d .np]⟩) ::
  (104, ⟨.ptr, 1, 8, [.d .np]⟩) ::
  (91, ⟨.func, 1, 8, [.d .nf]⟩) ::
  (87, ⟨.func, 1, 8, [.d .nf]⟩) ::
  (164, ⟨.array 64 5, 64, 64, [.d (.int .u8 0)]⟩) ::
  []
theorem tysOK : TysOK Tryz.prog tys :=
  And.intro ty_0 <|
  And.intro ty_1 <|
  And.intro ty_2 <|
  And.intro ty_3 <|
  And.intro ty_4 <|
  And.intro ty_5 <|
  And.intro ty_6 <|
  And.intro ty_7 <|
  And.intro ty_9 <|
  And.intro ty_12 <|
  And.intro ty_13 <|
  And.intro ty_14 <|
  And.intro ty_41 <|
  And.intro ty_49 <|
  And.intro ty_52 <|
  And.intro ty_53 <|
  And.intro ty_54 <|
  And.intro ty_55 <|
  And.intro ty_56 <|
  And.intro ty_57 <|
  And.intro ty_58 <|
  And.intro ty_59 <|
  And.intro ty_60 <|
  And.intro ty_61 <|
  And.intro ty_62 <|
  And.intro ty_63 <|
  And.intro ty_64 <|
  And.intro ty_65 <|
  And.intro ty_66 <|
  And.intro ty_67 <|
  And.intro ty_68 <|
  And.intro ty_69 <|
  And.intro ty_70 <|
  And.intro ty_71 <|
  And.intro ty_72 <|
  And.intro ty_73 <|
  And.intro ty_74 <|
  And.intro ty_75 <|
  And.intro ty_76 <|
  And.intro ty_77 <|
  And.intro ty_78 <|
  And.intro ty_79 <|
  And.intro ty_80 <|
  trivial
theorem mixedP : Tryz.prog.follows .mixedOrders = true := by kernel_rfl
def cfg (n : Nat) : Cfg := ⟨n, 0, true, tys⟩
def cfgF (n fix : Nat) : Cfg := ⟨n, fix, true, tys⟩
end Go.Proofs.YtgnnglfbpcjadaaGreatDoor

/- What the letters and digits of the text package answer. -/
namespace Go.Proofs.YtgnnglfbpcjadaaGreatDoor
open Go.Sx
set_option linter.unusedVariables false
set_option maxRecDepth 100000


theorem digit_spec (r : Int) : Pure PG 101 [.d (.int .i32 r)] (vb (decide (48 ≤ r) && decide (r ≤ 57))) [] := by
  refine Proc.mk (cfg 9) tysOK [] Tryz.func101 rfl (by kernel_rfl) rfl rfl rfl ?_
  intro C x
  refine x.exit rfl ?_ ?_
  · exact trivial
  · exact ⟨.inr rfl, rfl, trivial, rfl⟩

theorem more_spec (s : ByteArray) (i lo hi : Int) (h0 : 0 ≤ i) : Pure PG 128 [vs s, vi i, .d (.int .u8 lo), .d (.int .u8 hi)] (vb (decide (i < s.size) && decide (lo ≤ sb s i.toNat) && decide (sb s i.toNat ≤ hi))) [] := by
  refine Proc.mk (cfg 27) tysOK [] Tryz.func128 rfl (by kernel_rfl) rfl rfl rfl ?_
  intro C x
  refine x.exit rfl ?_ ?_
  · simp only [AllP, decide_eq_true_eq, Bool.and_eq_true]
    omega
  · exact ⟨.inr rfl, rfl, trivial, rfl⟩

def cfg1 (n : Nat) : Cfg := cfgF n 1

/-- Letter$1: is the rune that was boxed between a and b? -/
theorem between_spec (r a b : Int) : Proc PG 127 1 [.d (.int .i32 a), .d (.int .i32 b), .ptr 0 0] [.box [.d (.int .i32 r)]] (vb (decide (a ≤ r) && decide (r ≤ b))) [.box [.d (.int .i32 r)]] := by
  refine Proc.mk (cfg1 14) tysOK [0] Tryz.func127 rfl (by kernel_rfl) rfl rfl rfl ?_
  intro C x
  refine x.exit rfl trivial ?_
  exact ⟨.inr rfl, rfl, ⟨⟨rfl, trivial⟩, trivial⟩, rfl⟩

theorem letter_spec (r : Int) : Pure PG 110 [.d (.int .i32 r)] (vb (decide (97 ≤ r) && decide (r ≤ 122) || decide (65 ≤ r) && decide (r ≤ 90) || decide (r = 95) || decide (945 ≤ r) && decide (r ≤ 969) || decide (913 ≤ r) && decide (r ≤ 937) && !decide (r = 930))) [] := by
  refine Proc.mk (cfg 27) tysOK [] Tryz.func110 rfl (by kernel_rfl) rfl rfl rfl ?_
  intro C x
  refine x.call [0] rfl trivial rfl (between_spec r 97 122) rfl ⟨rfl, rfl, ⟨rfl, rfl⟩, trivial⟩ ⟨⟨rfl, trivial⟩, trivial⟩ ?_
  refine x.callG [0] rfl trivial rfl (fun _ => between_spec r 65 90) rfl ⟨rfl, rfl, ⟨rfl, rfl⟩, trivial⟩ ⟨⟨rfl, trivial⟩, trivial⟩ ⟨⟨rfl, trivial⟩, trivial⟩ ?_
  refine x.callG [0] rfl ?_ rfl (fun _ => between_spec r 945 969) rfl ⟨rfl, rfl, ⟨rfl, rfl⟩, trivial⟩ ⟨⟨rfl, trivial⟩, trivial⟩ ⟨⟨rfl, trivial⟩, trivial⟩ ?_
  · exact trivial
  refine x.callG [0] rfl trivial rfl (fun _ => between_spec r 913 937) rfl ⟨rfl, rfl, ⟨rfl, rfl⟩, trivial⟩ ⟨⟨rfl, trivial⟩, trivial⟩ ⟨⟨rfl, trivial⟩, trivial⟩ ?_
  refine x.exit rfl ?_ ?_
  · exact trivial
  · refine ⟨.inr rfl, ?_, trivial, rfl⟩
    rfl
end Go.Proofs.YtgnnglfbpcjadaaGreatDoor

/- Plain facts: bytes, masks, and how the model's decoder reads a rune. -/
namespace Go.Proofs.YtgnnglfbpcjadaaGreatDoor
open Go.Sx
set_option linter.unusedVariables false
set_option linter.unusedSimpArgs false
set_option maxRecDepth 100000

theorem sb_get (s : ByteArray) (i : Nat) : sb s i = ((s.get! i).toNat : Int) := by
  unfold sb
  congr 2
  cases s with
  | mk d =>
    show d.toList.getD i 0 = d[i]!
    simp [List.getD_eq_getElem?_getD, getElem!_def]
    cases h : d[i]? <;> simp <;> rfl
theorem sb_nonneg (s : ByteArray) (i : Nat) : 0 ≤ sb s i := by unfold sb; exact Int.natCast_nonneg _
theorem sb_lt (s : ByteArray) (i : Nat) : sb s i < 256 := by unfold sb; have := (s.data.toList.getD i 0).toNat_lt; omega

theorem wrap_u8 {n : Nat} (h : n < 256) : IntKind.u8.wrap (n : Int) = n := by
  show (n : Int) % 256 = n
  omega
theorem mask (x : Nat) (m k : Nat) (hx : x < 256) (hm : m = 2 ^ k - 1) (hm' : m < 256) : bitI .and .u8 (x : Int) (m : Int) = ((x % 2 ^ k : Nat) : Int) := by
  unfold bitI
  simp only
  rw [BitVec.toNat_and]
  have h1 : (BitVec.ofInt IntKind.u8.bits (x : Int)).toNat = x := by
    show (BitVec.ofInt 8 (x : Int)).toNat = x
    simp [BitVec.toNat_ofInt]; omega
  have h2 : (BitVec.ofInt IntKind.u8.bits (m : Int)).toNat = m := by
    show (BitVec.ofInt 8 (m : Int)).toNat = m
    simp [BitVec.toNat_ofInt]; omega
  rw [h1, h2, hm, Nat.and_two_pow_sub_one_eq_mod]
  refine wrap_u8 (Nat.lt_of_le_of_lt (Nat.mod_le _ _) hx)
theorem maskI (x : Int) (m k : Nat) (h0 : 0 ≤ x) (hx : x < 256) (hm : m = 2 ^ k - 1) (hm' : m < 256) : bitI .and .u8 x (m : Int) = x % (2 ^ k : Nat) := by
  obtain ⟨y, rfl⟩ := Int.eq_ofNat_of_zero_le h0
  rw [mask y m k (by omega) hm hm']
  rfl
theorem mask31 {x : Int} (h0 : 0 ≤ x) (hx : x < 256) : bitI .and .u8 x 31 = x % 32 := maskI x 31 5 h0 hx rfl (by decide)
theorem mask63 {x : Int} (h0 : 0 ≤ x) (hx : x < 256) : bitI .and .u8 x 63 = x % 64 := maskI x 63 6 h0 hx rfl (by decide)
theorem mask15 {x : Int} (h0 : 0 ≤ x) (hx : x < 256) : bitI .and .u8 x 15 = x % 16 := maskI x 15 4 h0 hx rfl (by decide)
theorem mask7 {x : Int} (h0 : 0 ≤ x) (hx : x < 256) : bitI .and .u8 x 7 = x % 8 := maskI x 7 3 h0 hx rfl (by decide)

/-- May the byte at p be one of lo to hi? -/
def moreB (s : ByteArray) (i lo hi : Int) : Bool := decide (i < s.size) && decide (lo ≤ sb s i.toNat) && decide (sb s i.toNat ≤ hi)

theorem ite_cg {α : Type} {c c' : Prop} [Decidable c] [Decidable c'] {x x' y y' : α} (h : c ↔ c') (e1 : x = x') (e2 : y = y') : ite c x y = ite c' x' y' := by
  subst e1 e2
  by_cases hc : c
  · rw [if_pos hc, if_pos (h.1 hc)]
  · rw [if_neg hc, if_neg (fun h' => hc (h.2 h'))]

/-- Byte i. -/
def bt (s : ByteArray) (i : Nat) : Nat := (s.get! i).toNat
theorem sb_bt (s : ByteArray) (i : Nat) : sb s i = (bt s i : Int) := sb_get s i
theorem bt_lt (s : ByteArray) (i : Nat) : bt s i < 256 := (s.get! i).toNat_lt

/-- What the bytes a b c d at p, in sz bytes, spell: the decoder's answer. -/
def dec (sz p a b c d : Nat) : Nat × Nat :=
  if a < 128 then (a, 1)
  else if a / 32 = 6 ∧ p + 1 < sz ∧ b / 64 = 2 then
    if 128 ≤ a % 32 * 64 + b % 64 then (a % 32 * 64 + b % 64, 2) else (65533, 1)
  else if a / 16 = 14 ∧ p + 1 < sz ∧ b / 64 = 2 ∧ p + 2 < sz ∧ c / 64 = 2 then
    if 2048 ≤ a % 16 * 4096 + b % 64 * 64 + c % 64 ∧ ¬ (55296 ≤ a % 16 * 4096 + b % 64 * 64 + c % 64 ∧ a % 16 * 4096 + b % 64 * 64 + c % 64 ≤ 57343)
    then (a % 16 * 4096 + b % 64 * 64 + c % 64, 3) else (65533, 1)
  else if a / 8 = 30 ∧ p + 1 < sz ∧ b / 64 = 2 ∧ p + 2 < sz ∧ c / 64 = 2 ∧ p + 3 < sz ∧ d / 64 = 2 then
    if 65536 ≤ a % 8 * 262144 + b % 64 * 4096 + c % 64 * 64 + d % 64 ∧ a % 8 * 262144 + b % 64 * 4096 + c % 64 * 64 + d % 64 ≤ 1114111
    then (a % 8 * 262144 + b % 64 * 4096 + c % 64 * 64 + d % 64, 4) else (65533, 1)
  else (65533, 1)

theorem decode_eq (s : ByteArray) (p : Nat) : Utf8.decode s p = dec s.size p (bt s p) (bt s (p + 1)) (bt s (p + 2)) (bt s (p + 3)) := by
  unfold Utf8.decode dec
  have hr : Utf8.runeError = 65533 := rfl
  have e : ∀ k, (s.get! k).toNat = bt s k := fun k => rfl
  have h1 := bt_lt s (p + 1)
  have h2 := bt_lt s (p + 2)
  have h3 := bt_lt s (p + 3)
  have h0 := bt_lt s p
  simp only [hr, e, Nat.add_zero, Bool.and_eq_true, decide_eq_true_eq, beq_iff_eq, and_assoc]
  refine ite_cg Iff.rfl rfl (ite_cg Iff.rfl rfl (ite_cg Iff.rfl (ite_cg ?_ rfl rfl) (ite_cg Iff.rfl (ite_cg ?_ rfl rfl) rfl)))
  · simp only [Utf8.valid, Bool.or_eq_true, Bool.and_eq_true, decide_eq_true_eq]
    omega
  · simp only [Utf8.valid, Bool.or_eq_true, Bool.and_eq_true, decide_eq_true_eq]
    omega

/-- The rune at i and its length; zeros where there is none. -/
def formV (s : ByteArray) (i : Int) : Int × Int :=
  if 0 ≤ i ∧ i < s.size then
    if (Utf8.decode s i.toNat).2 = 1 ∧ 128 ≤ bt s i.toNat then (0, 0) else (((Utf8.decode s i.toNat).1 : Int), ((Utf8.decode s i.toNat).2 : Int))
  else (0, 0)
/-- The same in plain numbers. -/
theorem dec_form (sz p a b c d : Nat) (ha : a < 256) (hb : b < 256) (hc : c < 256) (hd : d < 256) :
    (if (dec sz p a b c d).2 = 1 ∧ 128 ≤ a then (0, 0) else (dec sz p a b c d)) =
    if a < 128 then (a, 1)
    else if 194 ≤ a ∧ a ≤ 223 ∧ p + 1 < sz ∧ 128 ≤ b ∧ b ≤ 191 then (a % 32 * 64 + b % 64, 2)
    else if 224 ≤ a ∧ a ≤ 239 ∧ p + 1 < sz ∧ (a = 224 → 160 ≤ b) ∧ (a = 237 → b ≤ 159) ∧ 128 ≤ b ∧ b ≤ 191 ∧ p + 2 < sz ∧ 128 ≤ c ∧ c ≤ 191 then (a % 16 * 4096 + b % 64 * 64 + c % 64, 3)
    else if 240 ≤ a ∧ a ≤ 244 ∧ p + 1 < sz ∧ (a = 240 → 144 ≤ b) ∧ (a = 244 → b ≤ 143) ∧ 128 ≤ b ∧ b ≤ 191 ∧ p + 2 < sz ∧ 128 ≤ c ∧ c ≤ 191 ∧ p + 3 < sz ∧ 128 ≤ d ∧ d ≤ 191 then (a % 8 * 262144 + b % 64 * 4096 + c % 64 * 64 + d % 64, 4)
    else (0, 0) := by
  unfold dec
  by_cases h1 : a < 128
  · rw [if_pos h1, if_pos h1, if_neg (by omega)]
  rw [if_neg h1, if_neg h1]
  by_cases h2 : a / 32 = 6 ∧ p + 1 < sz ∧ b / 64 = 2
  · rw [if_pos h2]
    by_cases h3 : 128 ≤ a % 32 * 64 + b % 64
    · rw [if_pos h3, if_neg (by simp), if_pos (by omega)]
    · rw [if_neg h3, if_pos ⟨rfl, by omega⟩, if_neg (by omega), if_neg (by omega), if_neg (by omega)]
  rw [if_neg h2, if_neg (c := 194 ≤ a ∧ a ≤ 223 ∧ p + 1 < sz ∧ 128 ≤ b ∧ b ≤ 191) (by omega)]
  by_cases h4 : a / 16 = 14 ∧ p + 1 < sz ∧ b / 64 = 2 ∧ p + 2 < sz ∧ c / 64 = 2
  · rw [if_pos h4]
    by_cases h5 : 2048 ≤ a % 16 * 4096 + b % 64 * 64 + c % 64 ∧ ¬ (55296 ≤ a % 16 * 4096 + b % 64 * 64 + c % 64 ∧ a % 16 * 4096 + b % 64 * 64 + c % 64 ≤ 57343)
    · rw [if_pos h5, if_neg (by simp), if_pos (by omega)]
    · rw [if_neg h5, if_pos ⟨rfl, by omega⟩, if_neg (by omega), if_neg (by omega)]
  rw [if_neg h4, if_neg (c := 224 ≤ a ∧ _) (by omega)]
  by_cases h6 : a / 8 = 30 ∧ p + 1 < sz ∧ b / 64 = 2 ∧ p + 2 < sz ∧ c / 64 = 2 ∧ p + 3 < sz ∧ d / 64 = 2
  · rw [if_pos h6]
    by_cases h7 : 65536 ≤ a % 8 * 262144 + b % 64 * 4096 + c % 64 * 64 + d % 64 ∧ a % 8 * 262144 + b % 64 * 4096 + c % 64 * 64 + d % 64 ≤ 1114111
    · rw [if_pos h7, if_neg (by simp), if_pos (by omega)]
    · rw [if_neg h7, if_pos ⟨rfl, by omega⟩, if_neg (by omega)]
  rw [if_neg h6, if_pos ⟨rfl, by omega⟩, if_neg (by omega)]
theorem formV_out {s : ByteArray} {i : Int} (h : ¬ (0 ≤ i ∧ i < s.size)) : formV s i = (0, 0) := by unfold formV; rw [if_neg h]
theorem formV_in {s : ByteArray} {i : Int} (h : 0 ≤ i ∧ i < s.size) : formV s i =
    (((if (dec s.size i.toNat (bt s i.toNat) (bt s (i.toNat + 1)) (bt s (i.toNat + 2)) (bt s (i.toNat + 3))).2 = 1 ∧ 128 ≤ bt s i.toNat then (0, 0) else (dec s.size i.toNat (bt s i.toNat) (bt s (i.toNat + 1)) (bt s (i.toNat + 2)) (bt s (i.toNat + 3)))).1 : Int),
     ((if (dec s.size i.toNat (bt s i.toNat) (bt s (i.toNat + 1)) (bt s (i.toNat + 2)) (bt s (i.toNat + 3))).2 = 1 ∧ 128 ≤ bt s i.toNat then (0, 0) else (dec s.size i.toNat (bt s i.toNat) (bt s (i.toNat + 1)) (bt s (i.toNat + 2)) (bt s (i.toNat + 3)))).2 : Int)) := by
  unfold formV
  rw [if_pos h, decode_eq]
  split <;> rfl
section
variable {s : ByteArray} {i : Int} (h : 0 ≤ i ∧ i < s.size)
include h
theorem moreB_nat (k : Nat) (lo hi : Int) : moreB s (i + (k : Int)) lo hi = (decide (i.toNat + k < s.size) && decide (lo ≤ (bt s (i.toNat + k) : Int)) && decide ((bt s (i.toNat + k) : Int) ≤ hi)) := by
  unfold moreB
  rw [show (i + (k : Int)).toNat = i.toNat + k by omega, sb_bt]
  congr 2
  exact decide_eq_decide.2 (by omega)
theorem more1 (lo hi : Int) : moreB s (i + 1) lo hi = (decide (i.toNat + 1 < s.size) && decide (lo ≤ (bt s (i.toNat + 1) : Int)) && decide ((bt s (i.toNat + 1) : Int) ≤ hi)) := moreB_nat h 1 lo hi
theorem more2 (lo hi : Int) : moreB s (i + 2) lo hi = (decide (i.toNat + 2 < s.size) && decide (lo ≤ (bt s (i.toNat + 2) : Int)) && decide ((bt s (i.toNat + 2) : Int) ≤ hi)) := moreB_nat h 2 lo hi
theorem more3 (lo hi : Int) : moreB s (i + 3) lo hi = (decide (i.toNat + 3 < s.size) && decide (lo ≤ (bt s (i.toNat + 3) : Int)) && decide ((bt s (i.toNat + 3) : Int) ≤ hi)) := moreB_nat h 3 lo hi
theorem sbk (k : Nat) : sb s (i + (k : Int)).toNat = (bt s (i.toNat + k) : Int) := by
  rw [show (i + (k : Int)).toNat = i.toNat + k by omega, sb_bt]
theorem sb1 : sb s (i + 1).toNat = (bt s (i.toNat + 1) : Int) := sbk h 1
theorem sb2 : sb s (i + 2).toNat = (bt s (i.toNat + 2) : Int) := sbk h 2
theorem sb3 : sb s (i + 3).toNat = (bt s (i.toNat + 3) : Int) := sbk h 3

theorem form1 (h1 : decide (sb s i.toNat < 128) = true) : formV s i = (sb s i.toNat, 1) := by
  rw [formV_in h, dec_form _ _ _ _ _ _ (bt_lt _ _) (bt_lt _ _) (bt_lt _ _) (bt_lt _ _)]
  simp only [sb_bt, decide_eq_true_eq] at *
  rw [if_pos (by omega)]
  rfl
theorem form2 (h2 : (decide (194 ≤ sb s i.toNat) && decide (sb s i.toNat ≤ 223) && moreB s (i + 1) 128 191) = true) :
    formV s i = (bitI .and .u8 (sb s i.toNat) 31 * 64 + bitI .and .u8 (sb s (i + 1).toNat) 63, 2) := by
  rw [mask31 (sb_nonneg _ _) (sb_lt _ _), mask63 (sb_nonneg _ _) (sb_lt _ _)]
  rw [formV_in h, dec_form _ _ _ _ _ _ (bt_lt _ _) (bt_lt _ _) (bt_lt _ _) (bt_lt _ _)]
  simp only [more1 h, sb1 h, sb_bt, Bool.and_eq_true, decide_eq_true_eq] at *
  rw [if_neg (by omega), if_pos (by omega)]
  simp
theorem form3 (y z : Int) (h0 : decide (224 ≤ sb s i.toNat) = true ∧ decide (sb s i.toNat ≤ 239) = true) (hy : (sb s i.toNat = 224 → 160 ≤ y) ∧ 128 ≤ y) (hz : (sb s i.toNat = 237 → z ≤ 159) ∧ z ≤ 191)
    (h2 : (moreB s (i + 1) y z && moreB s (i + 2) 128 191) = true) :
    formV s i = (bitI .and .u8 (sb s i.toNat) 15 * 4096 + bitI .and .u8 (sb s (i + 1).toNat) 63 * 64 + bitI .and .u8 (sb s (i + 2).toNat) 63, 3) := by
  rw [mask15 (sb_nonneg _ _) (sb_lt _ _), mask63 (sb_nonneg _ _) (sb_lt _ _), mask63 (sb_nonneg _ _) (sb_lt _ _)]
  rw [formV_in h, dec_form _ _ _ _ _ _ (bt_lt _ _) (bt_lt _ _) (bt_lt _ _) (bt_lt _ _)]
  simp only [more1 h, more2 h, sb1 h, sb2 h, sb_bt, Bool.and_eq_true, decide_eq_true_eq] at *
  rw [if_neg (by omega), if_neg (by omega), if_pos (by omega)]
  simp
theorem form4 (y z : Int) (h0 : decide (240 ≤ sb s i.toNat) = true ∧ decide (sb s i.toNat ≤ 244) = true) (hy : (sb s i.toNat = 240 → 144 ≤ y) ∧ 128 ≤ y) (hz : (sb s i.toNat = 244 → z ≤ 143) ∧ z ≤ 191)
    (h2 : (moreB s (i + 1) y z && moreB s (i + 2) 128 191 && moreB s (i + 3) 128 191) = true) :
    formV s i = (bitI .and .u8 (sb s i.toNat) 7 * 262144 + bitI .and .u8 (sb s (i + 1).toNat) 63 * 4096 + bitI .and .u8 (sb s (i + 2).toNat) 63 * 64 + bitI .and .u8 (sb s (i + 3).toNat) 63, 4) := by
  rw [mask7 (sb_nonneg _ _) (sb_lt _ _), mask63 (sb_nonneg _ _) (sb_lt _ _), mask63 (sb_nonneg _ _) (sb_lt _ _), mask63 (sb_nonneg _ _) (sb_lt _ _)]
  rw [formV_in h, dec_form _ _ _ _ _ _ (bt_lt _ _) (bt_lt _ _) (bt_lt _ _) (bt_lt _ _)]
  simp only [more1 h, more2 h, more3 h, sb1 h, sb2 h, sb3 h, sb_bt, Bool.and_eq_true, decide_eq_true_eq] at *
  rw [if_neg (by omega), if_neg (by omega), if_neg (by omega), if_pos (by omega)]
  simp
theorem formBad (h1 : decide (sb s i.toNat < 128) = false) (h2 : (decide (194 ≤ sb s i.toNat) && decide (sb s i.toNat ≤ 223) && moreB s (i + 1) 128 191) = false)
    (h3 : (224 ≤ sb s i.toNat ∧ sb s i.toNat ≤ 239) → ∃ y z : Int, (sb s i.toNat ≠ 224 ∧ y ≤ 128 ∨ y ≤ 160 ∧ sb s i.toNat = 224) ∧ (sb s i.toNat ≠ 237 ∧ 191 ≤ z ∨ 159 ≤ z ∧ sb s i.toNat = 237) ∧ (moreB s (i + 1) y z && moreB s (i + 2) 128 191) = false)
    (h4 : (240 ≤ sb s i.toNat ∧ sb s i.toNat ≤ 244) → ∃ y z : Int, (sb s i.toNat ≠ 240 ∧ y ≤ 128 ∨ y ≤ 144 ∧ sb s i.toNat = 240) ∧ (sb s i.toNat ≠ 244 ∧ 191 ≤ z ∨ 143 ≤ z ∧ sb s i.toNat = 244) ∧ (moreB s (i + 1) y z && moreB s (i + 2) 128 191 && moreB s (i + 3) 128 191) = false) :
    formV s i = (0, 0) := by
  rw [formV_in h, dec_form _ _ _ _ _ _ (bt_lt _ _) (bt_lt _ _) (bt_lt _ _) (bt_lt _ _)]
  simp only [more1 h, more2 h, more3 h, sb_bt, Bool.and_eq_false_iff, decide_eq_false_iff_not] at *
  rw [if_neg (by clear h3 h4; omega), if_neg (by clear h3 h4; omega), if_neg ?_, if_neg ?_]
  · rfl
  · intro hh
    obtain ⟨y, z, h5, h6, h7⟩ := h4 (by clear h3 h4; omega)
    clear h3 h4
    omega
  · intro hh
    obtain ⟨y, z, h5, h6, h7⟩ := h3 (by clear h3 h4; omega)
    clear h3 h4
    omega
end
end Go.Proofs.YtgnnglfbpcjadaaGreatDoor

/- The reference's form of a rune. -/
namespace Go.Proofs.YtgnnglfbpcjadaaGreatDoor
open Go.Sx
set_option linter.unusedVariables false
set_option linter.unusedSimpArgs false
set_option maxRecDepth 100000

theorem drawsMixed : Tryz.prog.follows .mixedOrders = true := by kernel_rfl

theorem inI64_small {n : Int} (h0 : -4611686018427387904 ≤ n) (h1 : n ≤ 4611686018427387904) : inI64 n := by unfold inI64; omega
section
variable {s : ByteArray} {i : Int} (h : 0 ≤ i ∧ i < s.size) (hs : s.size ≤ 9223372036854775807)
include h hs
theorem ob2 (h2 : (decide (194 ≤ sb s i.toNat) && decide (sb s i.toNat ≤ 223) && moreB s (i + 1) 128 191) = true) :
    AllP [inI64 (bitI BinOp.and IntKind.u8 (sb s i.toNat) 31), inI64 (bitI BinOp.and IntKind.u8 (sb s i.toNat) 31 * 64),
      inI64 (i + 1), 0 ≤ i + 1 ∧ i + 1 < ↑s.size, inI64 (bitI BinOp.and IntKind.u8 (sb s (i + 1).toNat) 63),
      inI64 (bitI BinOp.and IntKind.u8 (sb s i.toNat) 31 * 64 + bitI BinOp.and IntKind.u8 (sb s (i + 1).toNat) 63)] := by
  rw [mask31 (sb_nonneg _ _) (sb_lt _ _), mask63 (sb_nonneg _ _) (sb_lt _ _)]
  simp only [moreB, Bool.and_eq_true, decide_eq_true_eq] at h2
  simp only [AllP, inI64]
  omega
theorem ob3 {y z : Int} (h2 : (moreB s (i + 1) y z && moreB s (i + 2) 128 191) = true) :
    AllP [inI64 (bitI BinOp.and IntKind.u8 (sb s i.toNat) 15), inI64 (bitI BinOp.and IntKind.u8 (sb s i.toNat) 15 * 4096),
      inI64 (i + 1), 0 ≤ i + 1 ∧ i + 1 < ↑s.size, inI64 (bitI BinOp.and IntKind.u8 (sb s (i + 1).toNat) 63), inI64 (bitI BinOp.and IntKind.u8 (sb s (i + 1).toNat) 63 * 64),
      inI64 (bitI BinOp.and IntKind.u8 (sb s i.toNat) 15 * 4096 + bitI BinOp.and IntKind.u8 (sb s (i + 1).toNat) 63 * 64),
      inI64 (i + 2), 0 ≤ i + 2 ∧ i + 2 < ↑s.size, inI64 (bitI BinOp.and IntKind.u8 (sb s (i + 2).toNat) 63),
      inI64 (bitI BinOp.and IntKind.u8 (sb s i.toNat) 15 * 4096 + bitI BinOp.and IntKind.u8 (sb s (i + 1).toNat) 63 * 64 + bitI BinOp.and IntKind.u8 (sb s (i + 2).toNat) 63)] := by
  rw [mask15 (sb_nonneg _ _) (sb_lt _ _), mask63 (sb_nonneg _ _) (sb_lt _ _), mask63 (sb_nonneg _ _) (sb_lt _ _)]
  simp only [moreB, Bool.and_eq_true, decide_eq_true_eq] at h2
  simp only [AllP, inI64]
  omega
theorem ob4 {y z : Int} (h2 : (moreB s (i + 1) y z && moreB s (i + 2) 128 191 && moreB s (i + 3) 128 191) = true) :
    AllP [inI64 (bitI BinOp.and IntKind.u8 (sb s i.toNat) 7), inI64 (bitI BinOp.and IntKind.u8 (sb s i.toNat) 7 * 262144),
      inI64 (i + 1), 0 ≤ i + 1 ∧ i + 1 < ↑s.size, inI64 (bitI BinOp.and IntKind.u8 (sb s (i + 1).toNat) 63), inI64 (bitI BinOp.and IntKind.u8 (sb s (i + 1).toNat) 63 * 4096),
      inI64 (bitI BinOp.and IntKind.u8 (sb s i.toNat) 7 * 262144 + bitI BinOp.and IntKind.u8 (sb s (i + 1).toNat) 63 * 4096),
      inI64 (i + 2), 0 ≤ i + 2 ∧ i + 2 < ↑s.size, inI64 (bitI BinOp.and IntKind.u8 (sb s (i + 2).toNat) 63), inI64 (bitI BinOp.and IntKind.u8 (sb s (i + 2).toNat) 63 * 64),
      inI64 (bitI BinOp.and IntKind.u8 (sb s i.toNat) 7 * 262144 + bitI BinOp.and IntKind.u8 (sb s (i + 1).toNat) 63 * 4096 + bitI BinOp.and IntKind.u8 (sb s (i + 2).toNat) 63 * 64),
      inI64 (i + 3), 0 ≤ i + 3 ∧ i + 3 < ↑s.size, inI64 (bitI BinOp.and IntKind.u8 (sb s (i + 3).toNat) 63),
      inI64 (bitI BinOp.and IntKind.u8 (sb s i.toNat) 7 * 262144 + bitI BinOp.and IntKind.u8 (sb s (i + 1).toNat) 63 * 4096 + bitI BinOp.and IntKind.u8 (sb s (i + 2).toNat) 63 * 64 + bitI BinOp.and IntKind.u8 (sb s (i + 3).toNat) 63)] := by
  rw [mask7 (sb_nonneg _ _) (sb_lt _ _), mask63 (sb_nonneg _ _) (sb_lt _ _), mask63 (sb_nonneg _ _) (sb_lt _ _), mask63 (sb_nonneg _ _) (sb_lt _ _)]
  simp only [moreB, Bool.and_eq_true, decide_eq_true_eq] at h2
  simp only [AllP, inI64]
  omega
end
theorem no34 {a : Int} (h : (decide (224 ≤ a) && decide (a ≤ 239)) = true) : ¬ (decide (240 ≤ a) && decide (a ≤ 244)) = true := by
  simp only [Bool.and_eq_true, decide_eq_true_eq] at *; omega
theorem no34' {a : Int} (h : (decide (224 ≤ a) && decide (a ≤ 239)) = true) : ¬ (240 ≤ a ∧ a ≤ 244) := by
  simp only [Bool.and_eq_true, decide_eq_true_eq] at *; omega
theorem no34f {a : Int} (h : (decide (224 ≤ a) && decide (a ≤ 239)) = false) : ¬ (224 ≤ a ∧ a ≤ 239) := by
  simp only [Bool.and_eq_false_iff, decide_eq_false_iff_not] at *; omega
theorem no34g {a : Int} (h : (decide (240 ≤ a) && decide (a ≤ 244)) = false) : ¬ (240 ≤ a ∧ a ≤ 244) := by
  simp only [Bool.and_eq_false_iff, decide_eq_false_iff_not] at *; omega

theorem mlt1 {s : ByteArray} {i lo hi : Int} (h : moreB s (i + 1) lo hi = true) : i + 2 ≤ s.size := by
  simp only [moreB, Bool.and_eq_true, decide_eq_true_eq] at h; omega
theorem mlt2 {s : ByteArray} {i lo hi lo' hi' : Int} (h : (moreB s (i + 1) lo hi && moreB s (i + 2) lo' hi') = true) : i + 3 ≤ s.size := by
  simp only [moreB, Bool.and_eq_true, decide_eq_true_eq] at h; omega

set_option maxHeartbeats 4000000 in
theorem form_spec (s : ByteArray) (i : Int) (hs : s.size ≤ 9223372036854775807) : Pure PG 116 [vs s, vi i] (.tup [vi (formV s i).1, vi (formV s i).2]) [] := by
  refine Proc.mk (cfg 145) tysOK [] Tryz.func116 rfl (by kernel_rfl) rfl rfl rfl ?_
  intro C x
  refine x.cond rfl trivial (fun h0 => ?_) (fun h0 => ?_)
  · refine x.exit rfl trivial ?_
    refine ⟨.inr rfl, ?_, trivial, rfl⟩
    rw [formV_out (by simp at h0; omega)]
    exact ⟨rfl, rfl, trivial⟩
  have hi : 0 ≤ i ∧ i < s.size := by
    simp only [Bool.or_eq_false_iff, decide_eq_false_iff_not] at h0
    omega
  have hin : ∀ k : Int, 0 ≤ k ∧ i + k ≤ s.size → inI64 (i + k) := fun k hk => by unfold inI64; omega
  have hm : ∀ k lo hi : Int, 0 ≤ k → Pure PG 128 [vs s, vi (i + k), .d (.int .u8 lo), .d (.int .u8 hi)] (vb (moreB s (i + k) lo hi)) [] := fun k lo hi hk => more_spec s (i + k) lo hi (by omega)
  have hsb := sb_nonneg s i.toNat
  have hsb' := sb_lt s i.toNat
  refine x.cond rfl hi (fun h1 => ?_) (fun h1 => ?_)
  · refine x.exit rfl ?_ ?_
    · show inI64 _
      unfold inI64
      omega
    refine ⟨.inr rfl, ?_, trivial, rfl⟩
    rw [form1 hi h1]
    exact ⟨rfl, rfl, trivial⟩
  refine x.pureG rfl (fun _ => hin 1 (by omega)) rfl (fun _ => hm 1 128 191 (by omega)) rfl ⟨rfl, rfl, rfl, rfl, trivial⟩ ?_
  refine x.cond rfl trivial (fun h2 => ?_) (fun h2 => ?_)
  · refine x.exit rfl (ob2 hi hs h2) ?_
    refine ⟨.inr rfl, ?_, trivial, rfl⟩
    rw [form2 hi h2]
    exact ⟨rfl, rfl, trivial⟩
  refine x.cond rfl trivial (fun h3 => ?_) (fun h3 => ?_)
  · refine x.cond rfl trivial (fun h4 => ?_) (fun h4 => ?_)
    · refine x.cond rfl trivial (fun h5 => ?_) (fun h5 => ?_)
      · simp at h4 h5; omega
      · have hy : (sb s i.toNat = 224 → (160:Int) ≤ 160) ∧ (128:Int) ≤ 160 := by omega
        have hz : (sb s i.toNat = 237 → (191:Int) ≤ 159) ∧ (191:Int) ≤ 191 := by simp at h4 h5; omega
        refine x.pure rfl (by exact hin 1 (by omega)) rfl (hm 1 160 191 (by omega)) ⟨rfl, rfl, rfl, rfl, trivial⟩ ?_
        refine x.pureG rfl (fun hg => hin 2 ⟨by omega, mlt1 hg⟩) rfl (fun _ => hm 2 128 191 (by omega)) rfl ⟨rfl, rfl, rfl, rfl, trivial⟩ ?_
        refine x.cond rfl trivial (fun h6 => ?_) (fun h6 => ?_)
        · refine x.quiet rfl trivial drawsMixed (by kernel_rfl) ?_
          refine x.qdone rfl ?_ ?_
          · exact ob3 hi hs h6
          refine x.exit rfl trivial ?_
          refine ⟨.inr rfl, ?_, trivial, rfl⟩
          rw [form3 hi 160 191 (Bool.and_eq_true_iff.1 h3) (by first | exact hy | (simp at * <;> omega)) (by first | exact hz | (simp at * <;> omega)) h6]
          exact ⟨rfl, rfl, trivial⟩
        · refine x.cond rfl trivial (fun h7 => absurd h7 (no34 h3)) (fun h7 => ?_)
          refine x.exit rfl trivial ?_
          refine ⟨.inr rfl, ?_, trivial, rfl⟩
          rw [formBad hi h1 h2 (fun _ => ⟨160, 191, by simp at * <;> omega, by simp at * <;> omega, h6⟩) (fun h8 => absurd h8 (no34' h3))]
          exact ⟨rfl, rfl, trivial⟩
    · refine x.cond rfl trivial (fun h5 => ?_) (fun h5 => ?_)
      · have hy : (sb s i.toNat = 224 → (160:Int) ≤ 128) ∧ (128:Int) ≤ 128 := by simp at h4 h5; omega
        have hz : (sb s i.toNat = 237 → (159:Int) ≤ 159) ∧ (159:Int) ≤ 191 := by omega
        refine x.pure rfl (by exact hin 1 (by omega)) rfl (hm 1 128 159 (by omega)) ⟨rfl, rfl, rfl, rfl, trivial⟩ ?_
        refine x.pureG rfl (fun hg => hin 2 ⟨by omega, mlt1 hg⟩) rfl (fun _ => hm 2 128 191 (by omega)) rfl ⟨rfl, rfl, rfl, rfl, trivial⟩ ?_
        refine x.cond rfl trivial (fun h6 => ?_) (fun h6 => ?_)
        · refine x.quiet rfl trivial drawsMixed (by kernel_rfl) ?_
          refine x.qdone rfl ?_ ?_
          · exact ob3 hi hs h6
          refine x.exit rfl trivial ?_
          refine ⟨.inr rfl, ?_, trivial, rfl⟩
          rw [form3 hi 128 159 (Bool.and_eq_true_iff.1 h3) (by first | exact hy | (simp at * <;> omega)) (by first | exact hz | (simp at * <;> omega)) h6]
          exact ⟨rfl, rfl, trivial⟩
        · refine x.cond rfl trivial (fun h7 => absurd h7 (no34 h3)) (fun h7 => ?_)
          refine x.exit rfl trivial ?_
          refine ⟨.inr rfl, ?_, trivial, rfl⟩
          rw [formBad hi h1 h2 (fun _ => ⟨128, 159, by simp at * <;> omega, by simp at * <;> omega, h6⟩) (fun h8 => absurd h8 (no34' h3))]
          exact ⟨rfl, rfl, trivial⟩
      · have hy : (sb s i.toNat = 224 → (160:Int) ≤ 128) ∧ (128:Int) ≤ 128 := by simp at h4 h5; omega
        have hz : (sb s i.toNat = 237 → (191:Int) ≤ 159) ∧ (191:Int) ≤ 191 := by simp at h4 h5; omega
        refine x.pure rfl (by exact hin 1 (by omega)) rfl (hm 1 128 191 (by omega)) ⟨rfl, rfl, rfl, rfl, trivial⟩ ?_
        refine x.pureG rfl (fun hg => hin 2 ⟨by omega, mlt1 hg⟩) rfl (fun _ => hm 2 128 191 (by omega)) rfl ⟨rfl, rfl, rfl, rfl, trivial⟩ ?_
        refine x.cond rfl trivial (fun h6 => ?_) (fun h6 => ?_)
        · refine x.quiet rfl trivial drawsMixed (by kernel_rfl) ?_
          refine x.qdone rfl ?_ ?_
          · exact ob3 hi hs h6
          refine x.exit rfl trivial ?_
          refine ⟨.inr rfl, ?_, trivial, rfl⟩
          rw [form3 hi 128 191 (Bool.and_eq_true_iff.1 h3) (by first | exact hy | (simp at * <;> omega)) (by first | exact hz | (simp at * <;> omega)) h6]
          exact ⟨rfl, rfl, trivial⟩
        · refine x.cond rfl trivial (fun h7 => absurd h7 (no34 h3)) (fun h7 => ?_)
          refine x.exit rfl trivial ?_
          refine ⟨.inr rfl, ?_, trivial, rfl⟩
          rw [formBad hi h1 h2 (fun _ => ⟨128, 191, by simp at * <;> omega, by simp at * <;> omega, h6⟩) (fun h8 => absurd h8 (no34' h3))]
          exact ⟨rfl, rfl, trivial⟩
  refine x.cond rfl trivial (fun h7 => ?_) (fun h7 => ?_)
  · refine x.cond rfl trivial (fun h4 => ?_) (fun h4 => ?_)
    · refine x.cond rfl trivial (fun h5 => ?_) (fun h5 => ?_)
      · simp at h4 h5; omega
      · refine x.pure rfl (by exact hin 1 (by omega)) rfl (hm 1 144 191 (by omega)) ⟨rfl, rfl, rfl, rfl, trivial⟩ ?_
        refine x.pureG rfl (fun hg => hin 2 ⟨by omega, mlt1 hg⟩) rfl (fun _ => hm 2 128 191 (by omega)) rfl ⟨rfl, rfl, rfl, rfl, trivial⟩ ?_
        refine x.pureG rfl (fun hg => hin 3 ⟨by omega, mlt2 hg⟩) rfl (fun _ => hm 3 128 191 (by omega)) rfl ⟨rfl, rfl, rfl, rfl, trivial⟩ ?_
        refine x.cond rfl trivial (fun h6 => ?_) (fun h6 => ?_)
        · refine x.quiet rfl trivial drawsMixed (by kernel_rfl) ?_
          refine x.qdone rfl ?_ ?_
          · exact ob4 hi hs h6
          refine x.exit rfl trivial ?_
          refine ⟨.inr rfl, ?_, trivial, rfl⟩
          rw [form4 hi 144 191 (Bool.and_eq_true_iff.1 h7) (by simp at * <;> omega) (by simp at * <;> omega) h6]
          exact ⟨rfl, rfl, trivial⟩
        · refine x.exit rfl trivial ?_
          refine ⟨.inr rfl, ?_, trivial, rfl⟩
          rw [formBad hi h1 h2 (fun h8 => absurd h8 (no34f h3)) (fun _ => ⟨144, 191, by simp at * <;> omega, by simp at * <;> omega, h6⟩)]
          exact ⟨rfl, rfl, trivial⟩
    · refine x.cond rfl trivial (fun h5 => ?_) (fun h5 => ?_)
      · refine x.pure rfl (by exact hin 1 (by omega)) rfl (hm 1 128 143 (by omega)) ⟨rfl, rfl, rfl, rfl, trivial⟩ ?_
        refine x.pureG rfl (fun hg => hin 2 ⟨by omega, mlt1 hg⟩) rfl (fun _ => hm 2 128 191 (by omega)) rfl ⟨rfl, rfl, rfl, rfl, trivial⟩ ?_
        refine x.pureG rfl (fun hg => hin 3 ⟨by omega, mlt2 hg⟩) rfl (fun _ => hm 3 128 191 (by omega)) rfl ⟨rfl, rfl, rfl, rfl, trivial⟩ ?_
        refine x.cond rfl trivial (fun h6 => ?_) (fun h6 => ?_)
        · refine x.quiet rfl trivial drawsMixed (by kernel_rfl) ?_
          refine x.qdone rfl ?_ ?_
          · exact ob4 hi hs h6
          refine x.exit rfl trivial ?_
          refine ⟨.inr rfl, ?_, trivial, rfl⟩
          rw [form4 hi 128 143 (Bool.and_eq_true_iff.1 h7) (by simp at * <;> omega) (by simp at * <;> omega) h6]
          exact ⟨rfl, rfl, trivial⟩
        · refine x.exit rfl trivial ?_
          refine ⟨.inr rfl, ?_, trivial, rfl⟩
          rw [formBad hi h1 h2 (fun h8 => absurd h8 (no34f h3)) (fun _ => ⟨128, 143, by simp at * <;> omega, by simp at * <;> omega, h6⟩)]
          exact ⟨rfl, rfl, trivial⟩
      · refine x.pure rfl (by exact hin 1 (by omega)) rfl (hm 1 128 191 (by omega)) ⟨rfl, rfl, rfl, rfl, trivial⟩ ?_
        refine x.pureG rfl (fun hg => hin 2 ⟨by omega, mlt1 hg⟩) rfl (fun _ => hm 2 128 191 (by omega)) rfl ⟨rfl, rfl, rfl, rfl, trivial⟩ ?_
        refine x.pureG rfl (fun hg => hin 3 ⟨by omega, mlt2 hg⟩) rfl (fun _ => hm 3 128 191 (by omega)) rfl ⟨rfl, rfl, rfl, rfl, trivial⟩ ?_
        refine x.cond rfl trivial (fun h6 => ?_) (fun h6 => ?_)
        · refine x.quiet rfl trivial drawsMixed (by kernel_rfl) ?_
          refine x.qdone rfl ?_ ?_
          · exact ob4 hi hs h6
          refine x.exit rfl trivial ?_
          refine ⟨.inr rfl, ?_, trivial, rfl⟩
          rw [form4 hi 128 191 (Bool.and_eq_true_iff.1 h7) (by simp at * <;> omega) (by simp at * <;> omega) h6]
          exact ⟨rfl, rfl, trivial⟩
        · refine x.exit rfl trivial ?_
          refine ⟨.inr rfl, ?_, trivial, rfl⟩
          rw [formBad hi h1 h2 (fun h8 => absurd h8 (no34f h3)) (fun _ => ⟨128, 191, by simp at * <;> omega, by simp at * <;> omega, h6⟩)]
          exact ⟨rfl, rfl, trivial⟩
  · refine x.exit rfl trivial ?_
    refine ⟨.inr rfl, ?_, trivial, rfl⟩
    rw [formBad hi h1 h2 (fun h8 => absurd h8 (no34f h3)) (fun h8 => absurd h8 (no34g h7))]
    exact ⟨rfl, rfl, trivial⟩
end Go.Proofs.YtgnnglfbpcjadaaGreatDoor

/- The reference's step to the next rune; places in a text. -/
namespace Go.Proofs.YtgnnglfbpcjadaaGreatDoor
open Go.Sx
set_option linter.unusedVariables false
set_option linter.unusedSimpArgs false
set_option maxRecDepth 100000

/-- Behind the rune at i. -/
def nextV (s : ByteArray) (i : Int) : Int := if (formV s i).2 = 0 then i + 1 else i + (formV s i).2

theorem formV_len (s : ByteArray) (i : Int) : 0 ≤ (formV s i).2 ∧ (formV s i).2 ≤ 4 := by
  by_cases h : 0 ≤ i ∧ i < s.size
  · rw [formV_in h, dec_form _ _ _ _ _ _ (bt_lt _ _) (bt_lt _ _) (bt_lt _ _) (bt_lt _ _)]
    repeat' split
    all_goals simp
  · rw [formV_out h]; simp

theorem formV_room (s : ByteArray) (i : Int) (h : 0 ≤ i ∧ i < s.size) : i + (formV s i).2 ≤ s.size := by
  rw [formV_in h, dec_form _ _ _ _ _ _ (bt_lt _ _) (bt_lt _ _) (bt_lt _ _) (bt_lt _ _)]
  repeat' split
  all_goals (simp; omega)
theorem nextV_room (s : ByteArray) (i : Int) (h : 0 ≤ i ∧ i < s.size) : nextV s i ≤ s.size := by
  have := formV_room s i h
  unfold nextV
  split <;> omega

theorem next_spec (s : ByteArray) (i : Int) (hs : s.size ≤ 9223372036854775807) (hi : 0 ≤ i ∧ i < s.size) : Pure PG 115 [vs s, vi i] (vi (nextV s i)) [] := by
  refine Proc.mk (cfg 20) tysOK [] Tryz.func115 rfl (by kernel_rfl) rfl rfl rfl ?_
  intro C x
  have hl := formV_len s i
  have hr := formV_room s i hi
  refine x.pure rfl trivial rfl (form_spec s i hs) ⟨rfl, rfl, trivial⟩ ?_
  refine x.cond rfl trivial (fun h0 => ?_) (fun h0 => ?_)
  · refine x.exit rfl (show inI64 (i + 1) by unfold inI64; omega) ?_
    refine ⟨.inr rfl, ?_, trivial, rfl⟩
    rw [nextV, if_pos (by simpa using h0)]
    exact rfl
  · refine x.exit rfl (show inI64 (i + (formV s i).2) by unfold inI64; omega) ?_
    refine ⟨.inr rfl, ?_, trivial, rfl⟩
    rw [nextV, if_neg (by simpa using h0)]
    exact rfl
end Go.Proofs.YtgnnglfbpcjadaaGreatDoor

/- Plain facts on runes. -/
namespace Go.Proofs.YtgnnglfbpcjadaaGreatDoor
open Go.Sx
set_option linter.unusedVariables false
set_option linter.unusedSimpArgs false
set_option maxRecDepth 100000

theorem decode_pos (s : ByteArray) (p : Nat) : 1 ≤ (Utf8.decode s p).2 ∧ (Utf8.decode s p).2 ≤ 4 ∧ (Utf8.decode s p).1 < 4294967296 := by
  rw [decode_eq]
  have h0 := bt_lt s p
  unfold dec
  repeat' split
  all_goals simp
  all_goals omega

theorem veq_int {k : IntKind} {a b : Int} (h : a = b) : VEq (.d (.int k a)) (.d (.int k b)) := by subst h; cases k <;> exact rfl
theorem nextV_gt (s : ByteArray) (i : Int) : i + 1 ≤ nextV s i ∧ nextV s i ≤ i + 4 := by
  have := formV_len s i
  unfold nextV
  split <;> omega

end Go.Proofs.YtgnnglfbpcjadaaGreatDoor

/- How many runes a text has, and where a bad one stands: the reference's. -/
namespace Go.Proofs.YtgnnglfbpcjadaaGreatDoor
open Go.Sx
set_option linter.unusedVariables false
set_option linter.unusedSimpArgs false
set_option maxRecDepth 100000

def runesV (s : ByteArray) : Nat → Int → Int → Int
  | 0, _, c => c
  | n + 1, i, c => if i < s.size then runesV s n (nextV s i) (c + 1) else c
theorem runesV_end {s : ByteArray} {n : Nat} {i c : Int} (h : ¬ i < s.size) : runesV s n i c = c := by
  cases n with
  | zero => rfl
  | succ n => rw [runesV, if_neg h]
def badV (s : ByteArray) : Nat → Int → Int
  | 0, _ => -1
  | n + 1, i => if i < s.size then if (formV s i).2 = 0 then i else badV s n (i + (formV s i).2) else -1
theorem badV_end {s : ByteArray} {n : Nat} {i : Int} (h : ¬ i < s.size) : badV s n i = -1 := by
  cases n with
  | zero => rfl
  | succ n => rw [badV, if_neg h]

structure RI (s : ByteArray) where
  n : Nat
  i : Int
  c : Int
  fuel : (s.size : Int) ≤ i + n
  same : runesV s n i c = runesV s s.size 0 0
  hc : 0 ≤ c ∧ c ≤ i
  hi : 0 ≤ i ∧ i ≤ s.size

theorem runes_spec (s : ByteArray) (hs : s.size ≤ 9223372036854775807) : Pure PG 114 [vs s] (vi (runesV s s.size 0 0)) [] := by
  refine Proc.mk (cfg 15) tysOK [] Tryz.func114 rfl (by kernel_rfl) rfl rfl rfl ?_
  intro C x
  refine x.loop (α := RI s) (fun y => ⟨[(0, vs s), (3, vi y.c), (4, vi y.i)], [], 0⟩) (fun y => (s.size + 4 - y.i).toNat) ⟨s.size, 0, 0, by omega, rfl, by omega, by omega⟩ rfl trivial ?_ (fun y => ?_)
  · exact ⟨⟨rfl, rfl, rfl, trivial⟩, trivial, rfl⟩
  obtain ⟨n, i, c, fuel, same, hc, hi⟩ := y
  change Go C _ ⟨[(0, vs s), (3, vi c), (4, vi i)], [], 0⟩ _
  refine x.cond rfl trivial (fun h => ?_) (fun h => ?_)
  · have h' : i < s.size := by simpa using h
    have hn := nextV_gt s i
    have hr := nextV_room s i (by omega)
    refine x.pure rfl (show inI64 (c + 1) by unfold inI64; omega) rfl (next_spec s i hs (by omega)) ⟨rfl, rfl, trivial⟩ ?_
    refine x.back rfl trivial ?_
    cases n with
    | zero => omega
    | succ n =>
      rw [runesV, if_pos h'] at same
      refine ⟨⟨n, nextV s i, c + 1, by omega, same, by omega, by omega⟩, by show ((s.size : Int) + 4 - nextV s i).toNat < ((s.size : Int) + 4 - i).toNat; omega, ?_⟩
      exact ⟨⟨rfl, rfl, rfl, trivial⟩, trivial, rfl⟩
  · have h' : ¬ i < s.size := by simpa using h
    refine x.exit rfl trivial ?_
    refine ⟨.inr rfl, ?_, trivial, rfl⟩
    rw [← same, runesV_end h']
    exact rfl

structure BI (s : ByteArray) where
  n : Nat
  i : Int
  fuel : (s.size : Int) ≤ i + n
  same : badV s n i = badV s s.size 0
  hi : 0 ≤ i ∧ i ≤ s.size

theorem bad_spec (s : ByteArray) (hs : s.size ≤ 9223372036854775807) : Pure PG 113 [vs s] (vi (badV s s.size 0)) [] := by
  refine Proc.mk (cfg 22) tysOK [] Tryz.func113 rfl (by kernel_rfl) rfl rfl rfl ?_
  intro C x
  refine x.loop (α := BI s) (fun y => ⟨[(0, vs s), (3, vi y.i)], [], 0⟩) (fun y => (s.size + 4 - y.i).toNat) ⟨s.size, 0, by omega, rfl, by omega⟩ rfl trivial ?_ (fun y => ?_)
  · exact ⟨⟨rfl, rfl, trivial⟩, trivial, rfl⟩
  obtain ⟨n, i, fuel, same, hi⟩ := y
  change Go C _ ⟨[(0, vs s), (3, vi i)], [], 0⟩ _
  refine x.cond rfl trivial (fun h => ?_) (fun h => ?_)
  · have h' : i < s.size := by simpa using h
    have hl := formV_len s i
    have hr := formV_room s i (by omega)
    refine x.pure rfl trivial rfl (form_spec s i hs) ⟨rfl, rfl, trivial⟩ ?_
    cases n with
    | zero => omega
    | succ n =>
      rw [badV, if_pos h'] at same
      refine x.cond rfl trivial (fun h1 => ?_) (fun h1 => ?_)
      · have h1' : (formV s i).2 = 0 := by simpa using h1
        rw [if_pos h1'] at same
        refine x.exit rfl trivial ?_
        refine ⟨.inr rfl, ?_, trivial, rfl⟩
        rw [← same]
        exact rfl
      · have h1' : ¬ (formV s i).2 = 0 := by simpa using h1
        rw [if_neg h1'] at same
        refine x.back rfl (show inI64 (i + (formV s i).2) by unfold inI64; omega) ?_
        refine ⟨⟨n, i + (formV s i).2, by omega, same, by omega⟩, by show ((s.size : Int) + 4 - (i + (formV s i).2)).toNat < ((s.size : Int) + 4 - i).toNat; omega, ?_⟩
        exact ⟨⟨rfl, rfl, trivial⟩, trivial, rfl⟩
  · have h' : ¬ i < s.size := by simpa using h
    refine x.exit rfl trivial ?_
    refine ⟨.inr rfl, ?_, trivial, rfl⟩
    rw [← same, badV_end h']
    exact rfl
end Go.Proofs.YtgnnglfbpcjadaaGreatDoor

/- A rune's form where it stands. -/
namespace Go.Proofs.YtgnnglfbpcjadaaGreatDoor
open Go.Sx
set_option linter.unusedVariables false
set_option linter.unusedSimpArgs false
set_option maxRecDepth 100000

theorem dec_bad (sz p a b c d : Nat) (h1 : (dec sz p a b c d).2 = 1) (h2 : 128 ≤ a) : (dec sz p a b c d).1 = 65533 := by
  unfold dec at *
  split
  · omega
  split
  · rw [if_neg (by omega)] at h1
    split
    · rename_i h3 h4 h5; rw [if_pos h4, if_pos h5] at h1; simp at h1
    · rfl
  split
  · rename_i h3 h4 h5
    rw [if_neg h3, if_neg h4, if_pos h5] at h1
    split
    · rename_i h6; rw [if_pos h6] at h1; simp at h1
    · rfl
  split
  · rename_i h3 h4 h5 h6
    rw [if_neg h3, if_neg h4, if_neg h5, if_pos h6] at h1
    split
    · rename_i h7; rw [if_pos h7] at h1; simp at h1
    · rfl
  · rfl

theorem formV_at {s : ByteArray} {p : Nat} (h : p < s.size) : formV s (p : Int) = if (Utf8.decode s p).2 = 1 ∧ 128 ≤ bt s p then (0, 0) else (((Utf8.decode s p).1 : Int), ((Utf8.decode s p).2 : Int)) := by
  unfold formV
  rw [if_pos (by omega), Int.toNat_natCast]
theorem nextV_at {s : ByteArray} {p : Nat} (h : p < s.size) : nextV s (p : Int) = ((p + (Utf8.decode s p).2 : Nat) : Int) := by
  have hd := decode_pos s p
  unfold nextV
  rw [formV_at h]
  by_cases h1 : (Utf8.decode s p).2 = 1 ∧ 128 ≤ bt s p
  · rw [if_pos h1, if_pos rfl, h1.1]; rfl
  · rw [if_neg h1, if_neg (by show ¬ ((Utf8.decode s p).2 : Int) = 0; omega)]; rfl
end Go.Proofs.YtgnnglfbpcjadaaGreatDoor

/- Where bytes are no text, and how many runes they have: the program's own. -/
namespace Go.Proofs.YtgnnglfbpcjadaaGreatDoor
open Go.Sx
set_option linter.unusedVariables false
set_option linter.unusedSimpArgs false
set_option maxRecDepth 100000

theorem tabs_of_env {F : Nat → Prop} {w : World} (h : EnvOK PG.env F w) : Lib.Utf8Tabs 1 2 w := by
  refine ⟨fun c hc => (h _ _ _ (.head _)).2.1 c hc, fun i hi => ⟨?_, ?_⟩⟩
  · have := (h _ _ _ (.tail _ (.head _))).2.1 (2 * i) (by omega)
    rw [this, if_pos (by omega), show 2 * i / 2 = i by omega]
  · have := (h _ _ _ (.tail _ (.head _))).2.1 (2 * i + 1) (by omega)
    rw [this, if_neg (by omega), show (2 * i + 1) / 2 = i by omega]

theorem mem_env_cons {A B : Nat × Nat × (Nat → Value)} {l : List (Nat × Nat × (Nat → Value))} {Q : Nat → Nat → (Nat → Value) → Prop} (h : Q B.1 B.2.1 B.2.2) (k : A ∈ l → Q A.1 A.2.1 A.2.2) : A ∈ B :: l → Q A.1 A.2.1 A.2.2 := fun hm => by
  rcases List.mem_cons.1 hm with rfl | hm
  · exact h
  · exact k hm
theorem env_of_tabs {W : World} (h : Lib.Utf8Tabs 1 2 W)
    (hT : ∀ j, j < 64 → W.cell? ⟨3, j, none⟩ = some (.int .u8 (tzTab.getD j 0)))
    (hL : ∃ m, W.cell? ⟨0, 0, none⟩ = some (.int .i64 m))
    : EnvOK PG.env (fun k => k < W.heap.size) W := by
  have lt : ∀ {b j : Nat} {v : Value}, W.cell? ⟨b, j, none⟩ = some v → b < W.heap.size := fun {b j v} hc => by
    refine Classical.byContradiction fun hn => ?_
    have : W.heap[b]? = none := Array.getElem?_eq_none (by omega)
    simp [World.cell?, this] at hc
  intro g n f hm
  rcases List.mem_cons.1 hm with e | hm
  · simp only [Prod.mk.injEq] at e
    obtain ⟨rfl, rfl, rfl⟩ := e
    exact ⟨lt (h.1 0 (by omega)), fun j hj => h.1 j hj, fun h0 => by cases h0⟩
  · rcases List.mem_cons.1 hm with e | hm
    · simp only [Prod.mk.injEq] at e
      obtain ⟨rfl, rfl, rfl⟩ := e
      refine ⟨lt (h.2 0 (by omega)).1, fun j hj => ?_, fun h0 => by cases h0⟩
      obtain ⟨h1, h2⟩ := h.2 (j / 2) (by omega)
      by_cases hj2 : j % 2 = 0
      · have e : 2 * (j / 2) = j := by omega
        dsimp only
        rw [if_pos hj2, ← h1, e]
      · have e : 2 * (j / 2) + 1 = j := by omega
        dsimp only
        rw [if_neg hj2, ← h2, e]
    · revert hm
      refine mem_env_cons (A := (g, n, f)) (Q := fun g n f => (g < W.heap.size) ∧ (∀ j, j < n → W.cell? ⟨g, j, none⟩ = some (f j)) ∧ (n = 0 → ∃ m, W.cell? ⟨g, 0, none⟩ = some (.int .i64 m))) ?_ ?_
      · exact ⟨lt (hT 0 (by omega)), fun j hj => hT j hj, fun h0 => by cases h0⟩
      refine mem_env_cons (A := (g, n, f)) (Q := fun g n f => (g < W.heap.size) ∧ (∀ j, j < n → W.cell? ⟨g, j, none⟩ = some (f j)) ∧ (n = 0 → ∃ m, W.cell? ⟨g, 0, none⟩ = some (.int .i64 m))) ?_ ?_
      · exact ⟨lt hL.choose_spec, fun j hj => absurd hj (Nat.not_lt_zero _), fun _ => hL⟩
      intro hm; cases hm

theorem decodeRune_spec (s : ByteArray) : Pure PG 69 [vs s] (.tup [.d (.int .i32 ((Lib.decodeGo s).1 : Int)), vi ((Lib.decodeGo s).2 : Int)]) [] :=
  Pure.ofLib (vals := [.string s]) (callable_of Tryz.func69 (by kernel_rfl) (by kernel_rfl)) rfl rfl rfl rfl fun w F hE => Tryz.utf8_DecodeRuneInString s w (tabs_of_env hE)

theorem extract_data (s : ByteArray) (p : Nat) : (s.extract p s.size).data.toList = s.data.toList.drop p := by
  rw [ByteArray.data_extract, Array.toList_extract]
  show (s.data.toList.drop p).take (s.size - p) = _
  rw [List.take_of_length_le]
  rw [List.length_drop, show s.data.toList.length = s.size from Array.length_toList]
  omega
theorem extract_size (s : ByteArray) (p : Nat) : (s.extract p s.size).size = s.size - p := by
  rw [show (s.extract p s.size).size = (s.extract p s.size).data.toList.length from (Array.length_toList).symm, extract_data, List.length_drop, Array.length_toList]
  rfl
theorem bt_getD (s : ByteArray) (i : Nat) : bt s i = (s.data.toList.getD i 0).toNat := by
  have := sb_bt s i
  unfold sb at this
  omega
theorem bt_extract (s : ByteArray) (p k : Nat) : bt (s.extract p s.size) k = bt s (p + k) := by
  rw [bt_getD, bt_getD, extract_data, List.getD_eq_getElem?_getD, List.getD_eq_getElem?_getD, List.getElem?_drop]
theorem dec_back (sz p a b c d : Nat) (h : p ≤ sz) : dec (sz - p) 0 a b c d = dec sz p a b c d := by
  unfold dec
  have h1 : (0 + 1 < sz - p) ↔ (p + 1 < sz) := by omega
  have h2 : (0 + 2 < sz - p) ↔ (p + 2 < sz) := by omega
  have h3 : (0 + 3 < sz - p) ↔ (p + 3 < sz) := by omega
  simp only [h1, h2, h3]
theorem decodeGo_at {s : ByteArray} {p : Nat} (h : p < s.size) : Lib.decodeGo (s.extract p s.size) = Utf8.decode s p := by
  unfold Lib.decodeGo
  rw [if_neg (by rw [extract_size]; omega), decode_eq, decode_eq, extract_size, dec_back _ _ _ _ _ _ (by omega)]
  simp only [bt_extract, Nat.zero_add, Nat.add_zero]

theorem form_zero {s : ByteArray} {p : Nat} (h : p < s.size) : (formV s (p : Int)).2 = 0 ↔ (Utf8.decode s p).1 = 65533 ∧ (Utf8.decode s p).2 = 1 := by
  obtain ⟨d1, d2, d3⟩ := decode_pos s p
  rw [formV_at h]
  constructor
  · intro hz
    split at hz
    · rename_i hb
      refine ⟨?_, hb.1⟩
      rw [decode_eq] at hb ⊢
      exact dec_bad _ _ _ _ _ _ hb.1 hb.2
    · have : ((Utf8.decode s p).2 : Int) = 0 := hz
      omega
  · rintro ⟨h1, h2⟩
    have h128 : 128 ≤ bt s p := Classical.byContradiction fun hlt => by
      rw [decode_eq, dec, if_pos (by omega)] at h1
      have h1' : bt s p = 65533 := h1
      omega
    rw [if_pos ⟨h2, h128⟩]

structure BW (s : ByteArray) where
  n : Nat
  p : Nat
  fuel : s.size ≤ p + n
  same : badV s n p = badV s s.size 0
  hp : p ≤ s.size + 4

theorem badW_spec (s : ByteArray) (hs : s.size ≤ 9223372036854775807) : Pure PG 50 [vs s] (vi (badV s s.size 0)) [] := by
  refine Proc.mk (cfg 25) tysOK [] Tryz.func50 rfl (by kernel_rfl) rfl rfl rfl ?_
  intro C x
  refine x.loop (α := BW s) (fun y => ⟨[(0, vs s), (8, .ptr 0 0)], [(0, .iter s y.p)], 1⟩) (fun y => s.size + 4 - y.p) ⟨s.size, 0, by omega, rfl, by omega⟩ rfl trivial ?_ (fun y => ?_)
  · exact ⟨⟨rfl, ⟨rfl, rfl⟩, trivial⟩, ⟨⟨rfl, rfl⟩, trivial⟩, rfl⟩
  obtain ⟨n, p, fuel, same, hp⟩ := y
  change Go C _ ⟨[(0, vs s), (8, .ptr 0 0)], [(0, .iter s p)], 1⟩ _
  obtain ⟨d1, d2, d3⟩ := decode_pos s p
  refine x.next rfl trivial rfl rfl rfl (fun h => ?_) (fun h => ?_)
  · have h : p < s.size := h
    refine x.cond rfl trivial (fun _ => ?_) (fun h1 => by cases h1)
    cases n with
    | zero => omega
    | succ n =>
      have hz := form_zero h
      rw [badV, if_pos (by omega)] at same
      have hgo : ¬ (formV s (p : Int)).2 = 0 → (p : Int) + (formV s (p : Int)).2 = ((p + (Utf8.decode s p).2 : Nat) : Int) := fun hne => by
        rw [formV_at h] at hne ⊢
        split
        · rename_i hb; rw [if_pos hb] at hne; exact absurd rfl hne
        · rfl
      have next : ¬ (formV s (p : Int)).2 = 0 → ∃ y : BW s, y.p = p + (Utf8.decode s p).2 := fun hne => by
        rw [if_neg hne, hgo hne] at same
        exact ⟨⟨n, p + (Utf8.decode s p).2, by omega, same, by omega⟩, rfl⟩
      refine x.cond rfl trivial (fun h2 => ?_) (fun h2 => ?_)
      · have h2' : (Utf8.decode s p).1 = 65533 := by
          simp only [decide_eq_true_eq] at h2
          omega
        refine x.pure rfl ?_ rfl (decodeRune_spec (s.extract p s.size)) ⟨?_, trivial⟩ ?_
        · simp only [AllP]; omega
        · show s.extract (p : Int).toNat (s.size : Int).toNat = s.extract p s.size
          rw [Int.toNat_natCast, Int.toNat_natCast]
        rw [decodeGo_at h]
        refine x.cond rfl trivial (fun h3 => ?_) (fun h3 => ?_)
        · have h3' : (Utf8.decode s p).2 = 1 := by
            simp only [decide_eq_true_eq] at h3
            omega
          rw [if_pos (hz.2 ⟨h2', h3'⟩)] at same
          refine x.exit rfl trivial ?_
          refine ⟨.inr rfl, ?_, trivial, rfl⟩
          rw [← same]
          exact rfl
        · have h3' : ¬ (Utf8.decode s p).2 = 1 := by
            simp only [decide_eq_false_iff_not] at h3
            omega
          obtain ⟨y, hy⟩ := next (fun e => h3' (hz.1 e).2)
          refine x.back rfl trivial ⟨y, by show s.size + 4 - y.p < s.size + 4 - p; rw [hy]; omega, ⟨rfl, ⟨rfl, rfl⟩, trivial⟩, ⟨⟨rfl, hy.symm⟩, trivial⟩, rfl⟩
      · have h2' : ¬ (Utf8.decode s p).1 = 65533 := by
          simp only [decide_eq_false_iff_not] at h2
          omega
        obtain ⟨y, hy⟩ := next (fun e => h2' (hz.1 e).1)
        refine x.back rfl trivial ⟨y, by show s.size + 4 - y.p < s.size + 4 - p; rw [hy]; omega, ⟨rfl, ⟨rfl, rfl⟩, trivial⟩, ⟨⟨rfl, hy.symm⟩, trivial⟩, rfl⟩
  · have h : ¬ p < s.size := h
    refine x.cond rfl trivial (fun h1 => by cases h1) (fun _ => ?_)
    refine x.exit rfl trivial ?_
    refine ⟨.inr rfl, ?_, trivial, rfl⟩
    rw [← same, badV_end (by omega)]
    exact rfl
end Go.Proofs.YtgnnglfbpcjadaaGreatDoor

/- Is it a name? The program's own answer. -/
namespace Go.Proofs.YtgnnglfbpcjadaaGreatDoor
open Go.Sx
set_option linter.unusedVariables false
set_option linter.unusedSimpArgs false
set_option maxRecDepth 100000

def letB (r : Int) : Bool := (decide (97 ≤ r) && decide (r ≤ 122) || decide (65 ≤ r) && decide (r ≤ 90) || decide (r = 95) || decide (945 ≤ r) && decide (r ≤ 969) || decide (913 ≤ r) && decide (r ≤ 937) && !decide (r = 930))
def digB (r : Int) : Bool := (decide (48 ≤ r) && decide (r ≤ 57))

def nameW (s : ByteArray) : Nat → Nat → Int → Bool
  | 0, _, c => decide (0 < c)
  | n + 1, p, c => if p < s.size then
      if (!letB (Utf8.decode s p).1 && (decide ((p : Int) = 0) || !digB (Utf8.decode s p).1)) = true then false
      else if 24 < c + 1 then false else nameW s n (p + (Utf8.decode s p).2) (c + 1)
    else decide (0 < c)
theorem nameW_end {s : ByteArray} {n p : Nat} {c : Int} (h : ¬ p < s.size) : nameW s n p c = decide (0 < c) := by
  cases n with
  | zero => rfl
  | succ n => rw [nameW, if_neg h]

structure NI (s : ByteArray) where
  n : Nat
  p : Nat
  c : Int
  fuel : s.size ≤ p + n
  same : nameW s n p c = nameW s s.size 0 0
  hc : 0 ≤ c ∧ c ≤ 24
  hp : p ≤ s.size + 4

theorem name_spec (s : ByteArray) (hs : s.size ≤ 9223372036854775807) : Pure PG 81 [vs s] (vb (nameW s s.size 0 0)) [] := by
  refine Proc.mk (cfg 30) tysOK [] Tryz.func81 rfl (by kernel_rfl) rfl rfl rfl ?_
  intro C x
  refine x.loop (α := NI s) (fun y => ⟨[(0, vs s), (3, vi y.c), (7, .ptr 0 0)], [(0, .iter s y.p)], 1⟩) (fun y => s.size + 4 - y.p) ⟨s.size, 0, 0, by omega, rfl, by omega, by omega⟩ rfl trivial ?_ (fun y => ?_)
  · exact ⟨⟨rfl, rfl, ⟨rfl, rfl⟩, trivial⟩, ⟨⟨rfl, rfl⟩, trivial⟩, rfl⟩
  obtain ⟨n, p, c, fuel, same, hc, hp⟩ := y
  change Go C _ ⟨[(0, vs s), (3, vi c), (7, .ptr 0 0)], [(0, .iter s p)], 1⟩ _
  obtain ⟨d1, d2, d3⟩ := decode_pos s p
  refine x.next rfl trivial rfl rfl rfl (fun h => ?_) (fun h => ?_)
  · refine x.cond rfl trivial (fun _ => ?_) (fun h1 => by cases h1)
    refine x.pure rfl trivial rfl (letter_spec _) ⟨rfl, trivial⟩ ?_
    refine x.pureG rfl trivial rfl (fun _ _ => digit_spec _) rfl ⟨rfl, trivial⟩ ?_
    cases n with
    | zero => omega
    | succ n =>
      rw [nameW, if_pos h] at same
      refine x.cond rfl trivial (fun h2 => ?_) (fun h2 => ?_)
      · refine x.exit rfl trivial ?_
        refine ⟨.inr rfl, ?_, trivial, rfl⟩
        rw [if_pos (show (!letB (Utf8.decode s p).1 && (decide ((p : Int) = 0) || !digB (Utf8.decode s p).1)) = true from h2)] at same
        rw [← same]
        exact rfl
      · rw [if_neg (by rw [show (!letB (Utf8.decode s p).1 && (decide ((p : Int) = 0) || !digB (Utf8.decode s p).1)) = false from h2]; simp)] at same
        refine x.cond rfl (show inI64 (c + 1) by unfold inI64; omega) (fun h3 => ?_) (fun h3 => ?_)
        · refine x.exit rfl trivial ?_
          refine ⟨.inr rfl, ?_, trivial, rfl⟩
          rw [if_pos (by simpa using h3)] at same
          rw [← same]
          exact rfl
        · rw [if_neg (by simpa using h3)] at same
          refine x.back rfl trivial ?_
          refine ⟨⟨n, p + (Utf8.decode s p).2, c + 1, by omega, same, by simp at h3; omega, by omega⟩, by show s.size + 4 - (p + (Utf8.decode s p).2) < s.size + 4 - p; omega, ?_⟩
          exact ⟨⟨rfl, rfl, ⟨rfl, rfl⟩, trivial⟩, ⟨⟨rfl, rfl⟩, trivial⟩, rfl⟩
  · refine x.cond rfl trivial (fun h1 => by cases h1) (fun _ => ?_)
    refine x.exit rfl trivial ?_
    refine ⟨.inr rfl, ?_, trivial, rfl⟩
    rw [← same, nameW_end h]
    exact rfl
end Go.Proofs.YtgnnglfbpcjadaaGreatDoor

/- Texts as lists of runes: one text behind another. -/
namespace Go.Proofs.YtgnnglfbpcjadaaGreatDoor
open Go.Sx
set_option linter.unusedVariables false
set_option linter.unusedSimpArgs false
set_option maxRecDepth 100000

/-- The runes from byte p on: where each begins, which it is, how long. -/
def dl (s : ByteArray) : Nat → Nat → List (Nat × Nat × Nat)
  | 0, _ => []
  | n + 1, p => if p < s.size then (p, (Utf8.decode s p).1, (Utf8.decode s p).2) :: dl s n (p + (Utf8.decode s p).2) else []
theorem dl_end {s : ByteArray} {n p : Nat} (h : ¬ p < s.size) : dl s n p = [] := by
  cases n with
  | zero => rfl
  | succ n => rw [dl, if_neg h]
theorem dl_fuel (s : ByteArray) : ∀ (n m p : Nat), s.size ≤ p + n → s.size ≤ p + m → dl s n p = dl s m p
  | 0, m, p, h1, h2 => by rw [dl_end (by omega), dl_end (by omega)]
  | n + 1, 0, p, h1, h2 => by rw [dl_end (by omega), dl_end (by omega)]
  | n + 1, m + 1, p, h1, h2 => by
    have := decode_pos s p
    rw [dl, dl, dl_fuel s n m _ (by omega) (by omega)]

theorem dl_runes (s : ByteArray) : ∀ (n p : Nat) (c : Int), s.size ≤ p + n → runesV s n p c = c + (dl s n p).length
  | 0, p, c, h => by simp [runesV, dl]
  | n + 1, p, c, h => by
    have := decode_pos s p
    rw [runesV, dl]
    by_cases hp : p < s.size
    · rw [if_pos (by omega), if_pos hp, nextV_at hp, dl_runes s n _ _ (by omega)]
      simp
      omega
    · rw [if_neg (by omega), if_neg hp]
      simp

def okR (x : Nat × Nat × Nat) : Bool := !(decide (x.2.1 = 65533) && decide (x.2.2 = 1))
theorem dl_bad (s : ByteArray) : ∀ (n p : Nat), s.size ≤ p + n → (badV s n p < 0 ↔ badV s n p = -1) ∧ (badV s n p = -1 ↔ (dl s n p).all okR = true)
  | 0, p, h => by simp [badV, dl]
  | n + 1, p, h => by
    have := decode_pos s p
    rw [badV, dl]
    by_cases hp : p < s.size
    · have hz := form_zero hp
      rw [if_pos (by omega), if_pos hp]
      by_cases h0 : (formV s (p : Int)).2 = 0
      · rw [if_pos h0]
        have := hz.1 h0
        simp only [List.all_cons, okR, this]
        simp
      · rw [if_neg h0]
        have hgo : (p : Int) + (formV s (p : Int)).2 = ((p + (Utf8.decode s p).2 : Nat) : Int) := by
          rw [formV_at hp] at h0 ⊢
          split
          · rename_i hb; rw [if_pos hb] at h0; exact absurd rfl h0
          · rfl
        have ih := dl_bad s n (p + (Utf8.decode s p).2) (by omega)
        rw [hgo]
        refine ⟨ih.1, ?_⟩
        rw [ih.2, List.all_cons, show okR (p, (Utf8.decode s p).1, (Utf8.decode s p).2) = true from ?_, Bool.true_and]
        simp only [okR, Bool.not_eq_true', Bool.and_eq_false_iff, decide_eq_false_iff_not]
        by_cases e : (Utf8.decode s p).1 = 65533
        · exact .inr fun e2 => h0 (hz.2 ⟨e, e2⟩)
        · exact .inl e
    · rw [if_neg (by omega), if_neg hp]
      simp

theorem dec_more {sz sz' p a b c d b' c' d' : Nat} (h : ¬ ((dec sz p a b c d).1 = 65533 ∧ (dec sz p a b c d).2 = 1)) (hb : p + 1 < sz → b' = b) (hc : p + 2 < sz → c' = c) (hd : p + 3 < sz → d' = d) (hs : sz ≤ sz') : dec sz' p a b' c' d' = dec sz p a b c d := by
  unfold dec at *
  by_cases h1 : a < 128
  · rw [if_pos h1, if_pos h1]
  rw [if_neg h1] at h ⊢
  rw [if_neg h1]
  by_cases h2 : a / 32 = 6 ∧ p + 1 < sz ∧ b / 64 = 2
  · obtain rfl := hb h2.2.1
    rw [if_pos h2, if_pos (by omega)]
  rw [if_neg h2] at h ⊢
  by_cases h3 : a / 16 = 14 ∧ p + 1 < sz ∧ b / 64 = 2 ∧ p + 2 < sz ∧ c / 64 = 2
  · obtain rfl := hb h3.2.1
    obtain rfl := hc h3.2.2.2.1
    rw [if_pos h3, if_neg (by omega), if_pos (by omega)]
  rw [if_neg h3] at h ⊢
  by_cases h4 : a / 8 = 30 ∧ p + 1 < sz ∧ b / 64 = 2 ∧ p + 2 < sz ∧ c / 64 = 2 ∧ p + 3 < sz ∧ d / 64 = 2
  · obtain rfl := hb h4.2.1
    obtain rfl := hc h4.2.2.2.1
    obtain rfl := hd h4.2.2.2.2.2.1
    rw [if_pos h4, if_neg (by omega), if_neg (by omega), if_pos (by omega)]
  rw [if_neg h4] at h
  exact absurd ⟨rfl, rfl⟩ h
theorem dec_room (sz p a b c d : Nat) (h : p < sz) : p + (dec sz p a b c d).2 ≤ sz := by
  unfold dec
  repeat' split
  all_goals (simp only; omega)

theorem size_list (s : ByteArray) : s.size = s.data.toList.length := (Array.length_toList).symm
theorem app_data (a b : ByteArray) : (a ++ b).data.toList = a.data.toList ++ b.data.toList := by rw [ByteArray.data_append, Array.toList_append]
theorem app_size (a b : ByteArray) : (a ++ b).size = a.size + b.size := by rw [size_list, app_data, List.length_append, ← size_list, ← size_list]
theorem bt_left {a b : ByteArray} {i : Nat} (h : i < a.size) : bt (a ++ b) i = bt a i := by
  rw [size_list] at h
  rw [bt_getD, bt_getD, app_data, List.getD_eq_getElem?_getD, List.getD_eq_getElem?_getD, List.getElem?_append_left h]
theorem bt_right (a b : ByteArray) (i : Nat) : bt (a ++ b) (a.size + i) = bt b i := by
  rw [bt_getD, bt_getD, app_data, List.getD_eq_getElem?_getD, List.getD_eq_getElem?_getD, size_list a, List.getElem?_append_right (by omega)]
  congr 3
  omega
theorem dec_shift (sz p k a b c d : Nat) : dec (k + sz) (k + p) a b c d = dec sz p a b c d := by
  unfold dec
  have h1 : (k + p + 1 < k + sz) ↔ (p + 1 < sz) := by omega
  have h2 : (k + p + 2 < k + sz) ↔ (p + 2 < sz) := by omega
  have h3 : (k + p + 3 < k + sz) ↔ (p + 3 < sz) := by omega
  simp only [h1, h2, h3]
theorem decode_right (a b : ByteArray) (p : Nat) : Utf8.decode (a ++ b) (a.size + p) = Utf8.decode b p := by
  have b1 := bt_right a b (p + 1)
  have b2 := bt_right a b (p + 2)
  have b3 := bt_right a b (p + 3)
  rw [← Nat.add_assoc] at b1 b2 b3
  rw [decode_eq, decode_eq, app_size, b1, b2, b3, bt_right, dec_shift]
theorem decode_left {a : ByteArray} (b : ByteArray) {p : Nat} (hp : p < a.size) (h : ¬ ((Utf8.decode a p).1 = 65533 ∧ (Utf8.decode a p).2 = 1)) : Utf8.decode (a ++ b) p = Utf8.decode a p := by
  rw [decode_eq] at h
  rw [decode_eq, decode_eq, app_size, bt_left hp]
  exact dec_more h (fun hh => bt_left hh) (fun hh => bt_left hh) (fun hh => bt_left hh) (Nat.le_add_right _ _)
theorem decode_room {s : ByteArray} {p : Nat} (h : p < s.size) : p + (Utf8.decode s p).2 ≤ s.size := by
  rw [decode_eq]
  exact dec_room _ _ _ _ _ _ h

def shR (k : Nat) (x : Nat × Nat × Nat) : Nat × Nat × Nat := (k + x.1, x.2.1, x.2.2)
theorem dl_right (a b : ByteArray) : ∀ (n p : Nat), dl (a ++ b) n (a.size + p) = (dl b n p).map (shR a.size)
  | 0, p => rfl
  | n + 1, p => by
    rw [dl, dl, decode_right, app_size]
    by_cases h : p < b.size
    · rw [if_pos (by omega), if_pos h, List.map_cons, Nat.add_assoc, dl_right a b n]
      rfl
    · rw [if_neg (by omega), if_neg h]
      rfl
theorem dl_app (a b : ByteArray) : ∀ (n p : Nat), p ≤ a.size → a.size ≤ p + n → (dl a n p).all okR = true → dl (a ++ b) (n + b.size) p = dl a n p ++ (dl b b.size 0).map (shR a.size)
  | 0, p, h1, h2, h3 => by
    obtain rfl : p = a.size := by omega
    have := dl_right a b b.size 0
    rw [Nat.add_zero] at this
    rw [Nat.zero_add, this]
    rfl
  | n + 1, p, h1, h2, h3 => by
    by_cases hp : p < a.size
    · rw [dl, if_pos hp] at h3
      rw [show dl a (n + 1) p = (p, (Utf8.decode a p).1, (Utf8.decode a p).2) :: dl a n (p + (Utf8.decode a p).2) by rw [dl, if_pos hp]]
      simp only [List.all_cons, Bool.and_eq_true] at h3
      have hd := decode_left (a := a) b hp (by
        have := h3.1
        simp only [okR, Bool.not_eq_true', Bool.and_eq_false_iff, decide_eq_false_iff_not] at this
        rintro ⟨e1, e2⟩
        rcases this with h | h
        · exact h e1
        · exact h e2)
      have hr := decode_room hp
      have := decode_pos a p
      rw [show n + 1 + b.size = (n + b.size) + 1 by omega, dl, if_pos (by rw [app_size]; omega), hd, dl_app a b n _ hr (by omega) h3.2]
      rfl
    · obtain rfl : p = a.size := by omega
      have h4 : dl (a ++ b) (n + 1 + b.size) a.size = _ := dl_right a b (n + 1 + b.size) 0
      rw [h4, dl_end (s := a) hp, dl_fuel b (n + 1 + b.size) b.size 0 (by omega) (by omega)]
      rfl

/-- All runes of a text. -/
def rl (s : ByteArray) : List (Nat × Nat × Nat) := dl s s.size 0
theorem rl_app {a : ByteArray} (b : ByteArray) (h : (rl a).all okR = true) : rl (a ++ b) = rl a ++ (rl b).map (shR a.size) := by
  unfold rl at *
  rw [dl_fuel (a ++ b) (a ++ b).size (a.size + b.size) 0 (by omega) (by rw [app_size]; omega)]
  exact dl_app a b a.size 0 (by omega) (by omega) h
theorem bad_rl (s : ByteArray) : (badV s s.size 0 = -1 ↔ (rl s).all okR = true) ∧ (badV s s.size 0 < 0 ↔ (rl s).all okR = true) := by
  have := dl_bad s s.size 0 (by omega)
  exact ⟨this.2, this.1.trans this.2⟩
theorem runes_rl (s : ByteArray) : runesV s s.size 0 0 = (rl s).length := by
  have := dl_runes s s.size 0 0 (by omega)
  rw [Int.zero_add] at this
  exact this

theorem ok_shift (k : Nat) (l : List (Nat × Nat × Nat)) : (l.map (shR k)).all okR = l.all okR := by
  rw [List.all_map]
  rfl

theorem dec_bound (sz p a b c d : Nat) : (dec sz p a b c d).1 < 2097152 ∨ (dec sz p a b c d).1 < 4294967296 := by
  unfold dec
  repeat' split
  all_goals (simp only; omega)

theorem bad_ff : badV ⟨#[255]⟩ (ByteArray.size ⟨#[255]⟩) 0 = 0 := by decide +kernel
theorem runes_q : runesV ⟨#[113]⟩ (ByteArray.size ⟨#[113]⟩) 0 0 = 1 := by decide +kernel
end Go.Proofs.YtgnnglfbpcjadaaGreatDoor

/- Which bytes are words; signs. (Written by wip/tools/gen03a.py.) -/
namespace Go.Proofs.YtgnnglfbpcjadaaGreatDoor
open Go.Sx
set_option linter.unusedVariables false
set_option linter.unusedSimpArgs false
set_option maxRecDepth 100000

def wordsL : List (List UInt8) := [[97, 114, 114, 97, 121], [102, 110], [99, 111, 110, 115, 116], [112, 104, 105], [108, 111, 97, 100], [119, 114, 97, 112], [115, 116, 111, 114, 101], [99, 97, 108, 108], [105, 110, 112, 117, 116], [111, 117, 116, 112, 117, 116], [114, 101, 108, 101, 97, 115, 101], [106, 117, 109, 112], [98, 114, 97, 110, 99, 104], [114, 101, 116, 117, 114, 110], [97, 100, 100], [115, 117, 98], [109, 117, 108], [100, 105, 118], [109, 111, 100], [97, 110, 100], [111, 114], [120, 111, 114], [115, 104, 108], [115, 104, 114], [101, 113], [108, 101, 115, 115]]
def wordB (s : ByteArray) : Bool := decide (s.data.toList ∈ wordsL)
theorem word_in {s : ByteArray} {l : List UInt8} (h : s.data.toList = l) (hl : l ∈ wordsL) : wordB s = true := by
  unfold wordB; rw [h]; exact decide_eq_true hl
theorem word_spec (s : ByteArray) : Pure PG 82 [vs s] (vb (wordB s)) [] := by
  refine Proc.mk (cfg 32) tysOK [] Tryz.func82 rfl (by kernel_rfl) rfl rfl rfl ?_
  intro C x
  refine x.cond rfl trivial (fun h => ?_) (fun a0 => ?_)
  · refine x.cond rfl trivial (fun _ => ?_) (fun h2 => ?_)
    · refine x.exit rfl trivial ?_
      refine ⟨.inr rfl, ?_, trivial, rfl⟩
      exact (word_in (of_decide_eq_true h) (l := [97, 114, 114, 97, 121]) (by decide)).symm
    · exact absurd (h.symm.trans h2) (by simp)
  have a0 : ¬ s.data.toList = [97, 114, 114, 97, 121] := of_decide_eq_false a0
  refine x.cond rfl trivial (fun h => ?_) (fun a1 => ?_)
  · refine x.cond rfl trivial (fun _ => ?_) (fun h2 => ?_)
    · refine x.exit rfl trivial ?_
      refine ⟨.inr rfl, ?_, trivial, rfl⟩
      exact (word_in (of_decide_eq_true h) (l := [102, 110]) (by decide)).symm
    · exact absurd (h.symm.trans h2) (by simp)
  have a1 : ¬ s.data.toList = [102, 110] := of_decide_eq_false a1
  refine x.cond rfl trivial (fun h => ?_) (fun a2 => ?_)
  · refine x.cond rfl trivial (fun _ => ?_) (fun h2 => ?_)
    · refine x.exit rfl trivial ?_
      refine ⟨.inr rfl, ?_, trivial, rfl⟩
      exact (word_in (of_decide_eq_true h) (l := [99, 111, 110, 115, 116]) (by decide)).symm
    · exact absurd (h.symm.trans h2) (by simp)
  have a2 : ¬ s.data.toList = [99, 111, 110, 115, 116] := of_decide_eq_false a2
  refine x.cond rfl trivial (fun h => ?_) (fun a3 => ?_)
  · refine x.cond rfl trivial (fun _ => ?_) (fun h2 => ?_)
    · refine x.exit rfl trivial ?_
      refine ⟨.inr rfl, ?_, trivial, rfl⟩
      exact (word_in (of_decide_eq_true h) (l := [112, 104, 105]) (by decide)).symm
    · exact absurd (h.symm.trans h2) (by simp)
  have a3 : ¬ s.data.toList = [112, 104, 105] := of_decide_eq_false a3
  refine x.cond rfl trivial (fun h => ?_) (fun a4 => ?_)
  · refine x.cond rfl trivial (fun _ => ?_) (fun h2 => ?_)
    · refine x.exit rfl trivial ?_
      refine ⟨.inr rfl, ?_, trivial, rfl⟩
      exact (word_in (of_decide_eq_true h) (l := [108, 111, 97, 100]) (by decide)).symm
    · exact absurd (h.symm.trans h2) (by simp)
  have a4 : ¬ s.data.toList = [108, 111, 97, 100] := of_decide_eq_false a4
  refine x.cond rfl trivial (fun h => ?_) (fun a5 => ?_)
  · refine x.cond rfl trivial (fun _ => ?_) (fun h2 => ?_)
    · refine x.exit rfl trivial ?_
      refine ⟨.inr rfl, ?_, trivial, rfl⟩
      exact (word_in (of_decide_eq_true h) (l := [119, 114, 97, 112]) (by decide)).symm
    · exact absurd (h.symm.trans h2) (by simp)
  have a5 : ¬ s.data.toList = [119, 114, 97, 112] := of_decide_eq_false a5
  refine x.cond rfl trivial (fun h => ?_) (fun a6 => ?_)
  · refine x.cond rfl trivial (fun _ => ?_) (fun h2 => ?_)
    · refine x.exit rfl trivial ?_
      refine ⟨.inr rfl, ?_, trivial, rfl⟩
      exact (word_in (of_decide_eq_true h) (l := [115, 116, 111, 114, 101]) (by decide)).symm
    · exact absurd (h.symm.trans h2) (by simp)
  have a6 : ¬ s.data.toList = [115, 116, 111, 114, 101] := of_decide_eq_false a6
  refine x.cond rfl trivial (fun h => ?_) (fun a7 => ?_)
  · refine x.cond rfl trivial (fun _ => ?_) (fun h2 => ?_)
    · refine x.exit rfl trivial ?_
      refine ⟨.inr rfl, ?_, trivial, rfl⟩
      exact (word_in (of_decide_eq_true h) (l := [99, 97, 108, 108]) (by decide)).symm
    · exact absurd (h.symm.trans h2) (by simp)
  have a7 : ¬ s.data.toList = [99, 97, 108, 108] := of_decide_eq_false a7
  refine x.cond rfl trivial (fun h => ?_) (fun a8 => ?_)
  · refine x.cond rfl trivial (fun _ => ?_) (fun h2 => ?_)
    · refine x.exit rfl trivial ?_
      refine ⟨.inr rfl, ?_, trivial, rfl⟩
      exact (word_in (of_decide_eq_true h) (l := [105, 110, 112, 117, 116]) (by decide)).symm
    · exact absurd (h.symm.trans h2) (by simp)
  have a8 : ¬ s.data.toList = [105, 110, 112, 117, 116] := of_decide_eq_false a8
  refine x.cond rfl trivial (fun h => ?_) (fun a9 => ?_)
  · refine x.cond rfl trivial (fun _ => ?_) (fun h2 => ?_)
    · refine x.exit rfl trivial ?_
      refine ⟨.inr rfl, ?_, trivial, rfl⟩
      exact (word_in (of_decide_eq_true h) (l := [111, 117, 116, 112, 117, 116]) (by decide)).symm
    · exact absurd (h.symm.trans h2) (by simp)
  have a9 : ¬ s.data.toList = [111, 117, 116, 112, 117, 116] := of_decide_eq_false a9
  refine x.cond rfl trivial (fun h => ?_) (fun a10 => ?_)
  · refine x.cond rfl trivial (fun _ => ?_) (fun h2 => ?_)
    · refine x.exit rfl trivial ?_
      refine ⟨.inr rfl, ?_, trivial, rfl⟩
      exact (word_in (of_decide_eq_true h) (l := [114, 101, 108, 101, 97, 115, 101]) (by decide)).symm
    · exact absurd (h.symm.trans h2) (by simp)
  have a10 : ¬ s.data.toList = [114, 101, 108, 101, 97, 115, 101] := of_decide_eq_false a10
  refine x.cond rfl trivial (fun h => ?_) (fun a11 => ?_)
  · refine x.cond rfl trivial (fun _ => ?_) (fun h2 => ?_)
    · refine x.exit rfl trivial ?_
      refine ⟨.inr rfl, ?_, trivial, rfl⟩
      exact (word_in (of_decide_eq_true h) (l := [106, 117, 109, 112]) (by decide)).symm
    · exact absurd (h.symm.trans h2) (by simp)
  have a11 : ¬ s.data.toList = [106, 117, 109, 112] := of_decide_eq_false a11
  refine x.cond rfl trivial (fun h => ?_) (fun a12 => ?_)
  · refine x.cond rfl trivial (fun _ => ?_) (fun h2 => ?_)
    · refine x.exit rfl trivial ?_
      refine ⟨.inr rfl, ?_, trivial, rfl⟩
      exact (word_in (of_decide_eq_true h) (l := [98, 114, 97, 110, 99, 104]) (by decide)).symm
    · exact absurd (h.symm.trans h2) (by simp)
  have a12 : ¬ s.data.toList = [98, 114, 97, 110, 99, 104] := of_decide_eq_false a12
  refine x.cond rfl trivial (fun h => ?_) (fun a13 => ?_)
  · refine x.exit rfl trivial ?_
    refine ⟨.inr rfl, ?_, trivial, rfl⟩
    exact (word_in (of_decide_eq_true h) (l := [114, 101, 116, 117, 114, 110]) (by decide)).symm
  have a13 : ¬ s.data.toList = [114, 101, 116, 117, 114, 110] := of_decide_eq_false a13
  refine x.cond rfl trivial (fun h => ?_) (fun b0 => ?_)
  · refine x.cond rfl trivial (fun _ => ?_) (fun h2 => ?_)
    · refine x.exit rfl trivial ?_
      refine ⟨.inr rfl, ?_, trivial, rfl⟩
      exact (word_in (of_decide_eq_true h) (l := [97, 100, 100]) (by decide)).symm
    · exact absurd (h.symm.trans h2) (by simp)
  have b0 : ¬ s.data.toList = [97, 100, 100] := of_decide_eq_false b0
  refine x.cond rfl trivial (fun h => ?_) (fun b1 => ?_)
  · refine x.cond rfl trivial (fun _ => ?_) (fun h2 => ?_)
    · refine x.exit rfl trivial ?_
      refine ⟨.inr rfl, ?_, trivial, rfl⟩
      exact (word_in (of_decide_eq_true h) (l := [115, 117, 98]) (by decide)).symm
    · exact absurd (h.symm.trans h2) (by simp)
  have b1 : ¬ s.data.toList = [115, 117, 98] := of_decide_eq_false b1
  refine x.cond rfl trivial (fun h => ?_) (fun b2 => ?_)
  · refine x.cond rfl trivial (fun _ => ?_) (fun h2 => ?_)
    · refine x.exit rfl trivial ?_
      refine ⟨.inr rfl, ?_, trivial, rfl⟩
      exact (word_in (of_decide_eq_true h) (l := [109, 117, 108]) (by decide)).symm
    · exact absurd (h.symm.trans h2) (by simp)
  have b2 : ¬ s.data.toList = [109, 117, 108] := of_decide_eq_false b2
  refine x.cond rfl trivial (fun h => ?_) (fun b3 => ?_)
  · refine x.cond rfl trivial (fun _ => ?_) (fun h2 => ?_)
    · refine x.exit rfl trivial ?_
      refine ⟨.inr rfl, ?_, trivial, rfl⟩
      exact (word_in (of_decide_eq_true h) (l := [100, 105, 118]) (by decide)).symm
    · exact absurd (h.symm.trans h2) (by simp)
  have b3 : ¬ s.data.toList = [100, 105, 118] := of_decide_eq_false b3
  refine x.cond rfl trivial (fun h => ?_) (fun b4 => ?_)
  · refine x.cond rfl trivial (fun _ => ?_) (fun h2 => ?_)
    · refine x.exit rfl trivial ?_
      refine ⟨.inr rfl, ?_, trivial, rfl⟩
      exact (word_in (of_decide_eq_true h) (l := [109, 111, 100]) (by decide)).symm
    · exact absurd (h.symm.trans h2) (by simp)
  have b4 : ¬ s.data.toList = [109, 111, 100] := of_decide_eq_false b4
  refine x.cond rfl trivial (fun h => ?_) (fun b5 => ?_)
  · refine x.cond rfl trivial (fun _ => ?_) (fun h2 => ?_)
    · refine x.exit rfl trivial ?_
      refine ⟨.inr rfl, ?_, trivial, rfl⟩
      exact (word_in (of_decide_eq_true h) (l := [97, 110, 100]) (by decide)).symm
    · exact absurd (h.symm.trans h2) (by simp)
  have b5 : ¬ s.data.toList = [97, 110, 100] := of_decide_eq_false b5
  refine x.cond rfl trivial (fun h => ?_) (fun b6 => ?_)
  · refine x.cond rfl trivial (fun _ => ?_) (fun h2 => ?_)
    · refine x.exit rfl trivial ?_
      refine ⟨.inr rfl, ?_, trivial, rfl⟩
      exact (word_in (of_decide_eq_true h) (l := [111, 114]) (by decide)).symm
    · exact absurd (h.symm.trans h2) (by simp)
  have b6 : ¬ s.data.toList = [111, 114] := of_decide_eq_false b6
  refine x.cond rfl trivial (fun h => ?_) (fun b7 => ?_)
  · refine x.cond rfl trivial (fun _ => ?_) (fun h2 => ?_)
    · refine x.exit rfl trivial ?_
      refine ⟨.inr rfl, ?_, trivial, rfl⟩
      exact (word_in (of_decide_eq_true h) (l := [120, 111, 114]) (by decide)).symm
    · exact absurd (h.symm.trans h2) (by simp)
  have b7 : ¬ s.data.toList = [120, 111, 114] := of_decide_eq_false b7
  refine x.cond rfl trivial (fun h => ?_) (fun b8 => ?_)
  · refine x.cond rfl trivial (fun _ => ?_) (fun h2 => ?_)
    · refine x.exit rfl trivial ?_
      refine ⟨.inr rfl, ?_, trivial, rfl⟩
      exact (word_in (of_decide_eq_true h) (l := [115, 104, 108]) (by decide)).symm
    · exact absurd (h.symm.trans h2) (by simp)
  have b8 : ¬ s.data.toList = [115, 104, 108] := of_decide_eq_false b8
  refine x.cond rfl trivial (fun h => ?_) (fun b9 => ?_)
  · refine x.cond rfl trivial (fun _ => ?_) (fun h2 => ?_)
    · refine x.exit rfl trivial ?_
      refine ⟨.inr rfl, ?_, trivial, rfl⟩
      exact (word_in (of_decide_eq_true h) (l := [115, 104, 114]) (by decide)).symm
    · exact absurd (h.symm.trans h2) (by simp)
  have b9 : ¬ s.data.toList = [115, 104, 114] := of_decide_eq_false b9
  refine x.cond rfl trivial (fun h => ?_) (fun b10 => ?_)
  · refine x.cond rfl trivial (fun _ => ?_) (fun h2 => ?_)
    · refine x.exit rfl trivial ?_
      refine ⟨.inr rfl, ?_, trivial, rfl⟩
      exact (word_in (of_decide_eq_true h) (l := [101, 113]) (by decide)).symm
    · exact absurd (h.symm.trans h2) (by simp)
  have b10 : ¬ s.data.toList = [101, 113] := of_decide_eq_false b10
  refine x.cond rfl trivial (fun h => ?_) (fun b11 => ?_)
  · refine x.exit rfl trivial ?_
    refine ⟨.inr rfl, ?_, trivial, rfl⟩
    exact (word_in (of_decide_eq_true h) (l := [108, 101, 115, 115]) (by decide)).symm
  have b11 : ¬ s.data.toList = [108, 101, 115, 115] := of_decide_eq_false b11
  refine x.exit rfl trivial ?_
  refine ⟨.inr rfl, ?_, trivial, rfl⟩
  show false = wordB s
  rw [eq_comm]
  unfold wordB wordsL
  rw [decide_eq_false_iff_not]
  simp only [List.mem_cons, List.not_mem_nil, or_false, not_or]
  exact ⟨a0, a1, a2, a3, a4, a5, a6, a7, a8, a9, a10, a11, a12, a13, b0, b1, b2, b3, b4, b5, b6, b7, b8, b9, b10, b11⟩

/-! ### the answer's words -/
def wordStr : List ByteArray := [⟨#[97, 114, 114, 97, 121]⟩, ⟨#[102, 110]⟩, ⟨#[99, 111, 110, 115, 116]⟩, ⟨#[112, 104, 105]⟩, ⟨#[108, 111, 97, 100]⟩, ⟨#[119, 114, 97, 112]⟩, ⟨#[115, 116, 111, 114, 101]⟩, ⟨#[99, 97, 108, 108]⟩, ⟨#[105, 110, 112, 117, 116]⟩, ⟨#[111, 117, 116, 112, 117, 116]⟩, ⟨#[114, 101, 108, 101, 97, 115, 101]⟩, ⟨#[106, 117, 109, 112]⟩, ⟨#[98, 114, 97, 110, 99, 104]⟩, ⟨#[114, 101, 116, 117, 114, 110]⟩, ⟨#[97, 100, 100]⟩, ⟨#[115, 117, 98]⟩, ⟨#[109, 117, 108]⟩, ⟨#[100, 105, 118]⟩, ⟨#[109, 111, 100]⟩, ⟨#[97, 110, 100]⟩, ⟨#[111, 114]⟩, ⟨#[120, 111, 114]⟩, ⟨#[115, 104, 108]⟩, ⟨#[115, 104, 114]⟩, ⟨#[101, 113]⟩, ⟨#[108, 101, 115, 115]⟩]
theorem word_str (s : ByteArray) : wordB s = true ↔ ∃ i, i < 26 ∧ s.data.toList = (wordStr.getD i .empty).data.toList := by
  unfold wordB
  rw [decide_eq_true_eq]
  constructor
  · intro h
    obtain ⟨i, hi, e⟩ := List.getElem_of_mem h
    have hi : i < 26 := hi
    refine ⟨i, hi, ?_⟩
    rw [← e]
    have : ∀ i, (h : i < wordsL.length) → wordsL[i] = (wordStr.getD i .empty).data.toList := by decide
    exact this i hi
  · rintro ⟨i, hi, e⟩
    rw [e]
    have : ∀ i, i < 26 → (wordStr.getD i .empty).data.toList ∈ wordsL := by decide
    exact this i hi
theorem tab_map (l : List ByteArray) (h : l.length ≠ 1) {i : Nat} (hi : i < l.length) : tab (l.map fun w => [D.str w]) i = [D.str (l.getD i .empty)] := by
  match l, h with
  | [], _ => exact absurd hi (Nat.not_lt_zero _)
  | [_], h => exact absurd rfl h
  | a :: b :: r, _ =>
    show ((a :: b :: r).map fun w => [D.str w]).getD i [] = _
    rw [List.getD_eq_getElem?_getD, List.getElem?_map, List.getElem?_eq_getElem hi, List.getD_eq_getElem?_getD, List.getElem?_eq_getElem hi]; rfl
theorem refword_spec (s : ByteArray) : Pure PG 90 [vs s] (vb (wordB s)) [] := by
  refine Proc.mk (cfg 18) tysOK [] Tryz.func90 rfl (by kernel_rfl) rfl rfl rfl ?_
  intro C x
  refine x.toLoop rfl ?_ ?_
  · simp only [AllP, big]
  refine x.le (s' := ⟨[(0, vs s), (3, .own 0), (4, vi 0)], [(0, .vec 9 1 26 fun i => [.str (wordStr.getD i .empty)])], 1⟩) ?_ ?_
  · refine ⟨⟨rfl, rfl, rfl, trivial⟩, ⟨⟨rfl, rfl, rfl, fun i hi => ?_⟩, trivial⟩, rfl⟩
    exact tab_map wordStr (by decide) hi
  refine Sx.Go.freeze 0 ?_
  refine x.loop (α := { i : Nat // i ≤ 26 ∧ ∀ j, j < i → s.data.toList ≠ (wordStr.getD j .empty).data.toList }) (fun y => ⟨[(0, vs s), (3, .d (.sl 1 26 fun i => [.str (wordStr.getD i .empty)])), (4, vi (y.1 : Int))], [], 1⟩) (fun y => 26 - y.1) ⟨0, by omega, fun j hj => by omega⟩ rfl trivial ⟨⟨rfl, veq_d rfl, rfl, trivial⟩, trivial, rfl⟩ (fun y => ?_)
  obtain ⟨i, hi, hno⟩ := y
  change Go C _ ⟨[(0, vs s), (3, .d (.sl 1 26 fun i => [.str (wordStr.getD i .empty)])), (4, vi (i : Int))], [], 1⟩ _
  refine x.cond rfl trivial (fun h1 => ?_) (fun h1 => ?_)
  · have h1 : i < 26 := by have := of_decide_eq_true h1; omega
    refine x.cond rfl ?_ (fun h2 => ?_) (fun h2 => ?_)
    · simp only [AllP]; omega
    · have h2 : (wordStr.getD i .empty).data.toList = s.data.toList := of_decide_eq_true h2
      refine x.exit rfl trivial ?_
      refine ⟨.inr rfl, ?_, trivial, rfl⟩
      exact ((word_str s).2 ⟨i, h1, h2.symm⟩).symm
    · have h2 : ¬ (wordStr.getD i .empty).data.toList = s.data.toList := of_decide_eq_false h2
      refine x.back rfl (show inI64 _ by unfold inI64; omega) ⟨⟨i + 1, by omega, fun j hj => ?_⟩, by show 26 - (i + 1) < 26 - i; omega, ⟨rfl, veq_d rfl, rfl, trivial⟩, trivial, rfl⟩
      by_cases e : j = i
      · rw [e]; exact fun h => h2 h.symm
      · exact hno j (by omega)
  · have h1 : i = 26 := by have := of_decide_eq_false h1; omega
    refine x.exit rfl trivial ?_
    refine ⟨.inr rfl, ?_, trivial, rfl⟩
    show false = wordB s
    rw [eq_comm, Bool.eq_false_iff, Ne, word_str]
    rintro ⟨j, hj, e⟩
    exact hno j (by omega) e

/-! ### signs, digits -/
def signB (c : Nat) : Bool := (((((((decide (c = 40) || decide (c = 41)) || decide (c = 123)) || decide (c = 125)) || decide (c = 91)) || decide (c = 93)) || decide (c = 44)) || decide (c = 58)) || decide (c = 61)
theorem dec_nat (c k : Nat) : decide ((c : Int) = (k : Int)) = decide (c = k) := by
  rw [Bool.eq_iff_iff, decide_eq_true_eq, decide_eq_true_eq]; omega
def digAt (s : ByteArray) (p : Nat) : Bool := decide (p < s.size) && (decide (48 ≤ bt s p) && decide (bt s p ≤ 57))
theorem idx_some {c : UInt8} : ∀ {l : List UInt8}, 0 ≤ Lib.indexByte l c → (Lib.indexByte l c).toNat < l.length ∧ l.getD (Lib.indexByte l c).toNat 0 = c ∧ ∀ j, j < (Lib.indexByte l c).toNat → l.getD j 0 ≠ c
  | [], h => by exact absurd h (by unfold Lib.indexByte; omega)
  | b :: l, h => by
    unfold Lib.indexByte at h ⊢
    split at h
    · rename_i hb
      rw [if_pos hb]
      refine ⟨by simp, by simpa using hb, fun j hj => absurd hj (Nat.not_lt_zero _)⟩
    · rename_i hb
      rw [if_neg hb]
      split at h
      · omega
      · rename_i h2
        rw [if_neg h2]
        have hge := Lib.indexByte_ge l c
        have h2 : ¬ Lib.indexByte l c = -1 := by simpa using h2
        obtain ⟨h3, h4, h5⟩ := idx_some (l := l) (c := c) (by omega)
        have e : (Lib.indexByte l c + 1).toNat = (Lib.indexByte l c).toNat + 1 := by omega
        rw [e]
        refine ⟨by simpa using h3, by simpa using h4, fun j hj => ?_⟩
        match j with
        | 0 => simpa using hb
        | j + 1 => simpa using h5 j (by omega)
theorem idx_none {c : UInt8} : ∀ {l : List UInt8}, Lib.indexByte l c < 0 → ∀ j, j < l.length → l.getD j 0 ≠ c
  | [], h, j, hj => absurd hj (Nat.not_lt_zero _)
  | b :: l, h, j, hj => by
    unfold Lib.indexByte at h
    split at h
    · omega
    · rename_i hb
      split at h
      · rename_i h2
        have h2 : Lib.indexByte l c = -1 := by simpa using h2
        match j with
        | 0 => simpa using hb
        | j + 1 => simpa using idx_none (l := l) (c := c) (by omega) j (by simpa using hj)
      · have hge := Lib.indexByte_ge l c
        rename_i h2
        have h2 : ¬ Lib.indexByte l c = -1 := by simpa using h2
        omega
end Go.Proofs.YtgnnglfbpcjadaaGreatDoor

/- Policies: the program's own: where a name stands in a list. -/
namespace Go.Proofs.YtgnnglfbpcjadaaGreatDoor
open Go.Sx
set_option linter.unusedVariables false
set_option linter.unusedSimpArgs false
set_option maxRecDepth 100000

/-- Texts, as data. -/
def dSs (l : List ByteArray) : D := .sl 1 l.length fun i => [.str (l.getD i .empty)]
/-- Channels: a name and a level's number. -/
abbrev Chan := ByteArray × Int
def chan0 : Chan := (.empty, 0)
def dChs (l : List Chan) : D := .sl 2 l.length fun i => [.str (l.getD i chan0).1, .int .i64 (l.getD i chan0).2]
abbrev vSs (l : List ByteArray) : V := .d (dSs l)
abbrev vChs (l : List Chan) : V := .d (dChs l)

/-- The first place at which this holds; -1: there is none. -/
def idxF (p : Nat → Bool) : Nat → Nat → Int
  | 0, _ => -1
  | n + 1, i => if p i then (i : Int) else idxF p n (i + 1)
theorem idxF_range {p : Nat → Bool} : ∀ {n i : Nat}, idxF p n i = -1 ∨ ((i : Int) ≤ idxF p n i ∧ idxF p n i < (i : Int) + n)
  | 0, _ => .inl rfl
  | n + 1, i => by
    rw [idxF]
    split
    · right; omega
    · rcases idxF_range (p := p) (n := n) (i := i + 1) with h | h
      · exact .inl h
      · right; omega
def idxS (l : List ByteArray) (s : ByteArray) : Int := idxF (fun i => decide ((l.getD i .empty).data.toList = s.data.toList)) l.length 0
def idxC (l : List Chan) (s : ByteArray) : Int := idxF (fun i => decide ((l.getD i chan0).1.data.toList = s.data.toList)) l.length 0

theorem itself_spec (s : ByteArray) : Pure PG 80 [vs s] (vs s) [] := by
  refine Proc.mk (cfg 4) tysOK [] Tryz.func80 rfl (by kernel_rfl) rfl rfl rfl ?_
  intro C x
  exact x.exit rfl trivial ⟨.inr rfl, rfl, trivial, rfl⟩
theorem called_spec (s : ByteArray) (k : Int) : Pure PG 84 [.agg [vs s, vi k]] (vs s) [] := by
  refine Proc.mk (cfg 5) tysOK [] Tryz.func84 rfl (by kernel_rfl) rfl rfl rfl ?_
  intro C x
  exact x.exit rfl trivial ⟨.inr rfl, rfl, trivial, rfl⟩

abbrev findH (f : Nat) (s : ByteArray) : List Ch := [.box [.fn f []], .box [vs s]]
theorem isS_spec (t s : ByteArray) : Proc PG 109 2 [vs t, .ptr 0 0, .ptr 1 0] (findH 80 s) (vb (decide (t.data.toList = s.data.toList))) (findH 80 s) := by
  refine Proc.mk (cfgF 10 2) tysOK [0, 1] Tryz.func109 rfl (by kernel_rfl) rfl rfl rfl ?_
  intro C x
  refine x.quiet rfl trivial mixedP (by kernel_rfl) ?_
  refine x.qcall rfl trivial rfl (itself_spec t) rfl rfl ⟨rfl, trivial⟩ ?_
  refine x.qdone rfl trivial ?_
  exact x.exit rfl trivial ⟨.inr rfl, rfl, ⟨⟨rfl, trivial⟩, ⟨rfl, trivial⟩, trivial⟩, rfl⟩
theorem isC_spec (c : Chan) (s : ByteArray) : Proc PG 112 2 [.agg [vs c.1, vi c.2], .ptr 0 0, .ptr 1 0] (findH 84 s) (vb (decide (c.1.data.toList = s.data.toList))) (findH 84 s) := by
  refine Proc.mk (cfgF 10 2) tysOK [0, 1] Tryz.func112 rfl (by kernel_rfl) rfl rfl rfl ?_
  intro C x
  refine x.quiet rfl trivial mixedP (by kernel_rfl) ?_
  refine x.qcall rfl trivial rfl (called_spec c.1 c.2) rfl rfl ⟨⟨rfl, rfl, trivial⟩, trivial⟩ ?_
  refine x.qdone rfl trivial ?_
  exact x.exit rfl trivial ⟨.inr rfl, rfl, ⟨⟨rfl, trivial⟩, ⟨rfl, trivial⟩, trivial⟩, rfl⟩

theorem indexS_spec (l : List ByteArray) (s : ByteArray) (hl : inI64 (l.length : Int)) : Proc PG 108 2 [vSs l, .fn 109 [.ptr 0 0, .ptr 1 0]] (findH 80 s) (vi (idxS l s)) (findH 80 s) := by
  refine Proc.mk (cfgF 19 2) tysOK [0, 1] Tryz.func108 rfl (by kernel_rfl) rfl rfl rfl ?_
  intro C x
  unfold inI64 at hl
  refine x.loop (α := { i : Nat // i ≤ l.length ∧ idxF (fun i => decide ((l.getD i .empty).data.toList = s.data.toList)) (l.length - i) i = idxS l s }) (fun y => ⟨[(0, vSs l), (1, .fn 109 [.ptr 0 0, .ptr 1 0]), (7, vi (l.length : Int)), (8, vi (y.1 : Int))], [(0, .box [.fn 80 []]), (1, .box [vs s])], 2⟩) (fun y => l.length - y.1) ⟨0, by omega, rfl⟩ rfl trivial ?_ (fun y => ?_)
  · exact ⟨⟨veq_d rfl, rfl, rfl, rfl, trivial⟩, ⟨⟨rfl, trivial⟩, ⟨rfl, trivial⟩, trivial⟩, rfl⟩
  obtain ⟨i, hi, hsame⟩ := y
  change Go C _ ⟨[(0, vSs l), (1, .fn 109 [.ptr 0 0, .ptr 1 0]), (7, vi (l.length : Int)), (8, vi (i : Int))], [(0, .box [.fn 80 []]), (1, .box [vs s])], 2⟩ _
  refine x.cond rfl trivial (fun h1 => ?_) (fun h1 => ?_)
  · have h1 : i < l.length := by have := of_decide_eq_true h1; omega
    rw [show l.length - i = (l.length - (i + 1)) + 1 by omega, idxF] at hsame
    refine x.call [0, 1] rfl ?_ rfl (isS_spec (l.getD i .empty) s) rfl ⟨rfl, ⟨rfl, rfl⟩, ⟨rfl, rfl⟩, trivial⟩ ⟨⟨rfl, trivial⟩, ⟨rfl, trivial⟩, trivial⟩ ?_
    · simp only [AllP]; omega
    refine x.cond rfl trivial (fun h2 => ?_) (fun h2 => ?_)
    · rw [if_pos h2] at hsame
      refine x.exit rfl trivial ⟨.inr rfl, ?_, ⟨⟨rfl, trivial⟩, ⟨rfl, trivial⟩, trivial⟩, rfl⟩
      show VEq0 (vi (i : Int)) (vi (idxS l s))
      rw [hsame]; exact rfl
    · rw [if_neg (by rw [h2]; simp)] at hsame
      refine x.back rfl ?_ ⟨⟨i + 1, by omega, hsame⟩, by show l.length - (i + 1) < l.length - i; omega, ⟨veq_d rfl, rfl, rfl, (show VEq0 (vi ((i : Int) + 1)) (vi ((i + 1 : Nat) : Int)) by rw [Int.natCast_add]; rfl), trivial⟩, ⟨⟨rfl, trivial⟩, ⟨rfl, trivial⟩, trivial⟩, rfl⟩
      simp only [AllP, inI64]; omega
  · have h1 : i = l.length := by have := of_decide_eq_false h1; omega
    refine x.exit rfl trivial ⟨.inr rfl, ?_, ⟨⟨rfl, trivial⟩, ⟨rfl, trivial⟩, trivial⟩, rfl⟩
    show VEq0 (vi (-1)) (vi (idxS l s))
    rw [← hsame, show l.length - i = 0 by omega]; exact rfl
theorem indexC_spec (l : List Chan) (s : ByteArray) (hl : inI64 (l.length : Int)) : Proc PG 111 2 [vChs l, .fn 112 [.ptr 0 0, .ptr 1 0]] (findH 84 s) (vi (idxC l s)) (findH 84 s) := by
  refine Proc.mk (cfgF 19 2) tysOK [0, 1] Tryz.func111 rfl (by kernel_rfl) rfl rfl rfl ?_
  intro C x
  unfold inI64 at hl
  refine x.loop (α := { i : Nat // i ≤ l.length ∧ idxF (fun i => decide ((l.getD i chan0).1.data.toList = s.data.toList)) (l.length - i) i = idxC l s }) (fun y => ⟨[(0, vChs l), (1, .fn 112 [.ptr 0 0, .ptr 1 0]), (7, vi (l.length : Int)), (8, vi (y.1 : Int))], [(0, .box [.fn 84 []]), (1, .box [vs s])], 2⟩) (fun y => l.length - y.1) ⟨0, by omega, rfl⟩ rfl trivial ?_ (fun y => ?_)
  · exact ⟨⟨veq_d rfl, rfl, rfl, rfl, trivial⟩, ⟨⟨rfl, trivial⟩, ⟨rfl, trivial⟩, trivial⟩, rfl⟩
  obtain ⟨i, hi, hsame⟩ := y
  change Go C _ ⟨[(0, vChs l), (1, .fn 112 [.ptr 0 0, .ptr 1 0]), (7, vi (l.length : Int)), (8, vi (i : Int))], [(0, .box [.fn 84 []]), (1, .box [vs s])], 2⟩ _
  refine x.cond rfl trivial (fun h1 => ?_) (fun h1 => ?_)
  · have h1 : i < l.length := by have := of_decide_eq_true h1; omega
    rw [show l.length - i = (l.length - (i + 1)) + 1 by omega, idxF] at hsame
    refine x.call [0, 1] rfl ?_ rfl (isC_spec (l.getD i chan0) s) rfl ⟨⟨rfl, rfl, trivial⟩, ⟨rfl, rfl⟩, ⟨rfl, rfl⟩, trivial⟩ ⟨⟨rfl, trivial⟩, ⟨rfl, trivial⟩, trivial⟩ ?_
    · simp only [AllP]; omega
    refine x.cond rfl trivial (fun h2 => ?_) (fun h2 => ?_)
    · rw [if_pos h2] at hsame
      refine x.exit rfl trivial ⟨.inr rfl, ?_, ⟨⟨rfl, trivial⟩, ⟨rfl, trivial⟩, trivial⟩, rfl⟩
      show VEq0 (vi (i : Int)) (vi (idxC l s))
      rw [hsame]; exact rfl
    · rw [if_neg (by rw [h2]; simp)] at hsame
      refine x.back rfl ?_ ⟨⟨i + 1, by omega, hsame⟩, by show l.length - (i + 1) < l.length - i; omega, ⟨veq_d rfl, rfl, rfl, (show VEq0 (vi ((i : Int) + 1)) (vi ((i + 1 : Nat) : Int)) by rw [Int.natCast_add]; rfl), trivial⟩, ⟨⟨rfl, trivial⟩, ⟨rfl, trivial⟩, trivial⟩, rfl⟩
      simp only [AllP, inI64]; omega
  · have h1 : i = l.length := by have := of_decide_eq_false h1; omega
    refine x.exit rfl trivial ⟨.inr rfl, ?_, ⟨⟨rfl, trivial⟩, ⟨rfl, trivial⟩, trivial⟩, rfl⟩
    show VEq0 (vi (-1)) (vi (idxC l s))
    rw [← hsame, show l.length - i = 0 by omega]; exact rfl

/-- What was found: where, and whether. -/
def foundV (k : Int) : V := .tup [vi (if 0 > k then 0 else k), vb (decide (0 ≤ k))]
theorem findS_spec (l : List ByteArray) (s : ByteArray) (hl : inI64 (l.length : Int)) : Pure PG 79 [vSs l, .fn 80 [], vs s] (foundV (idxS l s)) [] := by
  refine Proc.mk (cfg 16) tysOK [] Tryz.func79 rfl (by kernel_rfl) rfl rfl rfl ?_
  intro C x
  refine x.call [0, 1] rfl trivial rfl (indexS_spec l s hl) rfl ⟨veq_d rfl, rfl, trivial⟩ ⟨⟨rfl, trivial⟩, ⟨rfl, trivial⟩, trivial⟩ ?_
  exact x.exit rfl trivial ⟨.inr rfl, ⟨rfl, rfl, trivial⟩, trivial, rfl⟩
theorem findC_spec (l : List Chan) (s : ByteArray) (hl : inI64 (l.length : Int)) : Pure PG 83 [vChs l, .fn 84 [], vs s] (foundV (idxC l s)) [] := by
  refine Proc.mk (cfg 16) tysOK [] Tryz.func83 rfl (by kernel_rfl) rfl rfl rfl ?_
  intro C x
  refine x.call [0, 1] rfl trivial rfl (indexC_spec l s hl) rfl ⟨veq_d rfl, rfl, trivial⟩ ⟨⟨rfl, trivial⟩, ⟨rfl, trivial⟩, trivial⟩ ?_
  exact x.exit rfl trivial ⟨.inr rfl, ⟨rfl, rfl, trivial⟩, trivial, rfl⟩

theorem level_spec (l : List ByteArray) (s : ByteArray) (hl : inI64 (l.length : Int)) : Pure PG 58 [.agg [vSs l, .dead, .dead, .dead, .dead], vs s] (foundV (idxS l s)) [] := by
  refine Proc.mk (cfg 12) tysOK [] Tryz.func58 rfl (by kernel_rfl) rfl rfl rfl ?_
  intro C x
  refine x.pure rfl trivial rfl (findS_spec l s hl) ⟨veq_d rfl, rfl, rfl, trivial⟩ ?_
  exact x.exit rfl trivial ⟨.inr rfl, ⟨rfl, rfl, trivial⟩, trivial, rfl⟩

def nameB (s : ByteArray) : Bool := nameW s s.size 0 0 && !wordB s
theorem name6_spec (s : ByteArray) (hs : s.size ≤ 9223372036854775807) : Pure PG 59 [vs s] (vb (nameB s)) [] := by
  refine Proc.mk (cfg 10) tysOK [] Tryz.func59 rfl (by kernel_rfl) rfl rfl rfl ?_
  intro C x
  refine x.pure rfl trivial rfl (name_spec s hs) ⟨rfl, trivial⟩ ?_
  refine x.pureG rfl trivial rfl (fun _ => word_spec s) rfl ⟨rfl, trivial⟩ ?_
  exact x.exit rfl trivial ⟨.inr rfl, rfl, trivial, rfl⟩
end Go.Proofs.YtgnnglfbpcjadaaGreatDoor
