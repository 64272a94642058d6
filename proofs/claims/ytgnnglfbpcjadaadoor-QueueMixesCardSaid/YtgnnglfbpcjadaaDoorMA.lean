/- Texts put together: TTy, T01A, T01P, T01F, T01G, T01L, T01M, T01QA, T01B, T01N, T01E, T03A, T06A, T02P, T05P, T02A. -/
import Derived.Test.YtgnnglfbpcjadaaDoorSxE
import Derived.Test.YtgnnglfbpcjadaaDoorProg
import Derived.Lib.DecodeN
import Derived.Test.YtgnnglfbpcjadaaDoorShelf
import Derived.Test.YtgnnglfbpcjadaaDoorSxF
import Derived.Test.YtgnnglfbpcjadaaDoorSxH

/- The types that the program uses, as the engine Sx takes them; the program, and the tables of its library that it reads. -/
namespace Go.Proofs.YtgnnglfbpcjadaaDoor
open Go.Sx
def opNames : List (List UInt8) := [[], [97, 100, 100], [115, 117, 98], [109, 117, 108], [100, 105, 118], [109, 111, 100], [97, 110, 100], [111, 114], [120, 111, 114], [115, 104, 108], [115, 104, 114], [101, 113], [108, 101, 115, 115]]
def opAt (c : Nat) : ByteArray := ⟨(opNames.getD c []).toArray⟩
def tzTab : List Int := [0, 1, 56, 2, 57, 49, 28, 3, 61, 58, 42, 50, 38, 29, 17, 4, 62, 47, 59, 36, 45, 43, 51, 22, 53, 39, 33, 30, 24, 18, 12, 5, 63, 55, 48, 27, 60, 41, 37, 16, 46, 35, 44, 21, 52, 32, 23, 11, 54, 26, 40, 15, 34, 20, 31, 10, 25, 14, 19, 9, 13, 8, 7, 6]
noncomputable def PG : Pg := ⟨Tryd.prog,
  (1, 256, fun c => .int .u8 (Lib.firstT c)) ::
  (2, 32, fun c => .int .u8 (if c % 2 = 0 then Lib.accLo (c / 2) else Lib.accHi (c / 2))) ::
  (3, 64, fun c => .int .u8 (tzTab.getD c 0)) ::
  (0, 0, fun _ => undef) ::
  []⟩
theorem ty_0 : TI.OK Tryd.prog 2 ⟨.int .i64, 1, 8, [.d (.int .i64 0)]⟩ := TI.mk' (z := .int .i64 0) Tryd.underlying2 (by kernel_rfl) rfl ⟨rfl, trivial⟩
theorem ty_1 : TI.OK Tryd.prog 3 ⟨.int .i64, 1, 8, [.d (.int .i64 0)]⟩ := TI.mk' (z := .int .i64 0) Tryd.underlying3 (by kernel_rfl) rfl ⟨rfl, trivial⟩
theorem ty_2 : TI.OK Tryd.prog 4 ⟨.bool, 1, 1, [.d (.bool false)]⟩ := TI.mk' (z := .bool false) Tryd.underlying4 (by kernel_rfl) rfl ⟨rfl, trivial⟩
theorem ty_3 : TI.OK Tryd.prog 5 ⟨.int .u8, 1, 1, [.d (.int .u8 0)]⟩ := TI.mk' (z := .int .u8 0) Tryd.underlying5 (by kernel_rfl) rfl ⟨rfl, trivial⟩
theorem ty_4 : TI.OK Tryd.prog 9 ⟨.str, 1, 16, [.d (.str .empty)]⟩ := TI.mk' (z := .string .empty) Tryd.underlying9 (by kernel_rfl) rfl ⟨rfl, trivial⟩
theorem ty_5 : TI.OK Tryd.prog 21 ⟨.int .i32, 1, 4, [.d (.int .i32 0)]⟩ := TI.mk' (z := .int .i32 0) Tryd.underlying21 (by kernel_rfl) rfl ⟨rfl, trivial⟩
theorem ty_6 : TI.OK Tryd.prog 61 ⟨.int .u64, 1, 8, [.d (.int .u64 0)]⟩ := TI.mk' (z := .int .u64 0) Tryd.underlying61 (by kernel_rfl) rfl ⟨rfl, trivial⟩
theorem ty_7 : TI.OK Tryd.prog 33 ⟨.int .i64, 1, 8, [.d (.int .i64 0)]⟩ := TI.mk' (z := .int .i64 0) Tryd.underlying33 (by kernel_rfl) rfl ⟨rfl, trivial⟩
theorem ty_9 : TI.OK Tryd.prog 63 ⟨.slice 3, 1, 24, [.nils]⟩ := TI.mk' (z := .slice none 0 0) Tryd.underlying63 (by kernel_rfl) rfl ⟨rfl, trivial⟩
theorem ty_12 : TI.OK Tryd.prog 22 ⟨.slice 9, 1, 24, [.nils]⟩ := TI.mk' (z := .slice none 0 0) Tryd.underlying22 (by kernel_rfl) rfl ⟨rfl, trivial⟩
theorem ty_13 : TI.OK Tryd.prog 23 ⟨.slice 61, 1, 24, [.nils]⟩ := TI.mk' (z := .slice none 0 0) Tryd.underlying23 (by kernel_rfl) rfl ⟨rfl, trivial⟩
theorem ty_14 : TI.OK Tryd.prog 31 ⟨.slice 2, 1, 24, [.nils]⟩ := TI.mk' (z := .slice none 0 0) Tryd.underlying31 (by kernel_rfl) rfl ⟨rfl, trivial⟩
theorem ty_41 : TI.OK Tryd.prog 1 ⟨.func, 1, 8, [.d .nf]⟩ := TI.mk' (z := .nilFunc) ⟨_, _, _, Tryd.underlying1⟩ (by kernel_rfl) rfl ⟨rfl, trivial⟩
theorem ty_49 : TI.OK Tryd.prog 20 ⟨.iface, 1, 16, [.d .ni]⟩ := TI.mk' (z := .nilIface) ⟨_, Tryd.underlying20⟩ (by kernel_rfl) rfl ⟨rfl, trivial⟩
theorem ty_52 : TI.OK Tryd.prog 54 ⟨.struct [(0, 9), (1, 3)] [2, 0], 2, 24, [.d (.str .empty), .d (.int .i64 0)]⟩ := TI.mk' (z := .agg #[.string .empty, .int .i64 0]) ⟨⟨_, Tryd.underlying54, rfl⟩, .inr (by kernel_rfl)⟩ (by kernel_rfl) rfl ⟨rfl, rfl, trivial⟩
theorem ty_53 : TI.OK Tryd.prog 24 ⟨.slice 54, 1, 24, [.nils]⟩ := TI.mk' (z := .slice none 0 0) Tryd.underlying24 (by kernel_rfl) rfl ⟨rfl, trivial⟩
theorem ty_54 : TI.OK Tryd.prog 26 ⟨.struct [(0, 22), (1, 23), (2, 24), (3, 24), (4, 3)] [], 5, 104, [.nils, .nils, .nils, .nils, .d (.int .i64 0)]⟩ := TI.mk' (z := .agg #[.slice none 0 0, .slice none 0 0, .slice none 0 0, .slice none 0 0, .int .i64 0]) ⟨⟨_, Tryd.underlying26, rfl⟩, .inl rfl⟩ (by kernel_rfl) rfl ⟨rfl, rfl, rfl, rfl, rfl, trivial⟩
theorem ty_55 : TI.OK Tryd.prog 110 ⟨.array 2 3, 2, 16, [.d (.int .i64 0)]⟩ := TI.mk' (z := .agg (List.replicate 2 [Value.int .i64 0]).flatten.toArray) Tryd.underlying110 (by kernel_rfl) (by kernel_rfl) (all2_rep (us := [.d (.int .i64 0)]) (cs := [Value.int .i64 0]) ⟨rfl, trivial⟩ 2)
theorem ty_56 : TI.OK Tryd.prog 75 ⟨.slice 110, 1, 24, [.nils]⟩ := TI.mk' (z := .slice none 0 0) Tryd.underlying75 (by kernel_rfl) rfl ⟨rfl, trivial⟩
theorem ty_57 : TI.OK Tryd.prog 77 ⟨.struct [(0, 26), (5, 75)] [], 6, 128, [.nils, .nils, .nils, .nils, .d (.int .i64 0), .nils]⟩ := TI.mk' (z := .agg #[.slice none 0 0, .slice none 0 0, .slice none 0 0, .slice none 0 0, .int .i64 0, .slice none 0 0]) ⟨⟨_, Tryd.underlying77, rfl⟩, .inl rfl⟩ (by kernel_rfl) rfl ⟨rfl, rfl, rfl, rfl, rfl, rfl, trivial⟩
theorem ty_58 : TI.OK Tryd.prog 102 ⟨.func, 1, 8, [.d .nf]⟩ := TI.mk' (z := .nilFunc) ⟨_, _, _, Tryd.underlying102⟩ (by kernel_rfl) rfl ⟨rfl, trivial⟩
theorem ty_59 : TI.OK Tryd.prog 113 ⟨.func, 1, 8, [.d .nf]⟩ := TI.mk' (z := .nilFunc) ⟨_, _, _, Tryd.underlying113⟩ (by kernel_rfl) rfl ⟨rfl, trivial⟩
theorem ty_60 : TI.OK Tryd.prog 115 ⟨.func, 1, 8, [.d .nf]⟩ := TI.mk' (z := .nilFunc) ⟨_, _, _, Tryd.underlying115⟩ (by kernel_rfl) rfl ⟨rfl, trivial⟩
theorem ty_61 : TI.OK Tryd.prog 93 ⟨.func, 1, 8, [.d .nf]⟩ := TI.mk' (z := .nilFunc) ⟨_, _, _, Tryd.underlying93⟩ (by kernel_rfl) rfl ⟨rfl, trivial⟩
theorem ty_62 : TI.OK Tryd.prog 127 ⟨.func, 1, 8, [.d .nf]⟩ := TI.mk' (z := .nilFunc) ⟨_, _, _, Tryd.underlying127⟩ (by kernel_rfl) rfl ⟨rfl, trivial⟩
theorem ty_63 : TI.OK Tryd.prog 104 ⟨.struct [(0, 102), (1, 3)] [], 2, 16, [.d .nf, .d (.int .i64 0)]⟩ := TI.mk' (z := .agg #[.nilFunc, .int .i64 0]) ⟨⟨_, Tryd.underlying104, rfl⟩, .inl rfl⟩ (by kernel_rfl) rfl ⟨rfl, rfl, trivial⟩
theorem ty_64 : TI.OK Tryd.prog 105 ⟨.map 9 104, 1, 8, [.dead]⟩ := TI.mk' (z := .map none) Tryd.underlying105 (by kernel_rfl) rfl ⟨rfl, trivial⟩
theorem ty_65 : TI.OK Tryd.prog 74 ⟨.other, 1, 8, [.dead]⟩ := TI.mk' (z := .pointer none) ⟨_, Tryd.underlying74, trivial⟩ (by kernel_rfl) rfl ⟨rfl, trivial⟩
theorem ty_66 : TI.OK Tryd.prog 133 ⟨.other, 1, 8, [.dead]⟩ := TI.mk' (z := .pointer none) ⟨_, Tryd.underlying133, trivial⟩ (by kernel_rfl) rfl ⟨rfl, trivial⟩
theorem ty_67 : TI.OK Tryd.prog 27 ⟨.slice 31, 1, 24, [.nils]⟩ := TI.mk' (z := .slice none 0 0) Tryd.underlying27 (by kernel_rfl) rfl ⟨rfl, trivial⟩
theorem ty_68 : TI.OK Tryd.prog 42 ⟨.struct [(0, 5), (1, 3), (2, 2), (3, 3), (4, 3)] [0, 0, 0, 0, 0], 5, 40, [.d (.int .u8 0), .d (.int .i64 0), .d (.int .i64 0), .d (.int .i64 0), .d (.int .i64 0)]⟩ := TI.mk' (z := .agg #[.int .u8 0, .int .i64 0, .int .i64 0, .int .i64 0, .int .i64 0]) ⟨⟨_, Tryd.underlying42, rfl⟩, .inr (by kernel_rfl)⟩ (by kernel_rfl) rfl ⟨rfl, rfl, rfl, rfl, rfl, trivial⟩
theorem ty_69 : TI.OK Tryd.prog 28 ⟨.slice 42, 1, 24, [.nils]⟩ := TI.mk' (z := .slice none 0 0) Tryd.underlying28 (by kernel_rfl) rfl ⟨rfl, trivial⟩
theorem ty_70 : TI.OK Tryd.prog 44 ⟨.struct [(0, 3), (1, 3), (2, 42)] [], 7, 56, [.d (.int .i64 0), .d (.int .i64 0), .d (.int .u8 0), .d (.int .i64 0), .d (.int .i64 0), .d (.int .i64 0), .d (.int .i64 0)]⟩ := TI.mk' (z := .agg #[.int .i64 0, .int .i64 0, .int .u8 0, .int .i64 0, .int .i64 0, .int .i64 0, .int .i64 0]) ⟨⟨_, Tryd.underlying44, rfl⟩, .inl rfl⟩ (by kernel_rfl) rfl ⟨rfl, rfl, rfl, rfl, rfl, rfl, rfl, trivial⟩
theorem ty_72 : TI.OK Tryd.prog 30 ⟨.struct [(0, 26), (5, 3), (6, 27), (7, 27), (8, 5), (9, 28)] [], 10, 192, [.nils, .nils, .nils, .nils, .d (.int .i64 0), .d (.int .i64 0), .nils, .nils, .d (.int .u8 0), .nils]⟩ := TI.mk' (z := .agg #[.slice none 0 0, .slice none 0 0, .slice none 0 0, .slice none 0 0, .int .i64 0, .int .i64 0, .slice none 0 0, .slice none 0 0, .int .u8 0, .slice none 0 0]) ⟨⟨_, Tryd.underlying30, rfl⟩, .inl rfl⟩ (by kernel_rfl) rfl ⟨rfl, rfl, rfl, rfl, rfl, rfl, rfl, rfl, rfl, rfl, trivial⟩
theorem ty_73 : TI.OK Tryd.prog 65 ⟨.struct [(0, 27), (1, 63)] [], 2, 48, [.nils, .nils]⟩ := TI.mk' (z := .agg #[.slice none 0 0, .slice none 0 0]) ⟨⟨_, Tryd.underlying65, rfl⟩, .inl rfl⟩ (by kernel_rfl) rfl ⟨rfl, rfl, trivial⟩
theorem ty_74 : TI.OK Tryd.prog 67 ⟨.struct [(0, 65), (2, 26), (7, 28)] [], 8, 176, [.nils, .nils, .nils, .nils, .nils, .nils, .d (.int .i64 0), .nils]⟩ := TI.mk' (z := .agg #[.slice none 0 0, .slice none 0 0, .slice none 0 0, .slice none 0 0, .slice none 0 0, .slice none 0 0, .int .i64 0, .slice none 0 0]) ⟨⟨_, Tryd.underlying67, rfl⟩, .inl rfl⟩ (by kernel_rfl) rfl ⟨rfl, rfl, rfl, rfl, rfl, rfl, rfl, rfl, trivial⟩
theorem ty_76 : TI.OK Tryd.prog 45 ⟨.ptr, 1, 8, [.d .np]⟩ := TI.mk' (z := .pointer none) ⟨_, Tryd.underlying45⟩ (by kernel_rfl) rfl ⟨rfl, trivial⟩
theorem ty_77 : TI.OK Tryd.prog 90 ⟨.ptr, 1, 8, [.d .np]⟩ := TI.mk' (z := .pointer none) ⟨_, Tryd.underlying90⟩ (by kernel_rfl) rfl ⟨rfl, trivial⟩
theorem ty_78 : TI.OK Tryd.prog 72 ⟨.func, 1, 8, [.d .nf]⟩ := TI.mk' (z := .nilFunc) ⟨_, _, _, Tryd.underlying72⟩ (by kernel_rfl) rfl ⟨rfl, trivial⟩
theorem ty_80 : TI.OK Tryd.prog 140 ⟨.array 64 5, 64, 64, [.d (.int .u8 0)]⟩ := TI.mk' (z := .agg (List.replicate 64 [Value.int .u8 0]).flatten.toArray) Tryd.underlying140 (by kernel_rfl) (by kernel_rfl) (all2_rep (us := [.d (.int .u8 0)]) (cs := [Value.int .u8 0]) ⟨rfl, trivial⟩ 64)
def tys : List (Nat × TI) :=
  (2, ⟨.int .i64, 1, 8, [.d (.int .i64 0)]⟩) ::
  (3, ⟨.int .i64, 1, 8, [.d (.int .i64 0)]⟩) ::
  (4, ⟨.bool, 1, 1, [.d (.bool false)]⟩) ::
  (5, ⟨.int .u8, 1, 1, [.d (.int .u8 0)]⟩) ::
  (9, ⟨.str, 1, 16, [.d (.str .empty)]⟩) ::
  (21, ⟨.int .i32, 1, 4, [.d (.int .i32 0)]⟩) ::
  (61, ⟨.int .u64, 1, 8, [.d (.int .u64 0)]⟩) ::
  (33, ⟨.int .i64, 1, 8, [.d (.int .i64 0)]⟩) ::
  (63, ⟨.slice 3, 1, 24, [.nils]⟩) ::
  (22, ⟨.slice 9, 1, 24, [.nils]⟩) ::
  (23, ⟨.slice 61, 1, 24, [.nils]⟩) ::
  (31, ⟨.slice 2, 1, 24, [.nils]⟩) ::
  (1, ⟨.func, 1, 8, [.d .nf]⟩) ::
  (20, ⟨.iface, 1, 16, [.d .ni]⟩) ::
  (54, ⟨.struct [(0, 9), (1, 3)] [2, 0], 2, 24, [.d (.str .empty), .d (.int .i64 0)]⟩) ::
  (24, ⟨.slice 54, 1, 24, [.nils]⟩) ::
  (26, ⟨.struct [(0, 22), (1, 23), (2, 24), (3, 24), (4, 3)] [], 5, 104, [.nils, .nils, .nils, .nils, .d (.int .i64 0)]⟩) ::
  (110, ⟨.array 2 3, 2, 16, [.d (.int .i64 0)]⟩) ::
  (75, ⟨.slice 110, 1, 24, [.nils]⟩) ::
  (77, ⟨.struct [(0, 26), (5, 75)] [], 6, 128, [.nils, .nils, .nils, .nils, .d (.int .i64 0), .nils]⟩) ::
  (102, ⟨.func, 1, 8, [.d .nf]⟩) ::
  (113, ⟨.func, 1, 8, [.d .nf]⟩) ::
  (115, ⟨.func, 1, 8, [.d .nf]⟩) ::
  (93, ⟨.func, 1, 8, [.d .nf]⟩) ::
  (127, ⟨.func, 1, 8, [.d .nf]⟩) ::
  (104, ⟨.struct [(0, 102), (1, 3)] [], 2, 16, [.d .nf, .d (.int .i64 0)]⟩) ::
  (105, ⟨.map 9 104, 1, 8, [.dead]⟩) ::
  (74, ⟨.other, 1, 8, [.dead]⟩) ::
  (133, ⟨.other, 1, 8, [.dead]⟩) ::
  (27, ⟨.slice 31, 1, 24, [.nils]⟩) ::
  (42, ⟨.struct [(0, 5), (1, 3), (2, 2), (3, 3), (4, 3)] [0, 0, 0, 0, 0], 5, 40, [.d (.int .u8 0), .d (.int .i64 0), .d (.int .i64 0), .d (.int .i64 0), .d (.int .i64 0)]⟩) ::
  (28, ⟨.slice 42, 1, 24, [.nils]⟩) ::
  (44, ⟨.struct [(0, 3), (1, 3), (2, 42)] [], 7, 56, [.d (.int .i64 0), .d (.int .i64 0), .d (.int .u8 0), .d (.int .i64 0), .d (.int .i64 0), .d (.int .i64 0), .d (.int .i64 0)]⟩) ::
  (30, ⟨.struct [(0, 26), (5, 3), (6, 27), (7, 27), (8, 5), (9, 28)] [], 10, 192, [.nils, .nils, .nils, .nils, .d (.int .i64 0), .d (.int .i64 0), .nils, .nils, .d (.int .u8 0), .nils]⟩) ::
  (65, ⟨.struct [(0, 27), (1, 63)] [], 2, 48, [.nils, .nils]⟩) ::
  (67, ⟨.struct [(0, 65), (2, 26), (7, 28)] [], 8, 176, [.nils, .nils, .nils, .nils, .nils, .nils, .d (.int .i64 0), .nils]⟩) ::
  (45, ⟨.ptr, 1, 8, [.d .np]⟩) ::
  (90, ⟨.ptr, 1, 8, [.d .np]⟩) ::
  (72, ⟨.func, 1, 8, [.d .nf]⟩) ::
  (140, ⟨.array 64 5, 64, 64, [.d (.int .u8 0)]⟩) ::
  []
theorem tysOK : TysOK Tryd.prog tys :=
  And.intro ty_0 <|
  And.intro ty_1 <|
  And.intro ty_2 <|
  And.intro ty_3 <|
  And.intro ty_4 <|
  And.intro ty_5 <|
  And.intro ty_6 <|
  And.intro ty_7 <|
  And.intro ty_9 <|
  And.intro ty_12 <|
  And.intro ty_13 <|
  And.intro ty_14 <|
  And.intro ty_41 <|
  And.intro ty_49 <|
  And.intro ty_52 <|
  And.intro ty_53 <|
  And.intro ty_54 <|
  And.intro ty_55 <|
  And.intro ty_56 <|
  And.intro ty_57 <|
  And.intro ty_58 <|
  And.intro ty_59 <|
  And.intro ty_60 <|
  And.intro ty_61 <|
  And.intro ty_62 <|
  And.intro ty_63 <|
  And.intro ty_64 <|
  And.intro ty_65 <|
  And.intro ty_66 <|
  And.intro ty_67 <|
  And.intro ty_68 <|
  And.intro ty_69 <|
  And.intro ty_70 <|
  And.intro ty_72 <|
  And.intro ty_73 <|
  And.intro ty_74 <|
  And.intro ty_76 <|
  And.intro ty_77 <|
  And.intro ty_78 <|
  And.intro ty_80 <|
  trivial
theorem mixedP : Tryd.prog.follows .mixedOrders = true := by kernel_rfl
def cfg (n : Nat) : Cfg := ⟨n, 0, true, tys⟩
def cfgF (n fix : Nat) : Cfg := ⟨n, fix, true, tys⟩
end Go.Proofs.YtgnnglfbpcjadaaDoor

/- What the letters and digits of the text package answer. -/
namespace Go.Proofs.YtgnnglfbpcjadaaDoor
open Go.Sx
set_option linter.unusedVariables false
set_option maxRecDepth 100000


theorem digit_spec (r : Int) : Pure PG 73 [.d (.int .i32 r)] (vb (decide (48 ≤ r) && decide (r ≤ 57))) [] := by
  refine Proc.mk (cfg 9) tysOK [] Tryd.func73 rfl (by kernel_rfl) rfl rfl rfl ?_
  intro C x
  refine x.exit rfl ?_ ?_
  · exact trivial
  · exact ⟨.inr rfl, rfl, trivial, rfl⟩


def cfg1 (n : Nat) : Cfg := cfgF n 1

/-- Letter$1: is the rune that was boxed between a and b? -/
theorem between_spec (r a b : Int) : Proc PG 93 1 [.d (.int .i32 a), .d (.int .i32 b), .ptr 0 0] [.box [.d (.int .i32 r)]] (vb (decide (a ≤ r) && decide (r ≤ b))) [.box [.d (.int .i32 r)]] := by
  refine Proc.mk (cfg1 14) tysOK [0] Tryd.func93 rfl (by kernel_rfl) rfl rfl rfl ?_
  intro C x
  refine x.exit rfl trivial ?_
  exact ⟨.inr rfl, rfl, ⟨⟨rfl, trivial⟩, trivial⟩, rfl⟩

theorem letter_spec (r : Int) : Pure PG 82 [.d (.int .i32 r)] (vb (decide (97 ≤ r) && decide (r ≤ 122) || decide (65 ≤ r) && decide (r ≤ 90) || decide (r = 95) || decide (945 ≤ r) && decide (r ≤ 969) || decide (913 ≤ r) && decide (r ≤ 937) && !decide (r = 930))) [] := by
  refine Proc.mk (cfg 27) tysOK [] Tryd.func82 rfl (by kernel_rfl) rfl rfl rfl ?_
  intro C x
  refine x.call [0] rfl trivial rfl (between_spec r 97 122) rfl ⟨rfl, rfl, ⟨rfl, rfl⟩, trivial⟩ ⟨⟨rfl, trivial⟩, trivial⟩ ?_
  refine x.callG [0] rfl trivial rfl (fun _ => between_spec r 65 90) rfl ⟨rfl, rfl, ⟨rfl, rfl⟩, trivial⟩ ⟨⟨rfl, trivial⟩, trivial⟩ ⟨⟨rfl, trivial⟩, trivial⟩ ?_
  refine x.callG [0] rfl ?_ rfl (fun _ => between_spec r 945 969) rfl ⟨rfl, rfl, ⟨rfl, rfl⟩, trivial⟩ ⟨⟨rfl, trivial⟩, trivial⟩ ⟨⟨rfl, trivial⟩, trivial⟩ ?_
  · exact trivial
  refine x.callG [0] rfl trivial rfl (fun _ => between_spec r 913 937) rfl ⟨rfl, rfl, ⟨rfl, rfl⟩, trivial⟩ ⟨⟨rfl, trivial⟩, trivial⟩ ⟨⟨rfl, trivial⟩, trivial⟩ ?_
  refine x.exit rfl ?_ ?_
  · exact trivial
  · refine ⟨.inr rfl, ?_, trivial, rfl⟩
    rfl
end Go.Proofs.YtgnnglfbpcjadaaDoor

/- Plain facts: bytes, masks, and how the model's decoder reads a rune. -/
namespace Go.Proofs.YtgnnglfbpcjadaaDoor
open Go.Sx
set_option linter.unusedVariables false
set_option linter.unusedSimpArgs false
set_option maxRecDepth 100000

theorem sb_get (s : ByteArray) (i : Nat) : sb s i = ((s.get! i).toNat : Int) := by
  unfold sb
  congr 2
  cases s with
  | mk d =>
    show d.toList.getD i 0 = d[i]!
    simp [List.getD_eq_getElem?_getD, getElem!_def]
    cases h : d[i]? <;> simp <;> rfl
theorem sb_nonneg (s : ByteArray) (i : Nat) : 0 ≤ sb s i := by unfold sb; exact Int.natCast_nonneg _
theorem sb_lt (s : ByteArray) (i : Nat) : sb s i < 256 := by unfold sb; have := (s.data.toList.getD i 0).toNat_lt; omega

theorem wrap_u8 {n : Nat} (h : n < 256) : IntKind.u8.wrap (n : Int) = n := by
  show (n : Int) % 256 = n
  omega
theorem mask (x : Nat) (m k : Nat) (hx : x < 256) (hm : m = 2 ^ k - 1) (hm' : m < 256) : bitI .and .u8 (x : Int) (m : Int) = ((x % 2 ^ k : Nat) : Int) := by
  unfold bitI
  simp only
  rw [BitVec.toNat_and]
  have h1 : (BitVec.ofInt IntKind.u8.bits (x : Int)).toNat = x := by
    show (BitVec.ofInt 8 (x : Int)).toNat = x
    simp [BitVec.toNat_ofInt]; omega
  have h2 : (BitVec.ofInt IntKind.u8.bits (m : Int)).toNat = m := by
    show (BitVec.ofInt 8 (m : Int)).toNat = m
    simp [BitVec.toNat_ofInt]; omega
  rw [h1, h2, hm, Nat.and_two_pow_sub_one_eq_mod]
  refine wrap_u8 (Nat.lt_of_le_of_lt (Nat.mod_le _ _) hx)
theorem maskI (x : Int) (m k : Nat) (h0 : 0 ≤ x) (hx : x < 256) (hm : m = 2 ^ k - 1) (hm' : m < 256) : bitI .and .u8 x (m : Int) = x % (2 ^ k : Nat) := by
  obtain ⟨y, rfl⟩ := Int.eq_ofNat_of_zero_le h0
  rw [mask y m k (by omega) hm hm']
  rfl
theorem mask31 {x : Int} (h0 : 0 ≤ x) (hx : x < 256) : bitI .and .u8 x 31 = x % 32 := maskI x 31 5 h0 hx rfl (by decide)
theorem mask63 {x : Int} (h0 : 0 ≤ x) (hx : x < 256) : bitI .and .u8 x 63 = x % 64 := maskI x 63 6 h0 hx rfl (by decide)
theorem mask15 {x : Int} (h0 : 0 ≤ x) (hx : x < 256) : bitI .and .u8 x 15 = x % 16 := maskI x 15 4 h0 hx rfl (by decide)
theorem mask7 {x : Int} (h0 : 0 ≤ x) (hx : x < 256) : bitI .and .u8 x 7 = x % 8 := maskI x 7 3 h0 hx rfl (by decide)

/-- May the byte at p be one of lo to hi? -/
def moreB (s : ByteArray) (i lo hi : Int) : Bool := decide (i < s.size) && decide (lo ≤ sb s i.toNat) && decide (sb s i.toNat ≤ hi)

theorem ite_cg {α : Type} {c c' : Prop} [Decidable c] [Decidable c'] {x x' y y' : α} (h : c ↔ c') (e1 : x = x') (e2 : y = y') : ite c x y = ite c' x' y' := by
  subst e1 e2
  by_cases hc : c
  · rw [if_pos hc, if_pos (h.1 hc)]
  · rw [if_neg hc, if_neg (fun h' => hc (h.2 h'))]

/-- Byte i. -/
def bt (s : ByteArray) (i : Nat) : Nat := (s.get! i).toNat
theorem sb_bt (s : ByteArray) (i : Nat) : sb s i = (bt s i : Int) := sb_get s i
theorem bt_lt (s : ByteArray) (i : Nat) : bt s i < 256 := (s.get! i).toNat_lt

/-- What the bytes a b c d at p, in sz bytes, spell: the decoder's answer. -/
def dec (sz p a b c d : Nat) : Nat × Nat :=
  if a < 128 then (a, 1)
  else if a / 32 = 6 ∧ p + 1 < sz ∧ b / 64 = 2 then
    if 128 ≤ a % 32 * 64 + b % 64 then (a % 32 * 64 + b % 64, 2) else (65533, 1)
  else if a / 16 = 14 ∧ p + 1 < sz ∧ b / 64 = 2 ∧ p + 2 < sz ∧ c / 64 = 2 then
    if 2048 ≤ a % 16 * 4096 + b % 64 * 64 + c % 64 ∧ ¬ (55296 ≤ a % 16 * 4096 + b % 64 * 64 + c % 64 ∧ a % 16 * 4096 + b % 64 * 64 + c % 64 ≤ 57343)
    then (a % 16 * 4096 + b % 64 * 64 + c % 64, 3) else (65533, 1)
  else if a / 8 = 30 ∧ p + 1 < sz ∧ b / 64 = 2 ∧ p + 2 < sz ∧ c / 64 = 2 ∧ p + 3 < sz ∧ d / 64 = 2 then
    if 65536 ≤ a % 8 * 262144 + b % 64 * 4096 + c % 64 * 64 + d % 64 ∧ a % 8 * 262144 + b % 64 * 4096 + c % 64 * 64 + d % 64 ≤ 1114111
    then (a % 8 * 262144 + b % 64 * 4096 + c % 64 * 64 + d % 64, 4) else (65533, 1)
  else (65533, 1)

theorem decode_eq (s : ByteArray) (p : Nat) : Utf8.decode s p = dec s.size p (bt s p) (bt s (p + 1)) (bt s (p + 2)) (bt s (p + 3)) := by
  unfold Utf8.decode dec
  have hr : Utf8.runeError = 65533 := rfl
  have e : ∀ k, (s.get! k).toNat = bt s k := fun k => rfl
  have h1 := bt_lt s (p + 1)
  have h2 := bt_lt s (p + 2)
  have h3 := bt_lt s (p + 3)
  have h0 := bt_lt s p
  simp only [hr, e, Nat.add_zero, Bool.and_eq_true, decide_eq_true_eq, beq_iff_eq, and_assoc]
  refine ite_cg Iff.rfl rfl (ite_cg Iff.rfl rfl (ite_cg Iff.rfl (ite_cg ?_ rfl rfl) (ite_cg Iff.rfl (ite_cg ?_ rfl rfl) rfl)))
  · simp only [Utf8.valid, Bool.or_eq_true, Bool.and_eq_true, decide_eq_true_eq]
    omega
  · simp only [Utf8.valid, Bool.or_eq_true, Bool.and_eq_true, decide_eq_true_eq]
    omega

/-- The rune at i and its length; zeros where there is none. -/
def formV (s : ByteArray) (i : Int) : Int × Int :=
  if 0 ≤ i ∧ i < s.size then
    if (Utf8.decode s i.toNat).2 = 1 ∧ 128 ≤ bt s i.toNat then (0, 0) else (((Utf8.decode s i.toNat).1 : Int), ((Utf8.decode s i.toNat).2 : Int))
  else (0, 0)
/-- The same in plain numbers. -/
theorem dec_form (sz p a b c d : Nat) (ha : a < 256) (hb : b < 256) (hc : c < 256) (hd : d < 256) :
    (if (dec sz p a b c d).2 = 1 ∧ 128 ≤ a then (0, 0) else (dec sz p a b c d)) =
    if a < 128 then (a, 1)
    else if 194 ≤ a ∧ a ≤ 223 ∧ p + 1 < sz ∧ 128 ≤ b ∧ b ≤ 191 then (a % 32 * 64 + b % 64, 2)
    else if 224 ≤ a ∧ a ≤ 239 ∧ p + 1 < sz ∧ (a = 224 → 160 ≤ b) ∧ (a = 237 → b ≤ 159) ∧ 128 ≤ b ∧ b ≤ 191 ∧ p + 2 < sz ∧ 128 ≤ c ∧ c ≤ 191 then (a % 16 * 4096 + b % 64 * 64 + c % 64, 3)
    else if 240 ≤ a ∧ a ≤ 244 ∧ p + 1 < sz ∧ (a = 240 → 144 ≤ b) ∧ (a = 244 → b ≤ 143) ∧ 128 ≤ b ∧ b ≤ 191 ∧ p + 2 < sz ∧ 128 ≤ c ∧ c ≤ 191 ∧ p + 3 < sz ∧ 128 ≤ d ∧ d ≤ 191 then (a % 8 * 262144 + b % 64 * 4096 + c % 64 * 64 + d % 64, 4)
    else (0, 0) := by
  unfold dec
  by_cases h1 : a < 128
  · rw [if_pos h1, if_pos h1, if_neg (by omega)]
  rw [if_neg h1, if_neg h1]
  by_cases h2 : a / 32 = 6 ∧ p + 1 < sz ∧ b / 64 = 2
  · rw [if_pos h2]
    by_cases h3 : 128 ≤ a % 32 * 64 + b % 64
    · rw [if_pos h3, if_neg (by simp), if_pos (by omega)]
    · rw [if_neg h3, if_pos ⟨rfl, by omega⟩, if_neg (by omega), if_neg (by omega), if_neg (by omega)]
  rw [if_neg h2, if_neg (c := 194 ≤ a ∧ a ≤ 223 ∧ p + 1 < sz ∧ 128 ≤ b ∧ b ≤ 191) (by omega)]
  by_cases h4 : a / 16 = 14 ∧ p + 1 < sz ∧ b / 64 = 2 ∧ p + 2 < sz ∧ c / 64 = 2
  · rw [if_pos h4]
    by_cases h5 : 2048 ≤ a % 16 * 4096 + b % 64 * 64 + c % 64 ∧ ¬ (55296 ≤ a % 16 * 4096 + b % 64 * 64 + c % 64 ∧ a % 16 * 4096 + b % 64 * 64 + c % 64 ≤ 57343)
    · rw [if_pos h5, if_neg (by simp), if_pos (by omega)]
    · rw [if_neg h5, if_pos ⟨rfl, by omega⟩, if_neg (by omega), if_neg (by omega)]
  rw [if_neg h4, if_neg (c := 224 ≤ a ∧ _) (by omega)]
  by_cases h6 : a / 8 = 30 ∧ p + 1 < sz ∧ b / 64 = 2 ∧ p + 2 < sz ∧ c / 64 = 2 ∧ p + 3 < sz ∧ d / 64 = 2
  · rw [if_pos h6]
    by_cases h7 : 65536 ≤ a % 8 * 262144 + b % 64 * 4096 + c % 64 * 64 + d % 64 ∧ a % 8 * 262144 + b % 64 * 4096 + c % 64 * 64 + d % 64 ≤ 1114111
    · rw [if_pos h7, if_neg (by simp), if_pos (by omega)]
    · rw [if_neg h7, if_pos ⟨rfl, by omega⟩, if_neg (by omega)]
  rw [if_neg h6, if_pos ⟨rfl, by omega⟩, if_neg (by omega)]
theorem formV_out {s : ByteArray} {i : Int} (h : ¬ (0 ≤ i ∧ i < s.size)) : formV s i = (0, 0) := by unfold formV; rw [if_neg h]
theorem formV_in {s : ByteArray} {i : Int} (h : 0 ≤ i ∧ i < s.size) : formV s i =
    (((if (dec s.size i.toNat (bt s i.toNat) (bt s (i.toNat + 1)) (bt s (i.toNat + 2)) (bt s (i.toNat + 3))).2 = 1 ∧ 128 ≤ bt s i.toNat then (0, 0) else (dec s.size i.toNat (bt s i.toNat) (bt s (i.toNat + 1)) (bt s (i.toNat + 2)) (bt s (i.toNat + 3)))).1 : Int),
     ((if (dec s.size i.toNat (bt s i.toNat) (bt s (i.toNat + 1)) (bt s (i.toNat + 2)) (bt s (i.toNat + 3))).2 = 1 ∧ 128 ≤ bt s i.toNat then (0, 0) else (dec s.size i.toNat (bt s i.toNat) (bt s (i.toNat + 1)) (bt s (i.toNat + 2)) (bt s (i.toNat + 3)))).2 : Int)) := by
  unfold formV
  rw [if_pos h, decode_eq]
  split <;> rfl
section
variable {s : ByteArray} {i : Int} (h : 0 ≤ i ∧ i < s.size)
include h
theorem moreB_nat (k : Nat) (lo hi : Int) : moreB s (i + (k : Int)) lo hi = (decide (i.toNat + k < s.size) && decide (lo ≤ (bt s (i.toNat + k) : Int)) && decide ((bt s (i.toNat + k) : Int) ≤ hi)) := by
  unfold moreB
  rw [show (i + (k : Int)).toNat = i.toNat + k by omega, sb_bt]
  congr 2
  exact decide_eq_decide.2 (by omega)
theorem more1 (lo hi : Int) : moreB s (i + 1) lo hi = (decide (i.toNat + 1 < s.size) && decide (lo ≤ (bt s (i.toNat + 1) : Int)) && decide ((bt s (i.toNat + 1) : Int) ≤ hi)) := moreB_nat h 1 lo hi
theorem more2 (lo hi : Int) : moreB s (i + 2) lo hi = (decide (i.toNat + 2 < s.size) && decide (lo ≤ (bt s (i.toNat + 2) : Int)) && decide ((bt s (i.toNat + 2) : Int) ≤ hi)) := moreB_nat h 2 lo hi
theorem more3 (lo hi : Int) : moreB s (i + 3) lo hi = (decide (i.toNat + 3 < s.size) && decide (lo ≤ (bt s (i.toNat + 3) : Int)) && decide ((bt s (i.toNat + 3) : Int) ≤ hi)) := moreB_nat h 3 lo hi
theorem sbk (k : Nat) : sb s (i + (k : Int)).toNat = (bt s (i.toNat + k) : Int) := by
  rw [show (i + (k : Int)).toNat = i.toNat + k by omega, sb_bt]
theorem sb1 : sb s (i + 1).toNat = (bt s (i.toNat + 1) : Int) := sbk h 1
theorem sb2 : sb s (i + 2).toNat = (bt s (i.toNat + 2) : Int) := sbk h 2
theorem sb3 : sb s (i + 3).toNat = (bt s (i.toNat + 3) : Int) := sbk h 3

theorem form1 (h1 : decide (sb s i.toNat < 128) = true) : formV s i = (sb s i.toNat, 1) := by
  rw [formV_in h, dec_form _ _ _ _ _ _ (bt_lt _ _) (bt_lt _ _) (bt_lt _ _) (bt_lt _ _)]
  simp only [sb_bt, decide_eq_true_eq] at *
  rw [if_pos (by omega)]
  rfl
theorem form2 (h2 : (decide (194 ≤ sb s i.toNat) && decide (sb s i.toNat ≤ 223) && moreB s (i + 1) 128 191) = true) :
    formV s i = (bitI .and .u8 (sb s i.toNat) 31 * 64 + bitI .and .u8 (sb s (i + 1).toNat) 63, 2) := by
  rw [mask31 (sb_nonneg _ _) (sb_lt _ _), mask63 (sb_nonneg _ _) (sb_lt _ _)]
  rw [formV_in h, dec_form _ _ _ _ _ _ (bt_lt _ _) (bt_lt _ _) (bt_lt _ _) (bt_lt _ _)]
  simp only [more1 h, sb1 h, sb_bt, Bool.and_eq_true, decide_eq_true_eq] at *
  rw [if_neg (by omega), if_pos (by omega)]
  simp
theorem form3 (y z : Int) (h0 : decide (224 ≤ sb s i.toNat) = true ∧ decide (sb s i.toNat ≤ 239) = true) (hy : (sb s i.toNat = 224 → 160 ≤ y) ∧ 128 ≤ y) (hz : (sb s i.toNat = 237 → z ≤ 159) ∧ z ≤ 191)
    (h2 : (moreB s (i + 1) y z && moreB s (i + 2) 128 191) = true) :
    formV s i = (bitI .and .u8 (sb s i.toNat) 15 * 4096 + bitI .and .u8 (sb s (i + 1).toNat) 63 * 64 + bitI .and .u8 (sb s (i + 2).toNat) 63, 3) := by
  rw [mask15 (sb_nonneg _ _) (sb_lt _ _), mask63 (sb_nonneg _ _) (sb_lt _ _), mask63 (sb_nonneg _ _) (sb_lt _ _)]
  rw [formV_in h, dec_form _ _ _ _ _ _ (bt_lt _ _) (bt_lt _ _) (bt_lt _ _) (bt_lt _ _)]
  simp only [more1 h, more2 h, sb1 h, sb2 h, sb_bt, Bool.and_eq_true, decide_eq_true_eq] at *
  rw [if_neg (by omega), if_neg (by omega), if_pos (by omega)]
  simp
theorem form4 (y z : Int) (h0 : decide (240 ≤ sb s i.toNat) = true ∧ decide (sb s i.toNat ≤ 244) = true) (hy : (sb s i.toNat = 240 → 144 ≤ y) ∧ 128 ≤ y) (hz : (sb s i.toNat = 244 → z ≤ 143) ∧ z ≤ 191)
    (h2 : (moreB s (i + 1) y z && moreB s (i + 2) 128 191 && moreB s (i + 3) 128 191) = true) :
    formV s i = (bitI .and .u8 (sb s i.toNat) 7 * 262144 + bitI .and .u8 (sb s (i + 1).toNat) 63 * 4096 + bitI .and .u8 (sb s (i + 2).toNat) 63 * 64 + bitI .and .u8 (sb s (i + 3).toNat) 63, 4) := by
  rw [mask7 (sb_nonneg _ _) (sb_lt _ _), mask63 (sb_nonneg _ _) (sb_lt _ _), mask63 (sb_nonneg _ _) (sb_lt _ _), mask63 (sb_nonneg _ _) (sb_lt _ _)]
  rw [formV_in h, dec_form _ _ _ _ _ _ (bt_lt _ _) (bt_lt _ _) (bt_lt _ _) (bt_lt _ _)]
  simp only [more1 h, more2 h, more3 h, sb1 h, sb2 h, sb3 h, sb_bt, Bool.and_eq_true, decide_eq_true_eq] at *
  rw [if_neg (by omega), if_neg (by omega), if_neg (by omega), if_pos (by omega)]
  simp
theorem formBad (h1 : decide (sb s i.toNat < 128) = false) (h2 : (decide (194 ≤ sb s i.toNat) && decide (sb s i.toNat ≤ 223) && moreB s (i + 1) 128 191) = false)
    (h3 : (224 ≤ sb s i.toNat ∧ sb s i.toNat ≤ 239) → ∃ y z : Int, (sb s i.toNat ≠ 224 ∧ y ≤ 128 ∨ y ≤ 160 ∧ sb s i.toNat = 224) ∧ (sb s i.toNat ≠ 237 ∧ 191 ≤ z ∨ 159 ≤ z ∧ sb s i.toNat = 237) ∧ (moreB s (i + 1) y z && moreB s (i + 2) 128 191) = false)
    (h4 : (240 ≤ sb s i.toNat ∧ sb s i.toNat ≤ 244) → ∃ y z : Int, (sb s i.toNat ≠ 240 ∧ y ≤ 128 ∨ y ≤ 144 ∧ sb s i.toNat = 240) ∧ (sb s i.toNat ≠ 244 ∧ 191 ≤ z ∨ 143 ≤ z ∧ sb s i.toNat = 244) ∧ (moreB s (i + 1) y z && moreB s (i + 2) 128 191 && moreB s (i + 3) 128 191) = false) :
    formV s i = (0, 0) := by
  rw [formV_in h, dec_form _ _ _ _ _ _ (bt_lt _ _) (bt_lt _ _) (bt_lt _ _) (bt_lt _ _)]
  simp only [more1 h, more2 h, more3 h, sb_bt, Bool.and_eq_false_iff, decide_eq_false_iff_not] at *
  rw [if_neg (by clear h3 h4; omega), if_neg (by clear h3 h4; omega), if_neg ?_, if_neg ?_]
  · rfl
  · intro hh
    obtain ⟨y, z, h5, h6, h7⟩ := h4 (by clear h3 h4; omega)
    clear h3 h4
    omega
  · intro hh
    obtain ⟨y, z, h5, h6, h7⟩ := h3 (by clear h3 h4; omega)
    clear h3 h4
    omega
end
end Go.Proofs.YtgnnglfbpcjadaaDoor

/- The reference's form of a rune. -/
namespace Go.Proofs.YtgnnglfbpcjadaaDoor
open Go.Sx
set_option linter.unusedVariables false
set_option linter.unusedSimpArgs false
set_option maxRecDepth 100000

theorem drawsMixed : Tryd.prog.follows .mixedOrders = true := by kernel_rfl

theorem inI64_small {n : Int} (h0 : -4611686018427387904 ≤ n) (h1 : n ≤ 4611686018427387904) : inI64 n := by unfold inI64; omega
section
variable {s : ByteArray} {i : Int} (h : 0 ≤ i ∧ i < s.size) (hs : s.size ≤ 9223372036854775807)
include h hs
theorem ob2 (h2 : (decide (194 ≤ sb s i.toNat) && decide (sb s i.toNat ≤ 223) && moreB s (i + 1) 128 191) = true) :
    AllP [inI64 (bitI BinOp.and IntKind.u8 (sb s i.toNat) 31), inI64 (bitI BinOp.and IntKind.u8 (sb s i.toNat) 31 * 64),
      inI64 (i + 1), 0 ≤ i + 1 ∧ i + 1 < ↑s.size, inI64 (bitI BinOp.and IntKind.u8 (sb s (i + 1).toNat) 63),
      inI64 (bitI BinOp.and IntKind.u8 (sb s i.toNat) 31 * 64 + bitI BinOp.and IntKind.u8 (sb s (i + 1).toNat) 63)] := by
  rw [mask31 (sb_nonneg _ _) (sb_lt _ _), mask63 (sb_nonneg _ _) (sb_lt _ _)]
  simp only [moreB, Bool.and_eq_true, decide_eq_true_eq] at h2
  simp only [AllP, inI64]
  omega
theorem ob3 {y z : Int} (h2 : (moreB s (i + 1) y z && moreB s (i + 2) 128 191) = true) :
    AllP [inI64 (bitI BinOp.and IntKind.u8 (sb s i.toNat) 15), inI64 (bitI BinOp.and IntKind.u8 (sb s i.toNat) 15 * 4096),
      inI64 (i + 1), 0 ≤ i + 1 ∧ i + 1 < ↑s.size, inI64 (bitI BinOp.and IntKind.u8 (sb s (i + 1).toNat) 63), inI64 (bitI BinOp.and IntKind.u8 (sb s (i + 1).toNat) 63 * 64),
      inI64 (bitI BinOp.and IntKind.u8 (sb s i.toNat) 15 * 4096 + bitI BinOp.and IntKind.u8 (sb s (i + 1).toNat) 63 * 64),
      inI64 (i + 2), 0 ≤ i + 2 ∧ i + 2 < ↑s.size, inI64 (bitI BinOp.and IntKind.u8 (sb s (i + 2).toNat) 63),
      inI64 (bitI BinOp.and IntKind.u8 (sb s i.toNat) 15 * 4096 + bitI BinOp.and IntKind.u8 (sb s (i + 1).toNat) 63 * 64 + bitI BinOp.and IntKind.u8 (sb s (i + 2).toNat) 63)] := by
  rw [mask15 (sb_nonneg _ _) (sb_lt _ _), mask63 (sb_nonneg _ _) (sb_lt _ _), mask63 (sb_nonneg _ _) (sb_lt _ _)]
  simp only [moreB, Bool.and_eq_true, decide_eq_true_eq] at h2
  simp only [AllP, inI64]
  omega
theorem ob4 {y z : Int} (h2 : (moreB s (i + 1) y z && moreB s (i + 2) 128 191 && moreB s (i + 3) 128 191) = true) :
    AllP [inI64 (bitI BinOp.and IntKind.u8 (sb s i.toNat) 7), inI64 (bitI BinOp.and IntKind.u8 (sb s i.toNat) 7 * 262144),
      inI64 (i + 1), 0 ≤ i + 1 ∧ i + 1 < ↑s.size, inI64 (bitI BinOp.and IntKind.u8 (sb s (i + 1).toNat) 63), inI64 (bitI BinOp.and IntKind.u8 (sb s (i + 1).toNat) 63 * 4096),
      inI64 (bitI BinOp.and IntKind.u8 (sb s i.toNat) 7 * 262144 + bitI BinOp.and IntKind.u8 (sb s (i + 1).toNat) 63 * 4096),
      inI64 (i + 2), 0 ≤ i + 2 ∧ i + 2 < ↑s.size, inI64 (bitI BinOp.and IntKind.u8 (sb s (i + 2).toNat) 63), inI64 (bitI BinOp.and IntKind.u8 (sb s (i + 2).toNat) 63 * 64),
      inI64 (bitI BinOp.and IntKind.u8 (sb s i.toNat) 7 * 262144 + bitI BinOp.and IntKind.u8 (sb s (i + 1).toNat) 63 * 4096 + bitI BinOp.and IntKind.u8 (sb s (i + 2).toNat) 63 * 64),
      inI64 (i + 3), 0 ≤ i + 3 ∧ i + 3 < ↑s.size, inI64 (bitI BinOp.and IntKind.u8 (sb s (i + 3).toNat) 63),
      inI64 (bitI BinOp.and IntKind.u8 (sb s i.toNat) 7 * 262144 + bitI BinOp.and IntKind.u8 (sb s (i + 1).toNat) 63 * 4096 + bitI BinOp.and IntKind.u8 (sb s (i + 2).toNat) 63 * 64 + bitI BinOp.and IntKind.u8 (sb s (i + 3).toNat) 63)] := by
  rw [mask7 (sb_nonneg _ _) (sb_lt _ _), mask63 (sb_nonneg _ _) (sb_lt _ _), mask63 (sb_nonneg _ _) (sb_lt _ _), mask63 (sb_nonneg _ _) (sb_lt _ _)]
  simp only [moreB, Bool.and_eq_true, decide_eq_true_eq] at h2
  simp only [AllP, inI64]
  omega
end
theorem no34 {a : Int} (h : (decide (224 ≤ a) && decide (a ≤ 239)) = true) : ¬ (decide (240 ≤ a) && decide (a ≤ 244)) = true := by
  simp only [Bool.and_eq_true, decide_eq_true_eq] at *; omega
theorem no34' {a : Int} (h : (decide (224 ≤ a) && decide (a ≤ 239)) = true) : ¬ (240 ≤ a ∧ a ≤ 244) := by
  simp only [Bool.and_eq_true, decide_eq_true_eq] at *; omega
theorem no34f {a : Int} (h : (decide (224 ≤ a) && decide (a ≤ 239)) = false) : ¬ (224 ≤ a ∧ a ≤ 239) := by
  simp only [Bool.and_eq_false_iff, decide_eq_false_iff_not] at *; omega
theorem no34g {a : Int} (h : (decide (240 ≤ a) && decide (a ≤ 244)) = false) : ¬ (240 ≤ a ∧ a ≤ 244) := by
  simp only [Bool.and_eq_false_iff, decide_eq_false_iff_not] at *; omega

theorem mlt1 {s : ByteArray} {i lo hi : Int} (h : moreB s (i + 1) lo hi = true) : i + 2 ≤ s.size := by
  simp only [moreB, Bool.and_eq_true, decide_eq_true_eq] at h; omega
theorem mlt2 {s : ByteArray} {i lo hi lo' hi' : Int} (h : (moreB s (i + 1) lo hi && moreB s (i + 2) lo' hi') = true) : i + 3 ≤ s.size := by
  simp only [moreB, Bool.and_eq_true, decide_eq_true_eq] at h; omega

end Go.Proofs.YtgnnglfbpcjadaaDoor

/- The reference's step to the next rune; places in a text. -/
namespace Go.Proofs.YtgnnglfbpcjadaaDoor
open Go.Sx
set_option linter.unusedVariables false
set_option linter.unusedSimpArgs false
set_option maxRecDepth 100000

/-- Behind the rune at i. -/
def nextV (s : ByteArray) (i : Int) : Int := if (formV s i).2 = 0 then i + 1 else i + (formV s i).2

theorem formV_len (s : ByteArray) (i : Int) : 0 ≤ (formV s i).2 ∧ (formV s i).2 ≤ 4 := by
  by_cases h : 0 ≤ i ∧ i < s.size
  · rw [formV_in h, dec_form _ _ _ _ _ _ (bt_lt _ _) (bt_lt _ _) (bt_lt _ _) (bt_lt _ _)]
    repeat' split
    all_goals simp
  · rw [formV_out h]; simp

theorem formV_room (s : ByteArray) (i : Int) (h : 0 ≤ i ∧ i < s.size) : i + (formV s i).2 ≤ s.size := by
  rw [formV_in h, dec_form _ _ _ _ _ _ (bt_lt _ _) (bt_lt _ _) (bt_lt _ _) (bt_lt _ _)]
  repeat' split
  all_goals (simp; omega)
theorem nextV_room (s : ByteArray) (i : Int) (h : 0 ≤ i ∧ i < s.size) : nextV s i ≤ s.size := by
  have := formV_room s i h
  unfold nextV
  split <;> omega

end Go.Proofs.YtgnnglfbpcjadaaDoor

/- Plain facts on runes. -/
namespace Go.Proofs.YtgnnglfbpcjadaaDoor
open Go.Sx
set_option linter.unusedVariables false
set_option linter.unusedSimpArgs false
set_option maxRecDepth 100000

theorem decode_pos (s : ByteArray) (p : Nat) : 1 ≤ (Utf8.decode s p).2 ∧ (Utf8.decode s p).2 ≤ 4 ∧ (Utf8.decode s p).1 < 4294967296 := by
  rw [decode_eq]
  have h0 := bt_lt s p
  unfold dec
  repeat' split
  all_goals simp
  all_goals omega

theorem veq_int {k : IntKind} {a b : Int} (h : a = b) : VEq (.d (.int k a)) (.d (.int k b)) := by subst h; cases k <;> exact rfl
theorem nextV_gt (s : ByteArray) (i : Int) : i + 1 ≤ nextV s i ∧ nextV s i ≤ i + 4 := by
  have := formV_len s i
  unfold nextV
  split <;> omega

end Go.Proofs.YtgnnglfbpcjadaaDoor

/- How many runes a text has, and where a bad one stands: the reference's. -/
namespace Go.Proofs.YtgnnglfbpcjadaaDoor
open Go.Sx
set_option linter.unusedVariables false
set_option linter.unusedSimpArgs false
set_option maxRecDepth 100000

def runesV (s : ByteArray) : Nat → Int → Int → Int
  | 0, _, c => c
  | n + 1, i, c => if i < s.size then runesV s n (nextV s i) (c + 1) else c
theorem runesV_end {s : ByteArray} {n : Nat} {i c : Int} (h : ¬ i < s.size) : runesV s n i c = c := by
  cases n with
  | zero => rfl
  | succ n => rw [runesV, if_neg h]
def badV (s : ByteArray) : Nat → Int → Int
  | 0, _ => -1
  | n + 1, i => if i < s.size then if (formV s i).2 = 0 then i else badV s n (i + (formV s i).2) else -1
theorem badV_end {s : ByteArray} {n : Nat} {i : Int} (h : ¬ i < s.size) : badV s n i = -1 := by
  cases n with
  | zero => rfl
  | succ n => rw [badV, if_neg h]

structure RI (s : ByteArray) where
  n : Nat
  i : Int
  c : Int
  fuel : (s.size : Int) ≤ i + n
  same : runesV s n i c = runesV s s.size 0 0
  hc : 0 ≤ c ∧ c ≤ i
  hi : 0 ≤ i ∧ i ≤ s.size


structure BI (s : ByteArray) where
  n : Nat
  i : Int
  fuel : (s.size : Int) ≤ i + n
  same : badV s n i = badV s s.size 0
  hi : 0 ≤ i ∧ i ≤ s.size

end Go.Proofs.YtgnnglfbpcjadaaDoor

/- A rune's form where it stands. -/
namespace Go.Proofs.YtgnnglfbpcjadaaDoor
open Go.Sx
set_option linter.unusedVariables false
set_option linter.unusedSimpArgs false
set_option maxRecDepth 100000

theorem dec_bad (sz p a b c d : Nat) (h1 : (dec sz p a b c d).2 = 1) (h2 : 128 ≤ a) : (dec sz p a b c d).1 = 65533 := by
  unfold dec at *
  split
  · omega
  split
  · rw [if_neg (by omega)] at h1
    split
    · rename_i h3 h4 h5; rw [if_pos h4, if_pos h5] at h1; simp at h1
    · rfl
  split
  · rename_i h3 h4 h5
    rw [if_neg h3, if_neg h4, if_pos h5] at h1
    split
    · rename_i h6; rw [if_pos h6] at h1; simp at h1
    · rfl
  split
  · rename_i h3 h4 h5 h6
    rw [if_neg h3, if_neg h4, if_neg h5, if_pos h6] at h1
    split
    · rename_i h7; rw [if_pos h7] at h1; simp at h1
    · rfl
  · rfl

theorem formV_at {s : ByteArray} {p : Nat} (h : p < s.size) : formV s (p : Int) = if (Utf8.decode s p).2 = 1 ∧ 128 ≤ bt s p then (0, 0) else (((Utf8.decode s p).1 : Int), ((Utf8.decode s p).2 : Int)) := by
  unfold formV
  rw [if_pos (by omega), Int.toNat_natCast]
theorem nextV_at {s : ByteArray} {p : Nat} (h : p < s.size) : nextV s (p : Int) = ((p + (Utf8.decode s p).2 : Nat) : Int) := by
  have hd := decode_pos s p
  unfold nextV
  rw [formV_at h]
  by_cases h1 : (Utf8.decode s p).2 = 1 ∧ 128 ≤ bt s p
  · rw [if_pos h1, if_pos rfl, h1.1]; rfl
  · rw [if_neg h1, if_neg (by show ¬ ((Utf8.decode s p).2 : Int) = 0; omega)]; rfl
end Go.Proofs.YtgnnglfbpcjadaaDoor

/- Where bytes are no text, and how many runes they have: the program's own. -/
namespace Go.Proofs.YtgnnglfbpcjadaaDoor
open Go.Sx
set_option linter.unusedVariables false
set_option linter.unusedSimpArgs false
set_option maxRecDepth 100000

theorem tabs_of_env {F : Nat → Prop} {w : World} (h : EnvOK PG.env F w) : Lib.Utf8Tabs 1 2 w := by
  refine ⟨fun c hc => (h _ _ _ (.head _)).2.1 c hc, fun i hi => ⟨?_, ?_⟩⟩
  · have := (h _ _ _ (.tail _ (.head _))).2.1 (2 * i) (by omega)
    rw [this, if_pos (by omega), show 2 * i / 2 = i by omega]
  · have := (h _ _ _ (.tail _ (.head _))).2.1 (2 * i + 1) (by omega)
    rw [this, if_neg (by omega), show (2 * i + 1) / 2 = i by omega]

theorem mem_env_cons {A B : Nat × Nat × (Nat → Value)} {l : List (Nat × Nat × (Nat → Value))} {Q : Nat → Nat → (Nat → Value) → Prop} (h : Q B.1 B.2.1 B.2.2) (k : A ∈ l → Q A.1 A.2.1 A.2.2) : A ∈ B :: l → Q A.1 A.2.1 A.2.2 := fun hm => by
  rcases List.mem_cons.1 hm with rfl | hm
  · exact h
  · exact k hm
theorem env_of_tabs {W : World} (h : Lib.Utf8Tabs 1 2 W)
    (hT : ∀ j, j < 64 → W.cell? ⟨3, j, none⟩ = some (.int .u8 (tzTab.getD j 0)))
    (hL : ∃ m, W.cell? ⟨0, 0, none⟩ = some (.int .i64 m))
    : EnvOK PG.env (fun k => k < W.heap.size) W := by
  have lt : ∀ {b j : Nat} {v : Value}, W.cell? ⟨b, j, none⟩ = some v → b < W.heap.size := fun {b j v} hc => by
    refine Classical.byContradiction fun hn => ?_
    have : W.heap[b]? = none := Array.getElem?_eq_none (by omega)
    simp [World.cell?, this] at hc
  intro g n f hm
  rcases List.mem_cons.1 hm with e | hm
  · simp only [Prod.mk.injEq] at e
    obtain ⟨rfl, rfl, rfl⟩ := e
    exact ⟨lt (h.1 0 (by omega)), fun j hj => h.1 j hj, fun h0 => by cases h0⟩
  · rcases List.mem_cons.1 hm with e | hm
    · simp only [Prod.mk.injEq] at e
      obtain ⟨rfl, rfl, rfl⟩ := e
      refine ⟨lt (h.2 0 (by omega)).1, fun j hj => ?_, fun h0 => by cases h0⟩
      obtain ⟨h1, h2⟩ := h.2 (j / 2) (by omega)
      by_cases hj2 : j % 2 = 0
      · have e : 2 * (j / 2) = j := by omega
        dsimp only
        rw [if_pos hj2, ← h1, e]
      · have e : 2 * (j / 2) + 1 = j := by omega
        dsimp only
        rw [if_neg hj2, ← h2, e]
    · revert hm
      refine mem_env_cons (A := (g, n, f)) (Q := fun g n f => (g < W.heap.size) ∧ (∀ j, j < n → W.cell? ⟨g, j, none⟩ = some (f j)) ∧ (n = 0 → ∃ m, W.cell? ⟨g, 0, none⟩ = some (.int .i64 m))) ?_ ?_
      · exact ⟨lt (hT 0 (by omega)), fun j hj => hT j hj, fun h0 => by cases h0⟩
      refine mem_env_cons (A := (g, n, f)) (Q := fun g n f => (g < W.heap.size) ∧ (∀ j, j < n → W.cell? ⟨g, j, none⟩ = some (f j)) ∧ (n = 0 → ∃ m, W.cell? ⟨g, 0, none⟩ = some (.int .i64 m))) ?_ ?_
      · exact ⟨lt hL.choose_spec, fun j hj => absurd hj (Nat.not_lt_zero _), fun _ => hL⟩
      intro hm; cases hm

theorem decodeRune_spec (s : ByteArray) : Pure PG 48 [vs s] (.tup [.d (.int .i32 ((Lib.decodeGo s).1 : Int)), vi ((Lib.decodeGo s).2 : Int)]) [] :=
  Pure.ofLib (vals := [.string s]) (callable_of Tryd.func48 (by kernel_rfl) (by kernel_rfl)) rfl rfl rfl rfl fun w F hE => Tryd.utf8_DecodeRuneInString s w (tabs_of_env hE)

theorem extract_data (s : ByteArray) (p : Nat) : (s.extract p s.size).data.toList = s.data.toList.drop p := by
  rw [ByteArray.data_extract, Array.toList_extract]
  show (s.data.toList.drop p).take (s.size - p) = _
  rw [List.take_of_length_le]
  rw [List.length_drop, show s.data.toList.length = s.size from Array.length_toList]
  omega
theorem extract_size (s : ByteArray) (p : Nat) : (s.extract p s.size).size = s.size - p := by
  rw [show (s.extract p s.size).size = (s.extract p s.size).data.toList.length from (Array.length_toList).symm, extract_data, List.length_drop, Array.length_toList]
  rfl
theorem bt_getD (s : ByteArray) (i : Nat) : bt s i = (s.data.toList.getD i 0).toNat := by
  have := sb_bt s i
  unfold sb at this
  omega
theorem bt_extract (s : ByteArray) (p k : Nat) : bt (s.extract p s.size) k = bt s (p + k) := by
  rw [bt_getD, bt_getD, extract_data, List.getD_eq_getElem?_getD, List.getD_eq_getElem?_getD, List.getElem?_drop]
theorem dec_back (sz p a b c d : Nat) (h : p ≤ sz) : dec (sz - p) 0 a b c d = dec sz p a b c d := by
  unfold dec
  have h1 : (0 + 1 < sz - p) ↔ (p + 1 < sz) := by omega
  have h2 : (0 + 2 < sz - p) ↔ (p + 2 < sz) := by omega
  have h3 : (0 + 3 < sz - p) ↔ (p + 3 < sz) := by omega
  simp only [h1, h2, h3]
theorem decodeGo_at {s : ByteArray} {p : Nat} (h : p < s.size) : Lib.decodeGo (s.extract p s.size) = Utf8.decode s p := by
  unfold Lib.decodeGo
  rw [if_neg (by rw [extract_size]; omega), decode_eq, decode_eq, extract_size, dec_back _ _ _ _ _ _ (by omega)]
  simp only [bt_extract, Nat.zero_add, Nat.add_zero]

theorem form_zero {s : ByteArray} {p : Nat} (h : p < s.size) : (formV s (p : Int)).2 = 0 ↔ (Utf8.decode s p).1 = 65533 ∧ (Utf8.decode s p).2 = 1 := by
  obtain ⟨d1, d2, d3⟩ := decode_pos s p
  rw [formV_at h]
  constructor
  · intro hz
    split at hz
    · rename_i hb
      refine ⟨?_, hb.1⟩
      rw [decode_eq] at hb ⊢
      exact dec_bad _ _ _ _ _ _ hb.1 hb.2
    · have : ((Utf8.decode s p).2 : Int) = 0 := hz
      omega
  · rintro ⟨h1, h2⟩
    have h128 : 128 ≤ bt s p := Classical.byContradiction fun hlt => by
      rw [decode_eq, dec, if_pos (by omega)] at h1
      have h1' : bt s p = 65533 := h1
      omega
    rw [if_pos ⟨h2, h128⟩]

structure BW (s : ByteArray) where
  n : Nat
  p : Nat
  fuel : s.size ≤ p + n
  same : badV s n p = badV s s.size 0
  hp : p ≤ s.size + 4

theorem badW_spec (s : ByteArray) (hs : s.size ≤ 9223372036854775807) : Pure PG 32 [vs s] (vi (badV s s.size 0)) [] := by
  refine Proc.mk (cfg 25) tysOK [] Tryd.func32 rfl (by kernel_rfl) rfl rfl rfl ?_
  intro C x
  refine x.loop (α := BW s) (fun y => ⟨[(0, vs s), (8, .ptr 0 0)], [(0, .iter s y.p)], 1⟩) (fun y => s.size + 4 - y.p) ⟨s.size, 0, by omega, rfl, by omega⟩ rfl trivial ?_ (fun y => ?_)
  · exact ⟨⟨rfl, ⟨rfl, rfl⟩, trivial⟩, ⟨⟨rfl, rfl⟩, trivial⟩, rfl⟩
  obtain ⟨n, p, fuel, same, hp⟩ := y
  change Go C _ ⟨[(0, vs s), (8, .ptr 0 0)], [(0, .iter s p)], 1⟩ _
  obtain ⟨d1, d2, d3⟩ := decode_pos s p
  refine x.next rfl trivial rfl rfl rfl (fun h => ?_) (fun h => ?_)
  · have h : p < s.size := h
    refine x.cond rfl trivial (fun _ => ?_) (fun h1 => by cases h1)
    cases n with
    | zero => omega
    | succ n =>
      have hz := form_zero h
      rw [badV, if_pos (by omega)] at same
      have hgo : ¬ (formV s (p : Int)).2 = 0 → (p : Int) + (formV s (p : Int)).2 = ((p + (Utf8.decode s p).2 : Nat) : Int) := fun hne => by
        rw [formV_at h] at hne ⊢
        split
        · rename_i hb; rw [if_pos hb] at hne; exact absurd rfl hne
        · rfl
      have next : ¬ (formV s (p : Int)).2 = 0 → ∃ y : BW s, y.p = p + (Utf8.decode s p).2 := fun hne => by
        rw [if_neg hne, hgo hne] at same
        exact ⟨⟨n, p + (Utf8.decode s p).2, by omega, same, by omega⟩, rfl⟩
      refine x.cond rfl trivial (fun h2 => ?_) (fun h2 => ?_)
      · have h2' : (Utf8.decode s p).1 = 65533 := by
          simp only [decide_eq_true_eq] at h2
          omega
        refine x.pure rfl ?_ rfl (decodeRune_spec (s.extract p s.size)) ⟨?_, trivial⟩ ?_
        · simp only [AllP]; omega
        · show s.extract (p : Int).toNat (s.size : Int).toNat = s.extract p s.size
          rw [Int.toNat_natCast, Int.toNat_natCast]
        rw [decodeGo_at h]
        refine x.cond rfl trivial (fun h3 => ?_) (fun h3 => ?_)
        · have h3' : (Utf8.decode s p).2 = 1 := by
            simp only [decide_eq_true_eq] at h3
            omega
          rw [if_pos (hz.2 ⟨h2', h3'⟩)] at same
          refine x.exit rfl trivial ?_
          refine ⟨.inr rfl, ?_, trivial, rfl⟩
          rw [← same]
          exact rfl
        · have h3' : ¬ (Utf8.decode s p).2 = 1 := by
            simp only [decide_eq_false_iff_not] at h3
            omega
          obtain ⟨y, hy⟩ := next (fun e => h3' (hz.1 e).2)
          refine x.back rfl trivial ⟨y, by show s.size + 4 - y.p < s.size + 4 - p; rw [hy]; omega, ⟨rfl, ⟨rfl, rfl⟩, trivial⟩, ⟨⟨rfl, hy.symm⟩, trivial⟩, rfl⟩
      · have h2' : ¬ (Utf8.decode s p).1 = 65533 := by
          simp only [decide_eq_false_iff_not] at h2
          omega
        obtain ⟨y, hy⟩ := next (fun e => h2' (hz.1 e).1)
        refine x.back rfl trivial ⟨y, by show s.size + 4 - y.p < s.size + 4 - p; rw [hy]; omega, ⟨rfl, ⟨rfl, rfl⟩, trivial⟩, ⟨⟨rfl, hy.symm⟩, trivial⟩, rfl⟩
  · have h : ¬ p < s.size := h
    refine x.cond rfl trivial (fun h1 => by cases h1) (fun _ => ?_)
    refine x.exit rfl trivial ?_
    refine ⟨.inr rfl, ?_, trivial, rfl⟩
    rw [← same, badV_end (by omega)]
    exact rfl
end Go.Proofs.YtgnnglfbpcjadaaDoor

/- Is it a name? The program's own answer. -/
namespace Go.Proofs.YtgnnglfbpcjadaaDoor
open Go.Sx
set_option linter.unusedVariables false
set_option linter.unusedSimpArgs false
set_option maxRecDepth 100000

def letB (r : Int) : Bool := (decide (97 ≤ r) && decide (r ≤ 122) || decide (65 ≤ r) && decide (r ≤ 90) || decide (r = 95) || decide (945 ≤ r) && decide (r ≤ 969) || decide (913 ≤ r) && decide (r ≤ 937) && !decide (r = 930))
def digB (r : Int) : Bool := (decide (48 ≤ r) && decide (r ≤ 57))

def nameW (s : ByteArray) : Nat → Nat → Int → Bool
  | 0, _, c => decide (0 < c)
  | n + 1, p, c => if p < s.size then
      if (!letB (Utf8.decode s p).1 && (decide ((p : Int) = 0) || !digB (Utf8.decode s p).1)) = true then false
      else if 24 < c + 1 then false else nameW s n (p + (Utf8.decode s p).2) (c + 1)
    else decide (0 < c)
theorem nameW_end {s : ByteArray} {n p : Nat} {c : Int} (h : ¬ p < s.size) : nameW s n p c = decide (0 < c) := by
  cases n with
  | zero => rfl
  | succ n => rw [nameW, if_neg h]

structure NI (s : ByteArray) where
  n : Nat
  p : Nat
  c : Int
  fuel : s.size ≤ p + n
  same : nameW s n p c = nameW s s.size 0 0
  hc : 0 ≤ c ∧ c ≤ 24
  hp : p ≤ s.size + 4

theorem name_spec (s : ByteArray) (hs : s.size ≤ 9223372036854775807) : Pure PG 60 [vs s] (vb (nameW s s.size 0 0)) [] := by
  refine Proc.mk (cfg 30) tysOK [] Tryd.func60 rfl (by kernel_rfl) rfl rfl rfl ?_
  intro C x
  refine x.loop (α := NI s) (fun y => ⟨[(0, vs s), (3, vi y.c), (7, .ptr 0 0)], [(0, .iter s y.p)], 1⟩) (fun y => s.size + 4 - y.p) ⟨s.size, 0, 0, by omega, rfl, by omega, by omega⟩ rfl trivial ?_ (fun y => ?_)
  · exact ⟨⟨rfl, rfl, ⟨rfl, rfl⟩, trivial⟩, ⟨⟨rfl, rfl⟩, trivial⟩, rfl⟩
  obtain ⟨n, p, c, fuel, same, hc, hp⟩ := y
  change Go C _ ⟨[(0, vs s), (3, vi c), (7, .ptr 0 0)], [(0, .iter s p)], 1⟩ _
  obtain ⟨d1, d2, d3⟩ := decode_pos s p
  refine x.next rfl trivial rfl rfl rfl (fun h => ?_) (fun h => ?_)
  · refine x.cond rfl trivial (fun _ => ?_) (fun h1 => by cases h1)
    refine x.pure rfl trivial rfl (letter_spec _) ⟨rfl, trivial⟩ ?_
    refine x.pureG rfl trivial rfl (fun _ _ => digit_spec _) rfl ⟨rfl, trivial⟩ ?_
    cases n with
    | zero => omega
    | succ n =>
      rw [nameW, if_pos h] at same
      refine x.cond rfl trivial (fun h2 => ?_) (fun h2 => ?_)
      · refine x.exit rfl trivial ?_
        refine ⟨.inr rfl, ?_, trivial, rfl⟩
        rw [if_pos (show (!letB (Utf8.decode s p).1 && (decide ((p : Int) = 0) || !digB (Utf8.decode s p).1)) = true from h2)] at same
        rw [← same]
        exact rfl
      · rw [if_neg (by rw [show (!letB (Utf8.decode s p).1 && (decide ((p : Int) = 0) || !digB (Utf8.decode s p).1)) = false from h2]; simp)] at same
        refine x.cond rfl (show inI64 (c + 1) by unfold inI64; omega) (fun h3 => ?_) (fun h3 => ?_)
        · refine x.exit rfl trivial ?_
          refine ⟨.inr rfl, ?_, trivial, rfl⟩
          rw [if_pos (by simpa using h3)] at same
          rw [← same]
          exact rfl
        · rw [if_neg (by simpa using h3)] at same
          refine x.back rfl trivial ?_
          refine ⟨⟨n, p + (Utf8.decode s p).2, c + 1, by omega, same, by simp at h3; omega, by omega⟩, by show s.size + 4 - (p + (Utf8.decode s p).2) < s.size + 4 - p; omega, ?_⟩
          exact ⟨⟨rfl, rfl, ⟨rfl, rfl⟩, trivial⟩, ⟨⟨rfl, rfl⟩, trivial⟩, rfl⟩
  · refine x.cond rfl trivial (fun h1 => by cases h1) (fun _ => ?_)
    refine x.exit rfl trivial ?_
    refine ⟨.inr rfl, ?_, trivial, rfl⟩
    rw [← same, nameW_end h]
    exact rfl
end Go.Proofs.YtgnnglfbpcjadaaDoor

/- Texts as lists of runes: one text behind another. -/
namespace Go.Proofs.YtgnnglfbpcjadaaDoor
open Go.Sx
set_option linter.unusedVariables false
set_option linter.unusedSimpArgs false
set_option maxRecDepth 100000

/-- The runes from byte p on: where each begins, which it is, how long. -/
def dl (s : ByteArray) : Nat → Nat → List (Nat × Nat × Nat)
  | 0, _ => []
  | n + 1, p => if p < s.size then (p, (Utf8.decode s p).1, (Utf8.decode s p).2) :: dl s n (p + (Utf8.decode s p).2) else []
theorem dl_end {s : ByteArray} {n p : Nat} (h : ¬ p < s.size) : dl s n p = [] := by
  cases n with
  | zero => rfl
  | succ n => rw [dl, if_neg h]
theorem dl_fuel (s : ByteArray) : ∀ (n m p : Nat), s.size ≤ p + n → s.size ≤ p + m → dl s n p = dl s m p
  | 0, m, p, h1, h2 => by rw [dl_end (by omega), dl_end (by omega)]
  | n + 1, 0, p, h1, h2 => by rw [dl_end (by omega), dl_end (by omega)]
  | n + 1, m + 1, p, h1, h2 => by
    have := decode_pos s p
    rw [dl, dl, dl_fuel s n m _ (by omega) (by omega)]

theorem dl_runes (s : ByteArray) : ∀ (n p : Nat) (c : Int), s.size ≤ p + n → runesV s n p c = c + (dl s n p).length
  | 0, p, c, h => by simp [runesV, dl]
  | n + 1, p, c, h => by
    have := decode_pos s p
    rw [runesV, dl]
    by_cases hp : p < s.size
    · rw [if_pos (by omega), if_pos hp, nextV_at hp, dl_runes s n _ _ (by omega)]
      simp
      omega
    · rw [if_neg (by omega), if_neg hp]
      simp

def okR (x : Nat × Nat × Nat) : Bool := !(decide (x.2.1 = 65533) && decide (x.2.2 = 1))
theorem dl_bad (s : ByteArray) : ∀ (n p : Nat), s.size ≤ p + n → (badV s n p < 0 ↔ badV s n p = -1) ∧ (badV s n p = -1 ↔ (dl s n p).all okR = true)
  | 0, p, h => by simp [badV, dl]
  | n + 1, p, h => by
    have := decode_pos s p
    rw [badV, dl]
    by_cases hp : p < s.size
    · have hz := form_zero hp
      rw [if_pos (by omega), if_pos hp]
      by_cases h0 : (formV s (p : Int)).2 = 0
      · rw [if_pos h0]
        have := hz.1 h0
        simp only [List.all_cons, okR, this]
        simp
      · rw [if_neg h0]
        have hgo : (p : Int) + (formV s (p : Int)).2 = ((p + (Utf8.decode s p).2 : Nat) : Int) := by
          rw [formV_at hp] at h0 ⊢
          split
          · rename_i hb; rw [if_pos hb] at h0; exact absurd rfl h0
          · rfl
        have ih := dl_bad s n (p + (Utf8.decode s p).2) (by omega)
        rw [hgo]
        refine ⟨ih.1, ?_⟩
        rw [ih.2, List.all_cons, show okR (p, (Utf8.decode s p).1, (Utf8.decode s p).2) = true from ?_, Bool.true_and]
        simp only [okR, Bool.not_eq_true', Bool.and_eq_false_iff, decide_eq_false_iff_not]
        by_cases e : (Utf8.decode s p).1 = 65533
        · exact .inr fun e2 => h0 (hz.2 ⟨e, e2⟩)
        · exact .inl e
    · rw [if_neg (by omega), if_neg hp]
      simp

theorem dec_more {sz sz' p a b c d b' c' d' : Nat} (h : ¬ ((dec sz p a b c d).1 = 65533 ∧ (dec sz p a b c d).2 = 1)) (hb : p + 1 < sz → b' = b) (hc : p + 2 < sz → c' = c) (hd : p + 3 < sz → d' = d) (hs : sz ≤ sz') : dec sz' p a b' c' d' = dec sz p a b c d := by
  unfold dec at *
  by_cases h1 : a < 128
  · rw [if_pos h1, if_pos h1]
  rw [if_neg h1] at h ⊢
  rw [if_neg h1]
  by_cases h2 : a / 32 = 6 ∧ p + 1 < sz ∧ b / 64 = 2
  · obtain rfl := hb h2.2.1
    rw [if_pos h2, if_pos (by omega)]
  rw [if_neg h2] at h ⊢
  by_cases h3 : a / 16 = 14 ∧ p + 1 < sz ∧ b / 64 = 2 ∧ p + 2 < sz ∧ c / 64 = 2
  · obtain rfl := hb h3.2.1
    obtain rfl := hc h3.2.2.2.1
    rw [if_pos h3, if_neg (by omega), if_pos (by omega)]
  rw [if_neg h3] at h ⊢
  by_cases h4 : a / 8 = 30 ∧ p + 1 < sz ∧ b / 64 = 2 ∧ p + 2 < sz ∧ c / 64 = 2 ∧ p + 3 < sz ∧ d / 64 = 2
  · obtain rfl := hb h4.2.1
    obtain rfl := hc h4.2.2.2.1
    obtain rfl := hd h4.2.2.2.2.2.1
    rw [if_pos h4, if_neg (by omega), if_neg (by omega), if_pos (by omega)]
  rw [if_neg h4] at h
  exact absurd ⟨rfl, rfl⟩ h
theorem dec_room (sz p a b c d : Nat) (h : p < sz) : p + (dec sz p a b c d).2 ≤ sz := by
  unfold dec
  repeat' split
  all_goals (simp only; omega)

theorem size_list (s : ByteArray) : s.size = s.data.toList.length := (Array.length_toList).symm
theorem app_data (a b : ByteArray) : (a ++ b).data.toList = a.data.toList ++ b.data.toList := by rw [ByteArray.data_append, Array.toList_append]
theorem app_size (a b : ByteArray) : (a ++ b).size = a.size + b.size := by rw [size_list, app_data, List.length_append, ← size_list, ← size_list]
theorem bt_left {a b : ByteArray} {i : Nat} (h : i < a.size) : bt (a ++ b) i = bt a i := by
  rw [size_list] at h
  rw [bt_getD, bt_getD, app_data, List.getD_eq_getElem?_getD, List.getD_eq_getElem?_getD, List.getElem?_append_left h]
theorem bt_right (a b : ByteArray) (i : Nat) : bt (a ++ b) (a.size + i) = bt b i := by
  rw [bt_getD, bt_getD, app_data, List.getD_eq_getElem?_getD, List.getD_eq_getElem?_getD, size_list a, List.getElem?_append_right (by omega)]
  congr 3
  omega
theorem dec_shift (sz p k a b c d : Nat) : dec (k + sz) (k + p) a b c d = dec sz p a b c d := by
  unfold dec
  have h1 : (k + p + 1 < k + sz) ↔ (p + 1 < sz) := by omega
  have h2 : (k + p + 2 < k + sz) ↔ (p + 2 < sz) := by omega
  have h3 : (k + p + 3 < k + sz) ↔ (p + 3 < sz) := by omega
  simp only [h1, h2, h3]
theorem decode_right (a b : ByteArray) (p : Nat) : Utf8.decode (a ++ b) (a.size + p) = Utf8.decode b p := by
  have b1 := bt_right a b (p + 1)
  have b2 := bt_right a b (p + 2)
  have b3 := bt_right a b (p + 3)
  rw [← Nat.add_assoc] at b1 b2 b3
  rw [decode_eq, decode_eq, app_size, b1, b2, b3, bt_right, dec_shift]
theorem decode_left {a : ByteArray} (b : ByteArray) {p : Nat} (hp : p < a.size) (h : ¬ ((Utf8.decode a p).1 = 65533 ∧ (Utf8.decode a p).2 = 1)) : Utf8.decode (a ++ b) p = Utf8.decode a p := by
  rw [decode_eq] at h
  rw [decode_eq, decode_eq, app_size, bt_left hp]
  exact dec_more h (fun hh => bt_left hh) (fun hh => bt_left hh) (fun hh => bt_left hh) (Nat.le_add_right _ _)
theorem decode_room {s : ByteArray} {p : Nat} (h : p < s.size) : p + (Utf8.decode s p).2 ≤ s.size := by
  rw [decode_eq]
  exact dec_room _ _ _ _ _ _ h

def shR (k : Nat) (x : Nat × Nat × Nat) : Nat × Nat × Nat := (k + x.1, x.2.1, x.2.2)
theorem dl_right (a b : ByteArray) : ∀ (n p : Nat), dl (a ++ b) n (a.size + p) = (dl b n p).map (shR a.size)
  | 0, p => rfl
  | n + 1, p => by
    rw [dl, dl, decode_right, app_size]
    by_cases h : p < b.size
    · rw [if_pos (by omega), if_pos h, List.map_cons, Nat.add_assoc, dl_right a b n]
      rfl
    · rw [if_neg (by omega), if_neg h]
      rfl
theorem dl_app (a b : ByteArray) : ∀ (n p : Nat), p ≤ a.size → a.size ≤ p + n → (dl a n p).all okR = true → dl (a ++ b) (n + b.size) p = dl a n p ++ (dl b b.size 0).map (shR a.size)
  | 0, p, h1, h2, h3 => by
    obtain rfl : p = a.size := by omega
    have := dl_right a b b.size 0
    rw [Nat.add_zero] at this
    rw [Nat.zero_add, this]
    rfl
  | n + 1, p, h1, h2, h3 => by
    by_cases hp : p < a.size
    · rw [dl, if_pos hp] at h3
      rw [show dl a (n + 1) p = (p, (Utf8.decode a p).1, (Utf8.decode a p).2) :: dl a n (p + (Utf8.decode a p).2) by rw [dl, if_pos hp]]
      simp only [List.all_cons, Bool.and_eq_true] at h3
      have hd := decode_left (a := a) b hp (by
        have := h3.1
        simp only [okR, Bool.not_eq_true', Bool.and_eq_false_iff, decide_eq_false_iff_not] at this
        rintro ⟨e1, e2⟩
        rcases this with h | h
        · exact h e1
        · exact h e2)
      have hr := decode_room hp
      have := decode_pos a p
      rw [show n + 1 + b.size = (n + b.size) + 1 by omega, dl, if_pos (by rw [app_size]; omega), hd, dl_app a b n _ hr (by omega) h3.2]
      rfl
    · obtain rfl : p = a.size := by omega
      have h4 : dl (a ++ b) (n + 1 + b.size) a.size = _ := dl_right a b (n + 1 + b.size) 0
      rw [h4, dl_end (s := a) hp, dl_fuel b (n + 1 + b.size) b.size 0 (by omega) (by omega)]
      rfl

/-- All runes of a text. -/
def rl (s : ByteArray) : List (Nat × Nat × Nat) := dl s s.size 0
theorem rl_app {a : ByteArray} (b : ByteArray) (h : (rl a).all okR = true) : rl (a ++ b) = rl a ++ (rl b).map (shR a.size) := by
  unfold rl at *
  rw [dl_fuel (a ++ b) (a ++ b).size (a.size + b.size) 0 (by omega) (by rw [app_size]; omega)]
  exact dl_app a b a.size 0 (by omega) (by omega) h
theorem bad_rl (s : ByteArray) : (badV s s.size 0 = -1 ↔ (rl s).all okR = true) ∧ (badV s s.size 0 < 0 ↔ (rl s).all okR = true) := by
  have := dl_bad s s.size 0 (by omega)
  exact ⟨this.2, this.1.trans this.2⟩
theorem runes_rl (s : ByteArray) : runesV s s.size 0 0 = (rl s).length := by
  have := dl_runes s s.size 0 0 (by omega)
  rw [Int.zero_add] at this
  exact this

theorem ok_shift (k : Nat) (l : List (Nat × Nat × Nat)) : (l.map (shR k)).all okR = l.all okR := by
  rw [List.all_map]
  rfl

theorem dec_bound (sz p a b c d : Nat) : (dec sz p a b c d).1 < 2097152 ∨ (dec sz p a b c d).1 < 4294967296 := by
  unfold dec
  repeat' split
  all_goals (simp only; omega)

theorem bad_ff : badV ⟨#[255]⟩ (ByteArray.size ⟨#[255]⟩) 0 = 0 := by decide +kernel
theorem runes_q : runesV ⟨#[113]⟩ (ByteArray.size ⟨#[113]⟩) 0 0 = 1 := by decide +kernel
end Go.Proofs.YtgnnglfbpcjadaaDoor

/- Which bytes are words; signs. (Written by wip/tools/gen03a.py.) -/
namespace Go.Proofs.YtgnnglfbpcjadaaDoor
open Go.Sx
set_option linter.unusedVariables false
set_option linter.unusedSimpArgs false
set_option maxRecDepth 100000

def wordsL : List (List UInt8) := [[97, 114, 114, 97, 121], [102, 110], [99, 111, 110, 115, 116], [112, 104, 105], [108, 111, 97, 100], [119, 114, 97, 112], [115, 116, 111, 114, 101], [99, 97, 108, 108], [105, 110, 112, 117, 116], [111, 117, 116, 112, 117, 116], [114, 101, 108, 101, 97, 115, 101], [106, 117, 109, 112], [98, 114, 97, 110, 99, 104], [114, 101, 116, 117, 114, 110], [97, 100, 100], [115, 117, 98], [109, 117, 108], [100, 105, 118], [109, 111, 100], [97, 110, 100], [111, 114], [120, 111, 114], [115, 104, 108], [115, 104, 114], [101, 113], [108, 101, 115, 115]]
def wordB (s : ByteArray) : Bool := decide (s.data.toList ∈ wordsL)
theorem word_in {s : ByteArray} {l : List UInt8} (h : s.data.toList = l) (hl : l ∈ wordsL) : wordB s = true := by
  unfold wordB; rw [h]; exact decide_eq_true hl
theorem word_spec (s : ByteArray) : Pure PG 61 [vs s] (vb (wordB s)) [] := by
  refine Proc.mk (cfg 32) tysOK [] Tryd.func61 rfl (by kernel_rfl) rfl rfl rfl ?_
  intro C x
  refine x.cond rfl trivial (fun h => ?_) (fun a0 => ?_)
  · refine x.cond rfl trivial (fun _ => ?_) (fun h2 => ?_)
    · refine x.exit rfl trivial ?_
      refine ⟨.inr rfl, ?_, trivial, rfl⟩
      exact (word_in (of_decide_eq_true h) (l := [97, 114, 114, 97, 121]) (by decide)).symm
    · exact absurd (h.symm.trans h2) (by simp)
  have a0 : ¬ s.data.toList = [97, 114, 114, 97, 121] := of_decide_eq_false a0
  refine x.cond rfl trivial (fun h => ?_) (fun a1 => ?_)
  · refine x.cond rfl trivial (fun _ => ?_) (fun h2 => ?_)
    · refine x.exit rfl trivial ?_
      refine ⟨.inr rfl, ?_, trivial, rfl⟩
      exact (word_in (of_decide_eq_true h) (l := [102, 110]) (by decide)).symm
    · exact absurd (h.symm.trans h2) (by simp)
  have a1 : ¬ s.data.toList = [102, 110] := of_decide_eq_false a1
  refine x.cond rfl trivial (fun h => ?_) (fun a2 => ?_)
  · refine x.cond rfl trivial (fun _ => ?_) (fun h2 => ?_)
    · refine x.exit rfl trivial ?_
      refine ⟨.inr rfl, ?_, trivial, rfl⟩
      exact (word_in (of_decide_eq_true h) (l := [99, 111, 110, 115, 116]) (by decide)).symm
    · exact absurd (h.symm.trans h2) (by simp)
  have a2 : ¬ s.data.toList = [99, 111, 110, 115, 116] := of_decide_eq_false a2
  refine x.cond rfl trivial (fun h => ?_) (fun a3 => ?_)
  · refine x.cond rfl trivial (fun _ => ?_) (fun h2 => ?_)
    · refine x.exit rfl trivial ?_
      refine ⟨.inr rfl, ?_, trivial, rfl⟩
      exact (word_in (of_decide_eq_true h) (l := [112, 104, 105]) (by decide)).symm
    · exact absurd (h.symm.trans h2) (by simp)
  have a3 : ¬ s.data.toList = [112, 104, 105] := of_decide_eq_false a3
  refine x.cond rfl trivial (fun h => ?_) (fun a4 => ?_)
  · refine x.cond rfl trivial (fun _ => ?_) (fun h2 => ?_)
    · refine x.exit rfl trivial ?_
      refine ⟨.inr rfl, ?_, trivial, rfl⟩
      exact (word_in (of_decide_eq_true h) (l := [108, 111, 97, 100]) (by decide)).symm
    · exact absurd (h.symm.trans h2) (by simp)
  have a4 : ¬ s.data.toList = [108, 111, 97, 100] := of_decide_eq_false a4
  refine x.cond rfl trivial (fun h => ?_) (fun a5 => ?_)
  · refine x.cond rfl trivial (fun _ => ?_) (fun h2 => ?_)
    · refine x.exit rfl trivial ?_
      refine ⟨.inr rfl, ?_, trivial, rfl⟩
      exact (word_in (of_decide_eq_true h) (l := [119, 114, 97, 112]) (by decide)).symm
    · exact absurd (h.symm.trans h2) (by simp)
  have a5 : ¬ s.data.toList = [119, 114, 97, 112] := of_decide_eq_false a5
  refine x.cond rfl trivial (fun h => ?_) (fun a6 => ?_)
  · refine x.cond rfl trivial (fun _ => ?_) (fun h2 => ?_)
    · refine x.exit rfl trivial ?_
      refine ⟨.inr rfl, ?_, trivial, rfl⟩
      exact (word_in (of_decide_eq_true h) (l := [115, 116, 111, 114, 101]) (by decide)).symm
    · exact absurd (h.symm.trans h2) (by simp)
  have a6 : ¬ s.data.toList = [115, 116, 111, 114, 101] := of_decide_eq_false a6
  refine x.cond rfl trivial (fun h => ?_) (fun a7 => ?_)
  · refine x.cond rfl trivial (fun _ => ?_) (fun h2 => ?_)
    · refine x.exit rfl trivial ?_
      refine ⟨.inr rfl, ?_, trivial, rfl⟩
      exact (word_in (of_decide_eq_true h) (l := [99, 97, 108, 108]) (by decide)).symm
    · exact absurd (h.symm.trans h2) (by simp)
  have a7 : ¬ s.data.toList = [99, 97, 108, 108] := of_decide_eq_false a7
  refine x.cond rfl trivial (fun h => ?_) (fun a8 => ?_)
  · refine x.cond rfl trivial (fun _ => ?_) (fun h2 => ?_)
    · refine x.exit rfl trivial ?_
      refine ⟨.inr rfl, ?_, trivial, rfl⟩
      exact (word_in (of_decide_eq_true h) (l := [105, 110, 112, 117, 116]) (by decide)).symm
    · exact absurd (h.symm.trans h2) (by simp)
  have a8 : ¬ s.data.toList = [105, 110, 112, 117, 116] := of_decide_eq_false a8
  refine x.cond rfl trivial (fun h => ?_) (fun a9 => ?_)
  · refine x.cond rfl trivial (fun _ => ?_) (fun h2 => ?_)
    · refine x.exit rfl trivial ?_
      refine ⟨.inr rfl, ?_, trivial, rfl⟩
      exact (word_in (of_decide_eq_true h) (l := [111, 117, 116, 112, 117, 116]) (by decide)).symm
    · exact absurd (h.symm.trans h2) (by simp)
  have a9 : ¬ s.data.toList = [111, 117, 116, 112, 117, 116] := of_decide_eq_false a9
  refine x.cond rfl trivial (fun h => ?_) (fun a10 => ?_)
  · refine x.cond rfl trivial (fun _ => ?_) (fun h2 => ?_)
    · refine x.exit rfl trivial ?_
      refine ⟨.inr rfl, ?_, trivial, rfl⟩
      exact (word_in (of_decide_eq_true h) (l := [114, 101, 108, 101, 97, 115, 101]) (by decide)).symm
    · exact absurd (h.symm.trans h2) (by simp)
  have a10 : ¬ s.data.toList = [114, 101, 108, 101, 97, 115, 101] := of_decide_eq_false a10
  refine x.cond rfl trivial (fun h => ?_) (fun a11 => ?_)
  · refine x.cond rfl trivial (fun _ => ?_) (fun h2 => ?_)
    · refine x.exit rfl trivial ?_
      refine ⟨.inr rfl, ?_, trivial, rfl⟩
      exact (word_in (of_decide_eq_true h) (l := [106, 117, 109, 112]) (by decide)).symm
    · exact absurd (h.symm.trans h2) (by simp)
  have a11 : ¬ s.data.toList = [106, 117, 109, 112] := of_decide_eq_false a11
  refine x.cond rfl trivial (fun h => ?_) (fun a12 => ?_)
  · refine x.cond rfl trivial (fun _ => ?_) (fun h2 => ?_)
    · refine x.exit rfl trivial ?_
      refine ⟨.inr rfl, ?_, trivial, rfl⟩
      exact (word_in (of_decide_eq_true h) (l := [98, 114, 97, 110, 99, 104]) (by decide)).symm
    · exact absurd (h.symm.trans h2) (by simp)
  have a12 : ¬ s.data.toList = [98, 114, 97, 110, 99, 104] := of_decide_eq_false a12
  refine x.cond rfl trivial (fun h => ?_) (fun a13 => ?_)
  · refine x.exit rfl trivial ?_
    refine ⟨.inr rfl, ?_, trivial, rfl⟩
    exact (word_in (of_decide_eq_true h) (l := [114, 101, 116, 117, 114, 110]) (by decide)).symm
  have a13 : ¬ s.data.toList = [114, 101, 116, 117, 114, 110] := of_decide_eq_false a13
  refine x.cond rfl trivial (fun h => ?_) (fun b0 => ?_)
  · refine x.cond rfl trivial (fun _ => ?_) (fun h2 => ?_)
    · refine x.exit rfl trivial ?_
      refine ⟨.inr rfl, ?_, trivial, rfl⟩
      exact (word_in (of_decide_eq_true h) (l := [97, 100, 100]) (by decide)).symm
    · exact absurd (h.symm.trans h2) (by simp)
  have b0 : ¬ s.data.toList = [97, 100, 100] := of_decide_eq_false b0
  refine x.cond rfl trivial (fun h => ?_) (fun b1 => ?_)
  · refine x.cond rfl trivial (fun _ => ?_) (fun h2 => ?_)
    · refine x.exit rfl trivial ?_
      refine ⟨.inr rfl, ?_, trivial, rfl⟩
      exact (word_in (of_decide_eq_true h) (l := [115, 117, 98]) (by decide)).symm
    · exact absurd (h.symm.trans h2) (by simp)
  have b1 : ¬ s.data.toList = [115, 117, 98] := of_decide_eq_false b1
  refine x.cond rfl trivial (fun h => ?_) (fun b2 => ?_)
  · refine x.cond rfl trivial (fun _ => ?_) (fun h2 => ?_)
    · refine x.exit rfl trivial ?_
      refine ⟨.inr rfl, ?_, trivial, rfl⟩
      exact (word_in (of_decide_eq_true h) (l := [109, 117, 108]) (by decide)).symm
    · exact absurd (h.symm.trans h2) (by simp)
  have b2 : ¬ s.data.toList = [109, 117, 108] := of_decide_eq_false b2
  refine x.cond rfl trivial (fun h => ?_) (fun b3 => ?_)
  · refine x.cond rfl trivial (fun _ => ?_) (fun h2 => ?_)
    · refine x.exit rfl trivial ?_
      refine ⟨.inr rfl, ?_, trivial, rfl⟩
      exact (word_in (of_decide_eq_true h) (l := [100, 105, 118]) (by decide)).symm
    · exact absurd (h.symm.trans h2) (by simp)
  have b3 : ¬ s.data.toList = [100, 105, 118] := of_decide_eq_false b3
  refine x.cond rfl trivial (fun h => ?_) (fun b4 => ?_)
  · refine x.cond rfl trivial (fun _ => ?_) (fun h2 => ?_)
    · refine x.exit rfl trivial ?_
      refine ⟨.inr rfl, ?_, trivial, rfl⟩
      exact (word_in (of_decide_eq_true h) (l := [109, 111, 100]) (by decide)).symm
    · exact absurd (h.symm.trans h2) (by simp)
  have b4 : ¬ s.data.toList = [109, 111, 100] := of_decide_eq_false b4
  refine x.cond rfl trivial (fun h => ?_) (fun b5 => ?_)
  · refine x.cond rfl trivial (fun _ => ?_) (fun h2 => ?_)
    · refine x.exit rfl trivial ?_
      refine ⟨.inr rfl, ?_, trivial, rfl⟩
      exact (word_in (of_decide_eq_true h) (l := [97, 110, 100]) (by decide)).symm
    · exact absurd (h.symm.trans h2) (by simp)
  have b5 : ¬ s.data.toList = [97, 110, 100] := of_decide_eq_false b5
  refine x.cond rfl trivial (fun h => ?_) (fun b6 => ?_)
  · refine x.cond rfl trivial (fun _ => ?_) (fun h2 => ?_)
    · refine x.exit rfl trivial ?_
      refine ⟨.inr rfl, ?_, trivial, rfl⟩
      exact (word_in (of_decide_eq_true h) (l := [111, 114]) (by decide)).symm
    · exact absurd (h.symm.trans h2) (by simp)
  have b6 : ¬ s.data.toList = [111, 114] := of_decide_eq_false b6
  refine x.cond rfl trivial (fun h => ?_) (fun b7 => ?_)
  · refine x.cond rfl trivial (fun _ => ?_) (fun h2 => ?_)
    · refine x.exit rfl trivial ?_
      refine ⟨.inr rfl, ?_, trivial, rfl⟩
      exact (word_in (of_decide_eq_true h) (l := [120, 111, 114]) (by decide)).symm
    · exact absurd (h.symm.trans h2) (by simp)
  have b7 : ¬ s.data.toList = [120, 111, 114] := of_decide_eq_false b7
  refine x.cond rfl trivial (fun h => ?_) (fun b8 => ?_)
  · refine x.cond rfl trivial (fun _ => ?_) (fun h2 => ?_)
    · refine x.exit rfl trivial ?_
      refine ⟨.inr rfl, ?_, trivial, rfl⟩
      exact (word_in (of_decide_eq_true h) (l := [115, 104, 108]) (by decide)).symm
    · exact absurd (h.symm.trans h2) (by simp)
  have b8 : ¬ s.data.toList = [115, 104, 108] := of_decide_eq_false b8
  refine x.cond rfl trivial (fun h => ?_) (fun b9 => ?_)
  · refine x.cond rfl trivial (fun _ => ?_) (fun h2 => ?_)
    · refine x.exit rfl trivial ?_
      refine ⟨.inr rfl, ?_, trivial, rfl⟩
      exact (word_in (of_decide_eq_true h) (l := [115, 104, 114]) (by decide)).symm
    · exact absurd (h.symm.trans h2) (by simp)
  have b9 : ¬ s.data.toList = [115, 104, 114] := of_decide_eq_false b9
  refine x.cond rfl trivial (fun h => ?_) (fun b10 => ?_)
  · refine x.cond rfl trivial (fun _ => ?_) (fun h2 => ?_)
    · refine x.exit rfl trivial ?_
      refine ⟨.inr rfl, ?_, trivial, rfl⟩
      exact (word_in (of_decide_eq_true h) (l := [101, 113]) (by decide)).symm
    · exact absurd (h.symm.trans h2) (by simp)
  have b10 : ¬ s.data.toList = [101, 113] := of_decide_eq_false b10
  refine x.cond rfl trivial (fun h => ?_) (fun b11 => ?_)
  · refine x.exit rfl trivial ?_
    refine ⟨.inr rfl, ?_, trivial, rfl⟩
    exact (word_in (of_decide_eq_true h) (l := [108, 101, 115, 115]) (by decide)).symm
  have b11 : ¬ s.data.toList = [108, 101, 115, 115] := of_decide_eq_false b11
  refine x.exit rfl trivial ?_
  refine ⟨.inr rfl, ?_, trivial, rfl⟩
  show false = wordB s
  rw [eq_comm]
  unfold wordB wordsL
  rw [decide_eq_false_iff_not]
  simp only [List.mem_cons, List.not_mem_nil, or_false, not_or]
  exact ⟨a0, a1, a2, a3, a4, a5, a6, a7, a8, a9, a10, a11, a12, a13, b0, b1, b2, b3, b4, b5, b6, b7, b8, b9, b10, b11⟩

/-! ### the answer's words -/
def wordStr : List ByteArray := [⟨#[97, 114, 114, 97, 121]⟩, ⟨#[102, 110]⟩, ⟨#[99, 111, 110, 115, 116]⟩, ⟨#[112, 104, 105]⟩, ⟨#[108, 111, 97, 100]⟩, ⟨#[119, 114, 97, 112]⟩, ⟨#[115, 116, 111, 114, 101]⟩, ⟨#[99, 97, 108, 108]⟩, ⟨#[105, 110, 112, 117, 116]⟩, ⟨#[111, 117, 116, 112, 117, 116]⟩, ⟨#[114, 101, 108, 101, 97, 115, 101]⟩, ⟨#[106, 117, 109, 112]⟩, ⟨#[98, 114, 97, 110, 99, 104]⟩, ⟨#[114, 101, 116, 117, 114, 110]⟩, ⟨#[97, 100, 100]⟩, ⟨#[115, 117, 98]⟩, ⟨#[109, 117, 108]⟩, ⟨#[100, 105, 118]⟩, ⟨#[109, 111, 100]⟩, ⟨#[97, 110, 100]⟩, ⟨#[111, 114]⟩, ⟨#[120, 111, 114]⟩, ⟨#[115, 104, 108]⟩, ⟨#[115, 104, 114]⟩, ⟨#[101, 113]⟩, ⟨#[108, 101, 115, 115]⟩]
theorem word_str (s : ByteArray) : wordB s = true ↔ ∃ i, i < 26 ∧ s.data.toList = (wordStr.getD i .empty).data.toList := by
  unfold wordB
  rw [decide_eq_true_eq]
  constructor
  · intro h
    obtain ⟨i, hi, e⟩ := List.getElem_of_mem h
    have hi : i < 26 := hi
    refine ⟨i, hi, ?_⟩
    rw [← e]
    have : ∀ i, (h : i < wordsL.length) → wordsL[i] = (wordStr.getD i .empty).data.toList := by decide
    exact this i hi
  · rintro ⟨i, hi, e⟩
    rw [e]
    have : ∀ i, i < 26 → (wordStr.getD i .empty).data.toList ∈ wordsL := by decide
    exact this i hi
theorem tab_map (l : List ByteArray) (h : l.length ≠ 1) {i : Nat} (hi : i < l.length) : tab (l.map fun w => [D.str w]) i = [D.str (l.getD i .empty)] := by
  match l, h with
  | [], _ => exact absurd hi (Nat.not_lt_zero _)
  | [_], h => exact absurd rfl h
  | a :: b :: r, _ =>
    show ((a :: b :: r).map fun w => [D.str w]).getD i [] = _
    rw [List.getD_eq_getElem?_getD, List.getElem?_map, List.getElem?_eq_getElem hi, List.getD_eq_getElem?_getD, List.getElem?_eq_getElem hi]; rfl

/-! ### signs, digits -/
def signB (c : Nat) : Bool := (((((((decide (c = 40) || decide (c = 41)) || decide (c = 123)) || decide (c = 125)) || decide (c = 91)) || decide (c = 93)) || decide (c = 44)) || decide (c = 58)) || decide (c = 61)
theorem dec_nat (c k : Nat) : decide ((c : Int) = (k : Int)) = decide (c = k) := by
  rw [Bool.eq_iff_iff, decide_eq_true_eq, decide_eq_true_eq]; omega
def digAt (s : ByteArray) (p : Nat) : Bool := decide (p < s.size) && (decide (48 ≤ bt s p) && decide (bt s p ≤ 57))
theorem idx_some {c : UInt8} : ∀ {l : List UInt8}, 0 ≤ Lib.indexByte l c → (Lib.indexByte l c).toNat < l.length ∧ l.getD (Lib.indexByte l c).toNat 0 = c ∧ ∀ j, j < (Lib.indexByte l c).toNat → l.getD j 0 ≠ c
  | [], h => by exact absurd h (by unfold Lib.indexByte; omega)
  | b :: l, h => by
    unfold Lib.indexByte at h ⊢
    split at h
    · rename_i hb
      rw [if_pos hb]
      refine ⟨by simp, by simpa using hb, fun j hj => absurd hj (Nat.not_lt_zero _)⟩
    · rename_i hb
      rw [if_neg hb]
      split at h
      · omega
      · rename_i h2
        rw [if_neg h2]
        have hge := Lib.indexByte_ge l c
        have h2 : ¬ Lib.indexByte l c = -1 := by simpa using h2
        obtain ⟨h3, h4, h5⟩ := idx_some (l := l) (c := c) (by omega)
        have e : (Lib.indexByte l c + 1).toNat = (Lib.indexByte l c).toNat + 1 := by omega
        rw [e]
        refine ⟨by simpa using h3, by simpa using h4, fun j hj => ?_⟩
        match j with
        | 0 => simpa using hb
        | j + 1 => simpa using h5 j (by omega)
theorem idx_none {c : UInt8} : ∀ {l : List UInt8}, Lib.indexByte l c < 0 → ∀ j, j < l.length → l.getD j 0 ≠ c
  | [], h, j, hj => absurd hj (Nat.not_lt_zero _)
  | b :: l, h, j, hj => by
    unfold Lib.indexByte at h
    split at h
    · omega
    · rename_i hb
      split at h
      · rename_i h2
        have h2 : Lib.indexByte l c = -1 := by simpa using h2
        match j with
        | 0 => simpa using hb
        | j + 1 => simpa using idx_none (l := l) (c := c) (by omega) j (by simpa using hj)
      · have hge := Lib.indexByte_ge l c
        rename_i h2
        have h2 : ¬ Lib.indexByte l c = -1 := by simpa using h2
        omega
end Go.Proofs.YtgnnglfbpcjadaaDoor

/- Policies: the program's own: where a name stands in a list. -/
namespace Go.Proofs.YtgnnglfbpcjadaaDoor
open Go.Sx
set_option linter.unusedVariables false
set_option linter.unusedSimpArgs false
set_option maxRecDepth 100000

/-- Texts, as data. -/
def dSs (l : List ByteArray) : D := .sl 1 l.length fun i => [.str (l.getD i .empty)]
/-- Channels: a name and a level's number. -/
abbrev Chan := ByteArray × Int
def chan0 : Chan := (.empty, 0)
def dChs (l : List Chan) : D := .sl 2 l.length fun i => [.str (l.getD i chan0).1, .int .i64 (l.getD i chan0).2]
abbrev vSs (l : List ByteArray) : V := .d (dSs l)
abbrev vChs (l : List Chan) : V := .d (dChs l)

/-- The first place at which this holds; -1: there is none. -/
def idxF (p : Nat → Bool) : Nat → Nat → Int
  | 0, _ => -1
  | n + 1, i => if p i then (i : Int) else idxF p n (i + 1)
theorem idxF_range {p : Nat → Bool} : ∀ {n i : Nat}, idxF p n i = -1 ∨ ((i : Int) ≤ idxF p n i ∧ idxF p n i < (i : Int) + n)
  | 0, _ => .inl rfl
  | n + 1, i => by
    rw [idxF]
    split
    · right; omega
    · rcases idxF_range (p := p) (n := n) (i := i + 1) with h | h
      · exact .inl h
      · right; omega
def idxS (l : List ByteArray) (s : ByteArray) : Int := idxF (fun i => decide ((l.getD i .empty).data.toList = s.data.toList)) l.length 0
def idxC (l : List Chan) (s : ByteArray) : Int := idxF (fun i => decide ((l.getD i chan0).1.data.toList = s.data.toList)) l.length 0

theorem itself_spec (s : ByteArray) : Pure PG 59 [vs s] (vs s) [] := by
  refine Proc.mk (cfg 4) tysOK [] Tryd.func59 rfl (by kernel_rfl) rfl rfl rfl ?_
  intro C x
  exact x.exit rfl trivial ⟨.inr rfl, rfl, trivial, rfl⟩
theorem called_spec (s : ByteArray) (k : Int) : Pure PG 63 [.agg [vs s, vi k]] (vs s) [] := by
  refine Proc.mk (cfg 5) tysOK [] Tryd.func63 rfl (by kernel_rfl) rfl rfl rfl ?_
  intro C x
  exact x.exit rfl trivial ⟨.inr rfl, rfl, trivial, rfl⟩

abbrev findH (f : Nat) (s : ByteArray) : List Ch := [.box [.fn f []], .box [vs s]]
theorem isS_spec (t s : ByteArray) : Proc PG 81 2 [vs t, .ptr 0 0, .ptr 1 0] (findH 59 s) (vb (decide (t.data.toList = s.data.toList))) (findH 59 s) := by
  refine Proc.mk (cfgF 10 2) tysOK [0, 1] Tryd.func81 rfl (by kernel_rfl) rfl rfl rfl ?_
  intro C x
  refine x.quiet rfl trivial mixedP (by kernel_rfl) ?_
  refine x.qcall rfl trivial rfl (itself_spec t) rfl rfl ⟨rfl, trivial⟩ ?_
  refine x.qdone rfl trivial ?_
  exact x.exit rfl trivial ⟨.inr rfl, rfl, ⟨⟨rfl, trivial⟩, ⟨rfl, trivial⟩, trivial⟩, rfl⟩
theorem isC_spec (c : Chan) (s : ByteArray) : Proc PG 84 2 [.agg [vs c.1, vi c.2], .ptr 0 0, .ptr 1 0] (findH 63 s) (vb (decide (c.1.data.toList = s.data.toList))) (findH 63 s) := by
  refine Proc.mk (cfgF 10 2) tysOK [0, 1] Tryd.func84 rfl (by kernel_rfl) rfl rfl rfl ?_
  intro C x
  refine x.quiet rfl trivial mixedP (by kernel_rfl) ?_
  refine x.qcall rfl trivial rfl (called_spec c.1 c.2) rfl rfl ⟨⟨rfl, rfl, trivial⟩, trivial⟩ ?_
  refine x.qdone rfl trivial ?_
  exact x.exit rfl trivial ⟨.inr rfl, rfl, ⟨⟨rfl, trivial⟩, ⟨rfl, trivial⟩, trivial⟩, rfl⟩

theorem indexS_spec (l : List ByteArray) (s : ByteArray) (hl : inI64 (l.length : Int)) : Proc PG 80 2 [vSs l, .fn 81 [.ptr 0 0, .ptr 1 0]] (findH 59 s) (vi (idxS l s)) (findH 59 s) := by
  refine Proc.mk (cfgF 19 2) tysOK [0, 1] Tryd.func80 rfl (by kernel_rfl) rfl rfl rfl ?_
  intro C x
  unfold inI64 at hl
  refine x.loop (α := { i : Nat // i ≤ l.length ∧ idxF (fun i => decide ((l.getD i .empty).data.toList = s.data.toList)) (l.length - i) i = idxS l s }) (fun y => ⟨[(0, vSs l), (1, .fn 81 [.ptr 0 0, .ptr 1 0]), (7, vi (l.length : Int)), (8, vi (y.1 : Int))], [(0, .box [.fn 59 []]), (1, .box [vs s])], 2⟩) (fun y => l.length - y.1) ⟨0, by omega, rfl⟩ rfl trivial ?_ (fun y => ?_)
  · exact ⟨⟨veq_d rfl, rfl, rfl, rfl, trivial⟩, ⟨⟨rfl, trivial⟩, ⟨rfl, trivial⟩, trivial⟩, rfl⟩
  obtain ⟨i, hi, hsame⟩ := y
  change Go C _ ⟨[(0, vSs l), (1, .fn 81 [.ptr 0 0, .ptr 1 0]), (7, vi (l.length : Int)), (8, vi (i : Int))], [(0, .box [.fn 59 []]), (1, .box [vs s])], 2⟩ _
  refine x.cond rfl trivial (fun h1 => ?_) (fun h1 => ?_)
  · have h1 : i < l.length := by have := of_decide_eq_true h1; omega
    rw [show l.length - i = (l.length - (i + 1)) + 1 by omega, idxF] at hsame
    refine x.call [0, 1] rfl ?_ rfl (isS_spec (l.getD i .empty) s) rfl ⟨rfl, ⟨rfl, rfl⟩, ⟨rfl, rfl⟩, trivial⟩ ⟨⟨rfl, trivial⟩, ⟨rfl, trivial⟩, trivial⟩ ?_
    · simp only [AllP]; omega
    refine x.cond rfl trivial (fun h2 => ?_) (fun h2 => ?_)
    · rw [if_pos h2] at hsame
      refine x.exit rfl trivial ⟨.inr rfl, ?_, ⟨⟨rfl, trivial⟩, ⟨rfl, trivial⟩, trivial⟩, rfl⟩
      show VEq0 (vi (i : Int)) (vi (idxS l s))
      rw [hsame]; exact rfl
    · rw [if_neg (by rw [h2]; simp)] at hsame
      refine x.back rfl ?_ ⟨⟨i + 1, by omega, hsame⟩, by show l.length - (i + 1) < l.length - i; omega, ⟨veq_d rfl, rfl, rfl, (show VEq0 (vi ((i : Int) + 1)) (vi ((i + 1 : Nat) : Int)) by rw [Int.natCast_add]; rfl), trivial⟩, ⟨⟨rfl, trivial⟩, ⟨rfl, trivial⟩, trivial⟩, rfl⟩
      simp only [AllP, inI64]; omega
  · have h1 : i = l.length := by have := of_decide_eq_false h1; omega
    refine x.exit rfl trivial ⟨.inr rfl, ?_, ⟨⟨rfl, trivial⟩, ⟨rfl, trivial⟩, trivial⟩, rfl⟩
    show VEq0 (vi (-1)) (vi (idxS l s))
    rw [← hsame, show l.length - i = 0 by omega]; exact rfl
theorem indexC_spec (l : List Chan) (s : ByteArray) (hl : inI64 (l.length : Int)) : Proc PG 83 2 [vChs l, .fn 84 [.ptr 0 0, .ptr 1 0]] (findH 63 s) (vi (idxC l s)) (findH 63 s) := by
  refine Proc.mk (cfgF 19 2) tysOK [0, 1] Tryd.func83 rfl (by kernel_rfl) rfl rfl rfl ?_
  intro C x
  unfold inI64 at hl
  refine x.loop (α := { i : Nat // i ≤ l.length ∧ idxF (fun i => decide ((l.getD i chan0).1.data.toList = s.data.toList)) (l.length - i) i = idxC l s }) (fun y => ⟨[(0, vChs l), (1, .fn 84 [.ptr 0 0, .ptr 1 0]), (7, vi (l.length : Int)), (8, vi (y.1 : Int))], [(0, .box [.fn 63 []]), (1, .box [vs s])], 2⟩) (fun y => l.length - y.1) ⟨0, by omega, rfl⟩ rfl trivial ?_ (fun y => ?_)
  · exact ⟨⟨veq_d rfl, rfl, rfl, rfl, trivial⟩, ⟨⟨rfl, trivial⟩, ⟨rfl, trivial⟩, trivial⟩, rfl⟩
  obtain ⟨i, hi, hsame⟩ := y
  change Go C _ ⟨[(0, vChs l), (1, .fn 84 [.ptr 0 0, .ptr 1 0]), (7, vi (l.length : Int)), (8, vi (i : Int))], [(0, .box [.fn 63 []]), (1, .box [vs s])], 2⟩ _
  refine x.cond rfl trivial (fun h1 => ?_) (fun h1 => ?_)
  · have h1 : i < l.length := by have := of_decide_eq_true h1; omega
    rw [show l.length - i = (l.length - (i + 1)) + 1 by omega, idxF] at hsame
    refine x.call [0, 1] rfl ?_ rfl (isC_spec (l.getD i chan0) s) rfl ⟨⟨rfl, rfl, trivial⟩, ⟨rfl, rfl⟩, ⟨rfl, rfl⟩, trivial⟩ ⟨⟨rfl, trivial⟩, ⟨rfl, trivial⟩, trivial⟩ ?_
    · simp only [AllP]; omega
    refine x.cond rfl trivial (fun h2 => ?_) (fun h2 => ?_)
    · rw [if_pos h2] at hsame
      refine x.exit rfl trivial ⟨.inr rfl, ?_, ⟨⟨rfl, trivial⟩, ⟨rfl, trivial⟩, trivial⟩, rfl⟩
      show VEq0 (vi (i : Int)) (vi (idxC l s))
      rw [hsame]; exact rfl
    · rw [if_neg (by rw [h2]; simp)] at hsame
      refine x.back rfl ?_ ⟨⟨i + 1, by omega, hsame⟩, by show l.length - (i + 1) < l.length - i; omega, ⟨veq_d rfl, rfl, rfl, (show VEq0 (vi ((i : Int) + 1)) (vi ((i + 1 : Nat) : Int)) by rw [Int.natCast_add]; rfl), trivial⟩, ⟨⟨rfl, trivial⟩, ⟨rfl, trivial⟩, trivial⟩, rfl⟩
      simp only [AllP, inI64]; omega
  · have h1 : i = l.length := by have := of_decide_eq_false h1; omega
    refine x.exit rfl trivial ⟨.inr rfl, ?_, ⟨⟨rfl, trivial⟩, ⟨rfl, trivial⟩, trivial⟩, rfl⟩
    show VEq0 (vi (-1)) (vi (idxC l s))
    rw [← hsame, show l.length - i = 0 by omega]; exact rfl

/-- What was found: where, and whether. -/
def foundV (k : Int) : V := .tup [vi (if 0 > k then 0 else k), vb (decide (0 ≤ k))]
theorem findS_spec (l : List ByteArray) (s : ByteArray) (hl : inI64 (l.length : Int)) : Pure PG 58 [vSs l, .fn 59 [], vs s] (foundV (idxS l s)) [] := by
  refine Proc.mk (cfg 16) tysOK [] Tryd.func58 rfl (by kernel_rfl) rfl rfl rfl ?_
  intro C x
  refine x.call [0, 1] rfl trivial rfl (indexS_spec l s hl) rfl ⟨veq_d rfl, rfl, trivial⟩ ⟨⟨rfl, trivial⟩, ⟨rfl, trivial⟩, trivial⟩ ?_
  exact x.exit rfl trivial ⟨.inr rfl, ⟨rfl, rfl, trivial⟩, trivial, rfl⟩
theorem findC_spec (l : List Chan) (s : ByteArray) (hl : inI64 (l.length : Int)) : Pure PG 62 [vChs l, .fn 63 [], vs s] (foundV (idxC l s)) [] := by
  refine Proc.mk (cfg 16) tysOK [] Tryd.func62 rfl (by kernel_rfl) rfl rfl rfl ?_
  intro C x
  refine x.call [0, 1] rfl trivial rfl (indexC_spec l s hl) rfl ⟨veq_d rfl, rfl, trivial⟩ ⟨⟨rfl, trivial⟩, ⟨rfl, trivial⟩, trivial⟩ ?_
  exact x.exit rfl trivial ⟨.inr rfl, ⟨rfl, rfl, trivial⟩, trivial, rfl⟩

theorem level_spec (l : List ByteArray) (s : ByteArray) (hl : inI64 (l.length : Int)) : Pure PG 44 [.agg [vSs l, .dead, .dead, .dead, .dead], vs s] (foundV (idxS l s)) [] := by
  refine Proc.mk (cfg 12) tysOK [] Tryd.func44 rfl (by kernel_rfl) rfl rfl rfl ?_
  intro C x
  refine x.pure rfl trivial rfl (findS_spec l s hl) ⟨veq_d rfl, rfl, rfl, trivial⟩ ?_
  exact x.exit rfl trivial ⟨.inr rfl, ⟨rfl, rfl, trivial⟩, trivial, rfl⟩

def nameB (s : ByteArray) : Bool := nameW s s.size 0 0 && !wordB s
theorem name6_spec (s : ByteArray) (hs : s.size ≤ 9223372036854775807) : Pure PG 45 [vs s] (vb (nameB s)) [] := by
  refine Proc.mk (cfg 10) tysOK [] Tryd.func45 rfl (by kernel_rfl) rfl rfl rfl ?_
  intro C x
  refine x.pure rfl trivial rfl (name_spec s hs) ⟨rfl, trivial⟩ ?_
  refine x.pureG rfl trivial rfl (fun _ => word_spec s) rfl ⟨rfl, trivial⟩ ?_
  exact x.exit rfl trivial ⟨.inr rfl, rfl, trivial, rfl⟩
end Go.Proofs.YtgnnglfbpcjadaaDoor

/- Plain facts: sets of small numbers as vectors of 64 bits. -/
namespace Go.Proofs.YtgnnglfbpcjadaaDoor
open Go.Sx
set_option linter.unusedVariables false
set_option linter.unusedSimpArgs false
set_option maxRecDepth 100000

abbrev M64 := BitVec 64
/-- A set, as data. -/
abbrev dm (x : M64) : D := .int .u64 (x.toNat : Int)
abbrev vm (x : M64) : V := .d (dm x)

theorem wrap_u64 (n : Int) : IntKind.u64.wrap n = n % 18446744073709551616 := rfl
theorem wrap_nat {n : Nat} (h : n < 18446744073709551616) : IntKind.u64.wrap (n : Int) = n := by
  rw [wrap_u64]; omega
theorem toNat_lt (x : M64) : x.toNat < 18446744073709551616 := x.isLt
theorem ofInt_m (x : M64) : BitVec.ofInt IntKind.u64.bits (x.toNat : Int) = x := by
  show BitVec.ofInt 64 (x.toNat : Int) = x
  apply BitVec.eq_of_toNat_eq
  rw [BitVec.toNat_ofInt]
  have := toNat_lt x
  show ((x.toNat : Int) % ((2 ^ 64 : Nat) : Int)).toNat = x.toNat
  omega
theorem and_m (x y : M64) : bitI .and .u64 (x.toNat : Int) (y.toNat : Int) = ((x &&& y).toNat : Int) := by
  unfold bitI
  simp only [ofInt_m]
  exact wrap_nat (toNat_lt _)
theorem or_m (x y : M64) : bitI .or .u64 (x.toNat : Int) (y.toNat : Int) = ((x ||| y).toNat : Int) := by
  unfold bitI
  simp only [ofInt_m]
  exact wrap_nat (toNat_lt _)
theorem andNot_m (x y : M64) : bitI .andNot .u64 (x.toNat : Int) (y.toNat : Int) = ((x &&& ~~~y).toNat : Int) := by
  unfold bitI
  simp only [ofInt_m]
  exact wrap_nat (toNat_lt _)
theorem sub1_m (x : M64) : IntKind.u64.wrap ((x.toNat : Int) - 1) = ((x - 1#64).toNat : Int) := by
  rw [wrap_u64, BitVec.toNat_sub]
  have := toNat_lt x
  show ((x.toNat : Int) - 1) % 18446744073709551616 = (((2 ^ 64 - 1 + x.toNat) % 2 ^ 64 : Nat) : Int)
  omega
theorem neg_m (x : M64) : IntKind.u64.wrap (0 - (x.toNat : Int)) = ((-x).toNat : Int) := by
  rw [wrap_u64, BitVec.toNat_neg]
  have := toNat_lt x
  show (0 - (x.toNat : Int)) % 18446744073709551616 = (((2 ^ 64 - x.toNat) % 2 ^ 64 : Nat) : Int)
  omega
theorem mul_m (x y : M64) : IntKind.u64.wrap ((x.toNat : Int) * (y.toNat : Int)) = ((x * y).toNat : Int) := by
  rw [wrap_u64, BitVec.toNat_mul]
  show ((x.toNat : Int) * (y.toNat : Int)) % 18446744073709551616 = (((x.toNat * y.toNat) % 2 ^ 64 : Nat) : Int)
  rw [Int.natCast_emod, Int.natCast_mul]
  rfl
theorem shl_m {i : Nat} (hi : i < 64) : IntKind.u64.wrap (1 * 2 ^ (min ((i : Int)).toNat IntKind.u64.bits)) = ((1#64 <<< i).toNat : Int) := by
  rw [wrap_u64, BitVec.toNat_shiftLeft]
  have e : min ((i : Int)).toNat IntKind.u64.bits = i := by
    show min i 64 = i
    omega
  rw [e, Int.one_mul]
  show (2 : Int) ^ i % 18446744073709551616 = (((1 <<< i) % 2 ^ 64 : Nat) : Int)
  rw [Nat.shiftLeft_eq, Nat.one_mul, Int.natCast_emod, Int.natCast_pow]
  rfl
theorem shr_m (x : M64) {i : Nat} (hi : i < 64) : ((x.toNat : Int)).fdiv (2 ^ (min ((i : Int)).toNat IntKind.u64.bits)) = ((x >>> i).toNat : Int) := by
  rw [BitVec.toNat_ushiftRight]
  have e : min ((i : Int)).toNat IntKind.u64.bits = i := by
    show min i 64 = i
    omega
  rw [e, Nat.shiftRight_eq_div_pow, Int.fdiv_eq_ediv_of_nonneg _ (Int.pow_nonneg (by omega)), Int.natCast_ediv, Int.natCast_pow]
  rfl

/-- Bit i. -/
abbrev bit (x : M64) (i : Nat) : Bool := x.getLsbD i
theorem m_ext {x y : M64} (h : ∀ i, i < 64 → bit x i = bit y i) : x = y := BitVec.eq_of_getLsbD_eq h
theorem bit_ge (x : M64) {i : Nat} (h : 64 ≤ i) : bit x i = false := BitVec.getLsbD_of_ge x i h
/-- One bit alone. -/
def one (i : Nat) : M64 := 1#64 <<< i
theorem bit_one {i j : Nat} (hi : i < 64) : bit (one i) j = decide (j = i) := by
  unfold bit one
  rw [BitVec.getLsbD_shiftLeft]
  by_cases h : j = i
  · subst h; simp [hi]
  · by_cases h2 : j < i
    · simp [h, h2]
    · have : 0 < j - i := by omega
      by_cases h3 : j < 64
      · simp [h, h2, h3, BitVec.getLsbD_one]; omega
      · simp [h, h3]
theorem bit_and (x y : M64) (i : Nat) : bit (x &&& y) i = (bit x i && bit y i) := BitVec.getLsbD_and
theorem bit_or (x y : M64) (i : Nat) : bit (x ||| y) i = (bit x i || bit y i) := BitVec.getLsbD_or
theorem bit_andNot (x y : M64) {i : Nat} : bit (x &&& ~~~y) i = (bit x i && !bit y i) := by
  unfold bit
  rw [BitVec.getLsbD_and, BitVec.getLsbD_not]
  by_cases h : i < 64
  · simp [h]
  · rw [BitVec.getLsbD_of_ge x i (by omega)]; rfl
theorem m_zero {x : M64} : x = 0#64 ↔ ∀ i, i < 64 → bit x i = false := by
  constructor
  · rintro rfl i _; exact BitVec.getLsbD_zero
  · intro h; exact m_ext fun i hi => by rw [h i hi]; exact BitVec.getLsbD_zero.symm
theorem toNat_zero_iff {x : M64} : ((x.toNat : Int) = 0) ↔ x = 0#64 := by
  constructor
  · intro h; apply BitVec.eq_of_toNat_eq; show x.toNat = 0; omega
  · rintro rfl; rfl
theorem has_shift (x : M64) {i : Nat} : decide ((((x >>> i) &&& 1#64).toNat : Int) = 1) = bit x i := by
  have h : ((x >>> i) &&& 1#64).toNat = if bit x i then 1 else 0 := by
    have e : (x >>> i) &&& 1#64 = if bit x i then 1#64 else 0#64 := by
      apply BitVec.eq_of_getLsbD_eq
      intro j hj
      rw [BitVec.getLsbD_and, BitVec.getLsbD_ushiftRight, BitVec.getLsbD_one]
      unfold bit
      by_cases h0 : j = 0
      · subst h0; cases hb : x.getLsbD i <;> simp [hb]
      · cases hb : x.getLsbD i <;> simp [h0, BitVec.getLsbD_one]
    rw [e]; split <;> rfl
  rw [h]
  cases bit x i <;> rfl

/-- The least member; 64: there is none. -/
def tz (x : M64) : Nat := ((List.range 64).find? fun i => bit x i).getD 64
/-- The members, in order. -/
def bits (x : M64) : List Nat := (List.range 64).filter fun i => bit x i
theorem mem_bits {x : M64} {i : Nat} : i ∈ bits x ↔ bit x i = true := by
  unfold bits
  rw [List.mem_filter, List.mem_range]
  constructor
  · exact fun h => h.2
  · intro h
    refine ⟨?_, h⟩
    by_cases hi : i < 64
    · exact hi
    · rw [bit_ge x (by omega)] at h; cases h
theorem find_range {p : Nat → Bool} : ∀ {n k : Nat}, (List.range n).find? p = some k ↔ k < n ∧ p k = true ∧ ∀ j, j < k → p j = false := by
  intro n k
  rw [List.find?_range_eq_some]
  simp only [List.mem_range, Bool.not_eq_true', Bool.not_eq_eq_eq_not, Bool.not_true]
  constructor
  · rintro ⟨h1, h2, h3⟩; exact ⟨h2, h1, h3⟩
  · rintro ⟨h1, h2, h3⟩; exact ⟨h2, h1, h3⟩
theorem tz_spec {x : M64} (h : x ≠ 0#64) : tz x < 64 ∧ bit x (tz x) = true ∧ ∀ j, j < tz x → bit x j = false := by
  have hex : ∃ k, (List.range 64).find? (fun i => bit x i) = some k := by
    cases hf : (List.range 64).find? (fun i => bit x i) with
    | some k => exact ⟨k, rfl⟩
    | none =>
      exfalso
      rw [List.find?_eq_none] at hf
      refine h (m_zero.2 fun i hi => ?_)
      have := hf i (List.mem_range.2 hi)
      simpa using this
  obtain ⟨k, hk⟩ := hex
  have e : tz x = k := by unfold tz; rw [hk]; rfl
  rw [e]
  exact find_range.1 hk

/-- A number that is not nothing: its least bit, and what lies above. -/
theorem split_low {x : M64} (h : x ≠ 0#64) : ∃ q, x.toNat = 2 ^ (tz x + 1) * q + 2 ^ tz x := by
  obtain ⟨h1, h2, h3⟩ := tz_spec h
  generalize hk : tz x = k at *
  refine ⟨x.toNat / 2 ^ (k + 1), ?_⟩
  have hmod : x.toNat % 2 ^ (k + 1) = 2 ^ k := by
    apply Nat.eq_of_testBit_eq
    intro j
    rw [Nat.testBit_mod_two_pow, Nat.testBit_two_pow]
    by_cases hj : j < k + 1
    · simp only [hj, decide_true, Bool.true_and]
      by_cases hjk : k = j
      · subst hjk; simp only [decide_true]; exact h2
      · have : j < k := by omega
        simp only [hjk, decide_false]
        exact h3 j this
    · have : ¬ k = j := by omega
      simp [hj, this]
  have := Nat.div_add_mod x.toNat (2 ^ (k + 1))
  omega
theorem bit_sub1 {x : M64} (h : x ≠ 0#64) {i : Nat} (hi : i < 64) : bit (x - 1#64) i = if i < tz x then true else if i = tz x then false else bit x i := by
  obtain ⟨q, hq⟩ := split_low h
  obtain ⟨h1, h2, h3⟩ := tz_spec h
  generalize hk : tz x = k at *
  have hpos : 0 < 2 ^ k := Nat.two_pow_pos k
  have e : (x - 1#64).toNat = 2 ^ (k + 1) * q + (2 ^ k - 1) := by
    rw [BitVec.toNat_sub]
    have hx := toNat_lt x
    show (2 ^ 64 - 1 + x.toNat) % 2 ^ 64 = _
    omega
  have hlt : 2 ^ k - 1 < 2 ^ (k + 1) := by rw [Nat.pow_succ]; omega
  have hlt2 : 2 ^ k < 2 ^ (k + 1) := by rw [Nat.pow_succ]; omega
  show (x - 1#64).toNat.testBit i = if i < k then true else if i = k then false else x.toNat.testBit i
  rw [e, hq, Nat.testBit_two_pow_mul_add _ hlt, Nat.testBit_two_pow_mul_add _ hlt2, Nat.testBit_two_pow_sub_one, Nat.testBit_two_pow]
  by_cases c1 : i < k
  · simp [c1, show i < k + 1 by omega]
  · by_cases c2 : i = k
    · subst c2; simp
    · simp [c1, c2, show ¬ i < k + 1 by omega]
/-- Without its least member. -/
theorem bit_rest {x : M64} (h : x ≠ 0#64) {i : Nat} (hi : i < 64) : bit (x &&& (x - 1#64)) i = (bit x i && !decide (i = tz x)) := by
  rw [bit_and, bit_sub1 h hi]
  obtain ⟨h1, h2, h3⟩ := tz_spec h
  by_cases c1 : i < tz x
  · rw [h3 i c1]; rfl
  · by_cases c2 : i = tz x
    · simp [c2]
    · simp [c1, c2]
theorem low_one {x : M64} (h : x ≠ 0#64) : x &&& (-x) = one (tz x) := by
  obtain ⟨h1, h2, h3⟩ := tz_spec h
  have e : -x = ~~~(x - 1#64) := by
    have := BitVec.neg_eq_not_add x
    apply BitVec.eq_of_toNat_eq
    rw [BitVec.toNat_neg, BitVec.toNat_not, BitVec.toNat_sub]
    have hx := toNat_lt x
    have h0 : x.toNat ≠ 0 := fun h0 => h (by apply BitVec.eq_of_toNat_eq; exact h0)
    show (2 ^ 64 - x.toNat) % 2 ^ 64 = 2 ^ 64 - 1 - (2 ^ 64 - 1 + x.toNat) % 2 ^ 64
    omega
  rw [e]
  refine m_ext fun i hi => ?_
  rw [bit_andNot, bit_sub1 h hi, bit_one h1]
  by_cases c1 : i < tz x
  · rw [h3 i c1]; simp; omega
  · by_cases c2 : i = tz x
    · rw [c2, h2]; simp
    · simp [c1, c2]
/-- What the loop over a set does. -/
theorem bits_step {x : M64} (h : x ≠ 0#64) : bits x = tz x :: bits (x &&& (x - 1#64)) := by
  obtain ⟨h1, h2, h3⟩ := tz_spec h
  have e : List.range 64 = List.range (tz x) ++ tz x :: (List.range (63 - tz x)).map (fun i => tz x + 1 + i) := by
    have : List.range 64 = List.range (tz x + (1 + (63 - tz x))) := by congr 1; omega
    rw [this, List.range_add, List.range_add]
    simp [List.range_succ, List.map_map]
    intro a _
    omega
  unfold bits
  have f : ∀ (p : Nat → Bool), (∀ j, j < tz x → p j = false) → (List.range (tz x)).filter p = [] := fun p hp => List.filter_eq_nil_iff.2 fun j hj => by rw [hp j (List.mem_range.1 hj)]; simp
  rw [e, List.filter_append, List.filter_append, f _ h3, f (fun i => bit (x &&& (x - 1#64)) i) (fun j hj => by rw [bit_rest h (by omega), h3 j hj]; rfl), List.nil_append, List.nil_append, List.filter_cons_of_pos h2, List.filter_cons_of_neg (by rw [bit_rest h h1]; simp)]
  congr 1
  refine List.filter_congr fun j hj => ?_
  obtain ⟨k, hk, rfl⟩ := List.mem_map.1 hj
  have := List.mem_range.1 hk
  rw [bit_rest h (by omega)]
  simp; omega
theorem bits_zero : bits 0#64 = [] := List.filter_eq_nil_iff.2 fun j _ => by simp [bit]
theorem bits_lt {x : M64} {i : Nat} (h : i ∈ bits x) : i < 64 := List.mem_range.1 (List.mem_filter.1 h).1
theorem bits_len (x : M64) : (bits x).length ≤ 64 := by
  have := List.length_filter_le (fun i => bit x i) (List.range 64)
  simpa [bits] using this
theorem bits_nodup (x : M64) : (bits x).Nodup := List.nodup_range.filter _
theorem bits_nil {x : M64} (h : bits x = []) : x = 0#64 := by
  by_cases h0 : x = 0#64
  · exact h0
  · rw [bits_step h0] at h; cases h
end Go.Proofs.YtgnnglfbpcjadaaDoor

/- Plain facts: orders of at most 64 levels as lists of sets (those at or above each level). -/
namespace Go.Proofs.YtgnnglfbpcjadaaDoor
open Go.Sx
set_option linter.unusedVariables false
set_option linter.unusedSimpArgs false
set_option maxRecDepth 100000

def upA (up : List M64) (i : Nat) : M64 := up.getD i 0#64
def dUp (up : List M64) : D := .sl 1 up.length (fun i => [dm (upA up i)])
abbrev vU (up : List M64) : V := .d (dUp up)
/-- All members are levels. -/
def InU (n : Nat) (m : M64) : Prop := ∀ i, bit m i = true → i < n

/-- A set from a test. -/
def ofPn (p : Nat → Bool) : Nat → M64
  | 0 => 0#64
  | n + 1 => ofPn p n ||| (if p n then one n else 0#64)
def ofP (p : Nat → Bool) : M64 := ofPn p 64
theorem bit_ofPn (p : Nat → Bool) : ∀ {n : Nat}, n ≤ 64 → ∀ i, bit (ofPn p n) i = (decide (i < n) && p i)
  | 0, _, i => by simp [ofPn, bit]
  | n + 1, h, i => by
    have hb : bit (if p n then one n else 0#64) i = (decide (i = n) && p n) := by
      cases hp : p n with
      | true => rw [if_pos rfl, bit_one (by omega)]; simp
      | false => simp [bit]
    rw [ofPn, bit_or, bit_ofPn p (by omega), hb]
    by_cases h1 : i < n
    · have h2 : ¬ i = n := by omega
      have h3 : i < n + 1 := by omega
      simp [h1, h2, h3]
    · by_cases h2 : i = n
      · subst h2; simp
      · have h3 : ¬ i < n + 1 := by omega
        simp [h1, h2, h3]
theorem bit_ofP (p : Nat → Bool) {i : Nat} (hi : i < 64) : bit (ofP p) i = p i := by
  unfold ofP
  rw [bit_ofPn p (Nat.le_refl _)]
  simp [hi]
theorem ofP_congr {p q : Nat → Bool} (h : ∀ i, i < 64 → p i = q i) : ofP p = ofP q := m_ext fun i hi => by rw [bit_ofP p hi, bit_ofP q hi, h i hi]

/-- The first of these members that is below all of a set. -/
def leastF (up : List M64) (set : M64) : List Nat → Int
  | [] => -1
  | k :: r => if set &&& ~~~ upA up k = 0#64 then (k : Int) else leastF up set r
def leastM (up : List M64) (set : M64) : Int := leastF up set (bits set)

/-- May an order be? -/
def orderRow (up : List M64) (i : Nat) : Bool :=
  bit (upA up i) i && decide (upA up i &&& ~~~ ofP (fun j => decide (j < up.length)) = 0#64) && (bits (upA up i)).all fun k => decide (upA up k &&& ~~~ upA up i = 0#64) && !(decide (k ≠ i) && bit (upA up k) i)
def orderM (up : List M64) : Bool := decide (1 ≤ up.length) && decide (up.length ≤ 64) && (List.range up.length).all (orderRow up)

def eachM (up : List M64) : Bool := (List.range up.length).all fun a => (List.range a).all fun b => decide (0 ≤ leastM up (upA up a &&& upA up b))
/-- Those at or below each level. -/
def turnedM (up : List M64) : List M64 := (List.range up.length).map fun k => ofP fun i => decide (i < up.length) && bit (upA up i) k
def rightM (up : List M64) : Bool := orderM up && (eachM up && eachM (turnedM up))

theorem turned_len (up : List M64) : (turnedM up).length = up.length := by simp [turnedM]
theorem upA_turned (up : List M64) {k : Nat} (hk : k < up.length) : upA (turnedM up) k = ofP fun i => decide (i < up.length) && bit (upA up i) k := by
  unfold upA turnedM
  rw [List.getD_eq_getElem?_getD, List.getElem?_map, List.getElem?_range hk]; rfl
theorem zero_iff_sub {x y : M64} : x &&& ~~~ y = 0#64 ↔ ∀ i, bit x i = true → bit y i = true := by
  rw [m_zero]
  constructor
  · intro h i hi
    by_cases h64 : i < 64
    · have := h i h64
      rw [bit_andNot, hi] at this
      simpa using this
    · rw [bit_ge x (by omega)] at hi; cases hi
  · intro h i hi
    rw [bit_andNot]
    cases hx : bit x i with
    | false => rfl
    | true => rw [h i hx]; rfl
theorem inU_order {up : List M64} (h : orderM up = true) {i : Nat} (hi : i < up.length) : InU up.length (upA up i) := by
  unfold orderM at h
  simp only [Bool.and_eq_true, decide_eq_true_eq, List.all_eq_true] at h
  have := h.2 i (List.mem_range.2 hi)
  unfold orderRow at this
  simp only [Bool.and_eq_true, decide_eq_true_eq] at this
  intro j hj
  have h2 := zero_iff_sub.1 this.1.2 j hj
  have hj64 : j < 64 := by
    by_cases h64 : j < 64
    · exact h64
    · rw [bit_ge _ (by omega)] at hj; cases hj
  rw [bit_ofP _ hj64] at h2
  simpa using h2
theorem order_len {up : List M64} (h : orderM up = true) : 1 ≤ up.length ∧ up.length ≤ 64 := by
  unfold orderM at h
  simp only [Bool.and_eq_true, decide_eq_true_eq] at h
  exact h.1
theorem inU_turned {up : List M64} {k : Nat} (hk : k < up.length) : InU (turnedM up).length (upA (turnedM up) k) := by
  intro i hi
  rw [turned_len, upA_turned up hk] at *
  have h64 : i < 64 := by
    by_cases h64 : i < 64
    · exact h64
    · rw [bit_ge _ (by omega)] at hi; cases hi
  rw [bit_ofP _ h64] at hi
  simp only [Bool.and_eq_true, decide_eq_true_eq] at hi
  exact hi.1
theorem inU_and {n : Nat} {x y : M64} (h : InU n x) : InU n (x &&& y) := fun i hi => h i (by rw [bit_and] at hi; simp at hi; exact hi.1)
end Go.Proofs.YtgnnglfbpcjadaaDoor

/- Sets of small numbers: the program's own: right, Has, With, Without, Below, the least member. -/
namespace Go.Proofs.YtgnnglfbpcjadaaDoor
open Go.Sx
set_option linter.unusedVariables false
set_option linter.unusedSimpArgs false
set_option maxRecDepth 100000

def inM (i : Int) : Bool := decide (0 ≤ i) && decide (i < 64)
theorem mright_spec (i : Int) : Pure PG 43 [vi i] (vb (inM i)) [] := by
  refine Proc.mk (cfg 9) tysOK [] Tryd.func43 rfl (by kernel_rfl) rfl rfl rfl ?_
  intro C x
  refine x.exit rfl trivial ?_
  exact ⟨.inr rfl, rfl, trivial, rfl⟩

def hasM (m : M64) (i : Int) : Bool := inM i && bit m i.toNat
theorem hasM_nat (m : M64) (i : Nat) : hasM m (i : Int) = bit m i := by
  unfold hasM inM
  by_cases h : i < 64
  · simp; omega
  · rw [show ((i : Int)).toNat = i by omega, bit_ge m (by omega)]; simp
theorem has_spec (m : M64) (i : Int) : Pure PG 22 [vm m, vi i] (vb (hasM m i)) [] := by
  refine Proc.mk (cfg 14) tysOK [] Tryd.func22 rfl (by kernel_rfl) rfl rfl rfl ?_
  intro C x
  refine x.pure rfl trivial rfl (mright_spec i) ⟨rfl, trivial⟩ ?_
  refine x.exit rfl (by simp only [AllP, imps, imp]; intro h; simp [inM] at h; exact h.1) ?_
  refine ⟨.inr rfl, ?_, trivial, rfl⟩
  show VEq0 (.d (.bool _)) (vb (hasM m i))
  refine veq0_d (congrArg D.bool ?_)
  unfold hasM
  cases hi : inM i with
  | false => rfl
  | true =>
    simp only [inM, Bool.and_eq_true, decide_eq_true_eq] at hi
    obtain ⟨n, rfl⟩ := Int.eq_ofNat_of_zero_le hi.1
    have e := shr_m m (i := n) (by omega)
    have e2 := and_m (m >>> n) 1#64
    show decide (bitI .and .u64 (((m.toNat : Int)).fdiv (2 ^ (min ((n : Int)).toNat IntKind.u64.bits))) 1 = 1) = _
    rw [e, show (1 : Int) = ((1#64 : M64).toNat : Int) from rfl, e2]
    exact has_shift m

def withM (m : M64) (i : Int) : M64 := if inM i then m ||| one i.toNat else m
theorem with_spec (m : M64) (i : Int) : Pure PG 53 [vm m, vi i] (vm (withM m i)) [] := by
  refine Proc.mk (cfg 12) tysOK [] Tryd.func53 rfl (by kernel_rfl) rfl rfl rfl ?_
  intro C x
  refine x.pure rfl trivial rfl (mright_spec i) ⟨rfl, trivial⟩ ?_
  refine x.cond rfl trivial (fun h => ?_) (fun h => ?_)
  · have hi := h
    simp only [inM, Bool.and_eq_true, decide_eq_true_eq] at hi
    obtain ⟨n, rfl⟩ := Int.eq_ofNat_of_zero_le hi.1
    refine x.exit rfl (by simp only [AllP]; omega) ?_
    refine ⟨.inr rfl, ?_, trivial, rfl⟩
    refine veq0_d (congrArg (D.int .u64) ?_)
    rw [shl_m (i := n) (by omega), or_m]
    unfold withM
    rw [if_pos h]; rfl
  · refine x.exit rfl trivial ?_
    refine ⟨.inr rfl, ?_, trivial, rfl⟩
    unfold withM
    rw [if_neg (by rw [h]; simp)]
    exact (show VEq0 (vm m) (vm m) from veq0_d rfl)
def withoutM (m : M64) (i : Int) : M64 := if inM i then m &&& ~~~ one i.toNat else m
theorem bit_withM (m : M64) (i : Int) (j : Nat) : bit (withM m i) j = (bit m j || decide (j < 64 ∧ (j : Int) = i)) := by
  unfold withM
  split
  · rename_i h
    simp only [inM, Bool.and_eq_true, decide_eq_true_eq] at h
    rw [bit_or, bit_one (by omega)]
    congr 1
    simp only [decide_eq_decide]
    omega
  · rename_i h
    simp only [inM, Bool.and_eq_true, decide_eq_true_eq] at h
    have : ¬ (j < 64 ∧ (j : Int) = i) := by omega
    simp [this]
theorem bit_withoutM (m : M64) (i : Int) (j : Nat) : bit (withoutM m i) j = (bit m j && !decide ((j : Int) = i)) := by
  unfold withoutM
  split
  · rename_i h
    simp only [inM, Bool.and_eq_true, decide_eq_true_eq] at h
    rw [bit_andNot, bit_one (by omega)]
    congr 2
    simp only [decide_eq_decide]
    omega
  · rename_i h
    simp only [inM, Bool.and_eq_true, decide_eq_true_eq] at h
    by_cases hj : j < 64
    · have : ¬ ((j : Int) = i) := by omega
      simp [this]
    · rw [bit_ge m (by omega)]; rfl

/-- All below a number. -/
def belowN : Nat → M64
  | 0 => 0#64
  | n + 1 => belowN n ||| one n
/-- Between 0 and 64. -/
def clampN (n : Int) : Int := if 64 < (if 0 > n then 0 else n) then 64 else if 0 > n then 0 else n
theorem clampN_eq (n : Int) : clampN n = min (max n 0) 64 := by unfold clampN; split <;> split <;> omega
def belowM (n : Int) : M64 := belowN (clampN n).toNat
theorem bit_belowN : ∀ {n : Nat}, n ≤ 64 → ∀ j, bit (belowN n) j = decide (j < n)
  | 0, _, j => by simp [belowN, bit]
  | n + 1, h, j => by
    rw [belowN, bit_or, bit_belowN (by omega), bit_one (by omega)]
    by_cases h1 : j < n
    · simp [h1]; omega
    · by_cases h2 : j = n
      · simp [h2]
      · simp [h1, h2]; omega
theorem bit_belowM (n : Int) (j : Nat) : bit (belowM n) j = decide (j < 64 ∧ (j : Int) < n) := by
  unfold belowM
  have := clampN_eq n
  rw [bit_belowN (by omega)]
  simp only [decide_eq_decide]
  omega
theorem below_spec (n : Int) (hn : inI64 n) : Pure PG 78 [vi n] (vm (belowM n)) [] := by
  refine Proc.mk (cfg 17) tysOK [] Tryd.func78 rfl (by kernel_rfl) rfl rfl rfl ?_
  intro C x
  unfold inI64 at hn
  have hcl := clampN_eq n
  refine x.loop (α := { k : Nat // (k : Int) ≤ clampN n }) (fun y => ⟨[(3, vm (belowN y.1)), (7, vi (clampN n)), (8, vi (y.1 : Int))], [], 0⟩) (fun y => 64 - y.1) ⟨0, by omega⟩ rfl trivial ?_ (fun y => ?_)
  · exact ⟨⟨rfl, rfl, rfl, trivial⟩, trivial, rfl⟩
  obtain ⟨k, hk⟩ := y
  refine x.cond rfl trivial (fun h => ?_) (fun h => ?_)
  · have h : (k : Int) < clampN n := by simpa using h
    refine x.back rfl (by simp only [AllP, inI64]; omega) ⟨⟨k + 1, by omega⟩, by show 64 - (k + 1) < 64 - k; omega, ?_⟩
    refine ⟨⟨veq0_d (congrArg (D.int .u64) ?_), rfl, by show VEq0 (vi ((k : Int) + 1)) (vi ((k + 1 : Nat) : Int)); rw [Int.natCast_add]; rfl, trivial⟩, trivial, rfl⟩
    rw [shl_m (i := k) (by omega), or_m]; rfl
  · have h : ¬ (k : Int) < clampN n := by simpa using h
    refine x.exit rfl trivial ?_
    refine ⟨.inr rfl, veq0_d (congrArg (D.int .u64) ?_), trivial, rfl⟩
    unfold belowM
    rw [show (clampN n).toNat = k by omega]
end Go.Proofs.YtgnnglfbpcjadaaDoor
