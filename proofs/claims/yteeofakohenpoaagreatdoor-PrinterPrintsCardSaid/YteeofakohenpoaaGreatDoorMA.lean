/- Texts put together: TTy, T01A, T01P, T01F, T01G, T01L, T01M, T01QA, T01B, T01N, T01E, T03A, T03B, T01C, T01O, T01Q, T03C, T01VA. -/
import Derived.Test.YteeofakohenpoaaGreatDoorSxE
import Derived.Test.YteeofakohenpoaaGreatDoorProg
import Derived.Lib.DecodeN
import Derived.Test.YteeofakohenpoaaGreatDoorShelf

/- The types that the program uses, as the engine Sx takes them; the program, and the tables of its library that it reads. -/
namespace Go.Proofs.YteeofakohenpoaaGreatDoor
open Go.Sx
def opNames : List (List UInt8) := [[], [97, 100, 100], [115, 117, 98], [109, 117, 108], [100, 105, 118], [109, 111, 100], [97, 110, 100], [111, 114], [120, 111, 114], [115, 104, 108], [115, 104, 114], [101, 113], [108, 101, 115, 115]]
def opAt (c : Nat) : ByteArray := ⟨(opNames.getD c []).toArray⟩
noncomputable def PG : Pg := ⟨Tryz.prog,
  (2, 256, fun c => .int .u8 (Lib.firstT c)) ::
  (3, 32, fun c => .int .u8 (if c % 2 = 0 then Lib.accLo (c / 2) else Lib.accHi (c / 2))) ::
  (0, 13, fun c => .string (opAt c)) ::
  []⟩
theorem ty_0 : TI.OK Tryz.prog 2 ⟨.int .i64, 1, 8, [.d (.int .i64 0)]⟩ := TI.mk' (z := .int .i64 0) Tryz.underlying2 (by kernel_rfl) rfl ⟨rfl, trivial⟩
theorem ty_1 : TI.OK Tryz.prog 3 ⟨.int .i64, 1, 8, [.d (.int .i64 0)]⟩ := TI.mk' (z := .int .i64 0) Tryz.underlying3 (by kernel_rfl) rfl ⟨rfl, trivial⟩
theorem ty_2 : TI.OK Tryz.prog 4 ⟨.bool, 1, 1, [.d (.bool false)]⟩ := TI.mk' (z := .bool false) Tryz.underlying4 (by kernel_rfl) rfl ⟨rfl, trivial⟩
theorem ty_3 : TI.OK Tryz.prog 5 ⟨.int .u8, 1, 1, [.d (.int .u8 0)]⟩ := TI.mk' (z := .int .u8 0) Tryz.underlying5 (by kernel_rfl) rfl ⟨rfl, trivial⟩
theorem ty_4 : TI.OK Tryz.prog 9 ⟨.str, 1, 16, [.d (.str .empty)]⟩ := TI.mk' (z := .string .empty) Tryz.underlying9 (by kernel_rfl) rfl ⟨rfl, trivial⟩
theorem ty_5 : TI.OK Tryz.prog 21 ⟨.int .i32, 1, 4, [.d (.int .i32 0)]⟩ := TI.mk' (z := .int .i32 0) Tryz.underlying21 (by kernel_rfl) rfl ⟨rfl, trivial⟩
theorem ty_6 : TI.OK Tryz.prog 73 ⟨.int .u64, 1, 8, [.d (.int .u64 0)]⟩ := TI.mk' (z := .int .u64 0) Tryz.underlying73 (by kernel_rfl) rfl ⟨rfl, trivial⟩
theorem ty_7 : TI.OK Tryz.prog 33 ⟨.int .i64, 1, 8, [.d (.int .i64 0)]⟩ := TI.mk' (z := .int .i64 0) Tryz.underlying33 (by kernel_rfl) rfl ⟨rfl, trivial⟩
theorem ty_8 : TI.OK Tryz.prog 47 ⟨.slice 5, 1, 24, [.nils]⟩ := TI.mk' (z := .slice none 0 0) Tryz.underlying47 (by kernel_rfl) rfl ⟨rfl, trivial⟩
theorem ty_12 : TI.OK Tryz.prog 26 ⟨.slice 9, 1, 24, [.nils]⟩ := TI.mk' (z := .slice none 0 0) Tryz.underlying26 (by kernel_rfl) rfl ⟨rfl, trivial⟩
theorem ty_17 : TI.OK Tryz.prog 115 ⟨.array 13 9, 13, 208, [.d (.str .empty)]⟩ := TI.mk' (z := .agg (List.replicate 13 [Value.string .empty]).flatten.toArray) Tryz.underlying115 (by kernel_rfl) (by kernel_rfl) (all2_rep (us := [.d (.str .empty)]) (cs := [.string .empty]) ⟨rfl, trivial⟩ 13)
theorem ty_18 : TI.OK Tryz.prog 75 ⟨.other, 1, 8, [.dead]⟩ := TI.mk' (z := .nilFunc) ⟨_, Tryz.underlying75, trivial⟩ (by kernel_rfl) rfl ⟨rfl, trivial⟩
theorem ty_24 : TI.OK Tryz.prog 106 ⟨.struct [(0, 5), (1, 3), (2, 3)] [0, 0, 0], 3, 24, [.d (.int .u8 0), .d (.int .i64 0), .d (.int .i64 0)]⟩ := TI.mk' (z := .agg #[.int .u8 0, .int .i64 0, .int .i64 0]) ⟨⟨_, Tryz.underlying106, rfl⟩, .inr (by kernel_rfl)⟩ (by kernel_rfl) rfl ⟨rfl, rfl, rfl, trivial⟩
theorem ty_25 : TI.OK Tryz.prog 77 ⟨.slice 106, 1, 24, [.nils]⟩ := TI.mk' (z := .slice none 0 0) Tryz.underlying77 (by kernel_rfl) rfl ⟨rfl, trivial⟩
theorem ty_26 : TI.OK Tryz.prog 56 ⟨.struct [(0, 9), (1, 3), (2, 9), (3, 3)] [2, 0, 2, 0], 4, 48, [.d (.str .empty), .d (.int .i64 0), .d (.str .empty), .d (.int .i64 0)]⟩ := TI.mk' (z := .agg #[.string .empty, .int .i64 0, .string .empty, .int .i64 0]) ⟨⟨_, Tryz.underlying56, rfl⟩, .inr (by kernel_rfl)⟩ (by kernel_rfl) rfl ⟨rfl, rfl, rfl, rfl, trivial⟩
theorem ty_27 : TI.OK Tryz.prog 42 ⟨.struct [(0, 5), (1, 5), (2, 9), (3, 9), (4, 9), (5, 26), (6, 26), (7, 2), (8, 3)] [], 9, 120, [.d (.int .u8 0), .d (.int .u8 0), .d (.str .empty), .d (.str .empty), .d (.str .empty), .nils, .nils, .d (.int .i64 0), .d (.int .i64 0)]⟩ := TI.mk' (z := .agg #[.int .u8 0, .int .u8 0, .string .empty, .string .empty, .string .empty, .slice none 0 0, .slice none 0 0, .int .i64 0, .int .i64 0]) ⟨⟨_, Tryz.underlying42, rfl⟩, .inl rfl⟩ (by kernel_rfl) rfl ⟨rfl, rfl, rfl, rfl, rfl, rfl, rfl, rfl, rfl, trivial⟩
theorem ty_28 : TI.OK Tryz.prog 22 ⟨.slice 56, 1, 24, [.nils]⟩ := TI.mk' (z := .slice none 0 0) Tryz.underlying22 (by kernel_rfl) rfl ⟨rfl, trivial⟩
theorem ty_29 : TI.OK Tryz.prog 30 ⟨.slice 42, 1, 24, [.nils]⟩ := TI.mk' (z := .slice none 0 0) Tryz.underlying30 (by kernel_rfl) rfl ⟨rfl, trivial⟩
theorem ty_30 : TI.OK Tryz.prog 32 ⟨.struct [(0, 9), (1, 30), (2, 3)] [], 3, 48, [.d (.str .empty), .nils, .d (.int .i64 0)]⟩ := TI.mk' (z := .agg #[.string .empty, .slice none 0 0, .int .i64 0]) ⟨⟨_, Tryz.underlying32, rfl⟩, .inl rfl⟩ (by kernel_rfl) rfl ⟨rfl, rfl, rfl, trivial⟩
theorem ty_31 : TI.OK Tryz.prog 27 ⟨.slice 32, 1, 24, [.nils]⟩ := TI.mk' (z := .slice none 0 0) Tryz.underlying27 (by kernel_rfl) rfl ⟨rfl, trivial⟩
theorem ty_32 : TI.OK Tryz.prog 29 ⟨.struct [(0, 9), (1, 26), (2, 27), (3, 3)] [], 4, 72, [.d (.str .empty), .nils, .nils, .d (.int .i64 0)]⟩ := TI.mk' (z := .agg #[.string .empty, .slice none 0 0, .slice none 0 0, .int .i64 0]) ⟨⟨_, Tryz.underlying29, rfl⟩, .inl rfl⟩ (by kernel_rfl) rfl ⟨rfl, rfl, rfl, rfl, trivial⟩
theorem ty_33 : TI.OK Tryz.prog 23 ⟨.slice 29, 1, 24, [.nils]⟩ := TI.mk' (z := .slice none 0 0) Tryz.underlying23 (by kernel_rfl) rfl ⟨rfl, trivial⟩
theorem ty_34 : TI.OK Tryz.prog 25 ⟨.struct [(0, 22), (1, 23)] [], 2, 48, [.nils, .nils]⟩ := TI.mk' (z := .agg #[.slice none 0 0, .slice none 0 0]) ⟨⟨_, Tryz.underlying25, rfl⟩, .inl rfl⟩ (by kernel_rfl) rfl ⟨rfl, rfl, trivial⟩
theorem ty_35 : TI.OK Tryz.prog 81 ⟨.struct [(0, 3), (1, 33)] [0, 0], 2, 16, [.d (.int .i64 0), .d (.int .i64 0)]⟩ := TI.mk' (z := .agg #[.int .i64 0, .int .i64 0]) ⟨⟨_, Tryz.underlying81, rfl⟩, .inr (by kernel_rfl)⟩ (by kernel_rfl) rfl ⟨rfl, rfl, trivial⟩
theorem ty_36 : TI.OK Tryz.prog 85 ⟨.struct [(0, 9), (1, 77), (2, 3), (3, 3)] [], 4, 56, [.d (.str .empty), .nils, .d (.int .i64 0), .d (.int .i64 0)]⟩ := TI.mk' (z := .agg #[.string .empty, .slice none 0 0, .int .i64 0, .int .i64 0]) ⟨⟨_, Tryz.underlying85, rfl⟩, .inl rfl⟩ (by kernel_rfl) rfl ⟨rfl, rfl, rfl, rfl, trivial⟩
theorem ty_38 : TI.OK Tryz.prog 83 ⟨.other, 1, 8, [.dead]⟩ := TI.mk' (z := .pointer none) ⟨_, Tryz.underlying83, trivial⟩ (by kernel_rfl) rfl ⟨rfl, trivial⟩
theorem ty_39 : TI.OK Tryz.prog 129 ⟨.other, 1, 8, [.dead]⟩ := TI.mk' (z := .pointer none) ⟨_, Tryz.underlying129, trivial⟩ (by kernel_rfl) rfl ⟨rfl, trivial⟩
theorem ty_41 : TI.OK Tryz.prog 1 ⟨.func, 1, 8, [.d .nf]⟩ := TI.mk' (z := .nilFunc) ⟨_, _, _, Tryz.underlying1⟩ (by kernel_rfl) rfl ⟨rfl, trivial⟩
theorem ty_42 : TI.OK Tryz.prog 126 ⟨.func, 1, 8, [.d .nf]⟩ := TI.mk' (z := .nilFunc) ⟨_, _, _, Tryz.underlying126⟩ (by kernel_rfl) rfl ⟨rfl, trivial⟩
theorem ty_43 : TI.OK Tryz.prog 49 ⟨.struct [(0, 46), (1, 47)] [], 2, 32, [.d .np, .nils]⟩ := TI.mk' (z := .agg #[.pointer none, .slice none 0 0]) ⟨⟨_, Tryz.underlying49, rfl⟩, .inl rfl⟩ (by kernel_rfl) rfl ⟨rfl, rfl, trivial⟩
theorem ty_44 : TI.OK Tryz.prog 92 ⟨.struct [(0, 3), (1, 4), (2, 4), (3, 4)] [0, 1, 1, 1], 4, 16, [.d (.int .i64 0), .d (.bool false), .d (.bool false), .d (.bool false)]⟩ := TI.mk' (z := .agg #[.int .i64 0, .bool false, .bool false, .bool false]) ⟨⟨_, Tryz.underlying92, rfl⟩, .inr (by kernel_rfl)⟩ (by kernel_rfl) rfl ⟨rfl, rfl, rfl, rfl, trivial⟩
theorem ty_45 : TI.OK Tryz.prog 94 ⟨.map 5 92, 1, 8, [.dead]⟩ := TI.mk' (z := .map none) Tryz.underlying94 (by kernel_rfl) rfl ⟨rfl, trivial⟩
theorem ty_46 : TI.OK Tryz.prog 51 ⟨.iface, 1, 16, [.d .ni]⟩ := TI.mk' (z := .nilIface) ⟨_, Tryz.underlying51⟩ (by kernel_rfl) rfl ⟨rfl, trivial⟩
theorem ty_47 : TI.OK Tryz.prog 46 ⟨.other, 1, 8, [.dead]⟩ := TI.mk' (z := .pointer none) ⟨_, Tryz.underlying46, trivial⟩ (by kernel_rfl) rfl ⟨rfl, trivial⟩
theorem ty_49 : TI.OK Tryz.prog 20 ⟨.iface, 1, 16, [.d .ni]⟩ := TI.mk' (z := .nilIface) ⟨_, Tryz.underlying20⟩ (by kernel_rfl) rfl ⟨rfl, trivial⟩
theorem ty_50 : TI.OK Tryz.prog 127 ⟨.map 9 126, 1, 8, [.dead]⟩ := TI.mk' (z := .map none) Tryz.underlying127 (by kernel_rfl) rfl ⟨rfl, trivial⟩
def tys : List (Nat × TI) :=
  (2, ⟨.int .i64, 1, 8, [.d (.int .i64 0)]⟩) ::
  (3, ⟨.int .i64, 1, 8, [.d (.int .i64 0)]⟩) ::
  (4, ⟨.bool, 1, 1, [.d (.bool false)]⟩) ::
  (5, ⟨.int .u8, 1, 1, [.d (.int .u8 0)]⟩) ::
  (9, ⟨.str, 1, 16, [.d (.str .empty)]⟩) ::
  (21, ⟨.int .i32, 1, 4, [.d (.int .i32 0)]⟩) ::
  (73, ⟨.int .u64, 1, 8, [.d (.int .u64 0)]⟩) ::
  (33, ⟨.int .i64, 1, 8, [.d (.int .i64 0)]⟩) ::
  (47, ⟨.slice 5, 1, 24, [.nils]⟩) ::
  (26, ⟨.slice 9, 1, 24, [.nils]⟩) ::
  (115, ⟨.array 13 9, 13, 208, [.d (.str .empty)]⟩) ::
  (75, ⟨.other, 1, 8, [.dead]⟩) ::
  (106, ⟨.struct [(0, 5), (1, 3), (2, 3)] [0, 0, 0], 3, 24, [.d (.int .u8 0), .d (.int .i64 0), .d (.int .i64 0)]⟩) ::
  (77, ⟨.slice 106, 1, 24, [.nils]⟩) ::
  (56, ⟨.struct [(0, 9), (1, 3), (2, 9), (3, 3)] [2, 0, 2, 0], 4, 48, [.d (.str .empty), .d (.int .i64 0), .d (.str .empty), .d (.int .i64 0)]⟩) ::
  (42, ⟨.struct [(0, 5), (1, 5), (2, 9), (3, 9), (4, 9), (5, 26), (6, 26), (7, 2), (8, 3)] [], 9, 120, [.d (.int .u8 0), .d (.int .u8 0), .d (.str .empty), .d (.str .empty), .d (.str .empty), .nils, .nils, .d (.int .i64 0), .d (.int .i64 0)]⟩) ::
  (22, ⟨.slice 56, 1, 24, [.nils]⟩) ::
  (30, ⟨.slice 42, 1, 24, [.nils]⟩) ::
  (32, ⟨.struct [(0, 9), (1, 30), (2, 3)] [], 3, 48, [.d (.str .empty), .nils, .d (.int .i64 0)]⟩) ::
  (27, ⟨.slice 32, 1, 24, [.nils]⟩) ::
  (29, ⟨.struct [(0, 9), (1, 26), (2, 27), (3, 3)] [], 4, 72, [.d (.str .empty), .nils, .nils, .d (.int .i64 0)]⟩) ::
  (23, ⟨.slice 29, 1, 24, [.nils]⟩) ::
  (25, ⟨.struct [(0, 22), (1, 23)] [], 2, 48, [.nils, .nils]⟩) ::
  (81, ⟨.struct [(0, 3), (1, 33)] [0, 0], 2, 16, [.d (.int .i64 0), .d (.int .i64 0)]⟩) ::
  (85, ⟨.struct [(0, 9), (1, 77), (2, 3), (3, 3)] [], 4, 56, [.d (.str .empty), .nils, .d (.int .i64 0), .d (.int .i64 0)]⟩) ::
  (83, ⟨.other, 1, 8, [.dead]⟩) ::
  (129, ⟨.other, 1, 8, [.dead]⟩) ::
  (1, ⟨.func, 1, 8, [.d .nf]⟩) ::
  (126, ⟨.func, 1, 8, [.d .nf]⟩) ::
  (49, ⟨.struct [(0, 46), (1, 47)] [], 2, 32, [.d .np, .nils]⟩) ::
  (92, ⟨.struct [(0, 3), (1, 4), (2, 4), (3, 4)] [0, 1, 1, 1], 4, 16, [.d (.int .i64 0), .d (.bool false), .d (.bool false), .d (.bool false)]⟩) ::
  (94, ⟨.map 5 92, 1, 8, [.dead]⟩) ::
  (51, ⟨.iface, 1, 16, [.d .ni]⟩) ::
  (46, ⟨.other, 1, 8, [.dead]⟩) ::
  (20, ⟨.iface, 1, 16, [.d .ni]⟩) ::
  (127, ⟨.map 9 126, 1, 8, [.dead]⟩) ::
  []
theorem tysOK : TysOK Tryz.prog tys :=
  And.intro ty_0 <|
  And.intro ty_1 <|
  And.intro ty_2 <|
  And.intro ty_3 <|
  And.intro ty_4 <|
  And.intro ty_5 <|
  And.intro ty_6 <|
  And.intro ty_7 <|
  And.intro ty_8 <|
  And.intro ty_12 <|
  And.intro ty_17 <|
  And.intro ty_18 <|
  And.intro ty_24 <|
  And.intro ty_25 <|
  And.intro ty_26 <|
  And.intro ty_27 <|
  And.intro ty_28 <|
  And.intro ty_29 <|
  And.intro ty_30 <|
  And.intro ty_31 <|
  And.intro ty_32 <|
  And.intro ty_33 <|
  And.intro ty_34 <|
  And.intro ty_35 <|
  And.intro ty_36 <|
  And.intro ty_38 <|
  And.intro ty_39 <|
  And.intro ty_41 <|
  And.intro ty_42 <|
  And.intro ty_43 <|
  And.intro ty_44 <|
  And.intro ty_45 <|
  And.intro ty_46 <|
  And.intro ty_47 <|
  And.intro ty_49 <|
  And.intro ty_50 <|
  trivial
theorem mixedP : Tryz.prog.follows .mixedOrders = true := by kernel_rfl
def cfg (n : Nat) : Cfg := ⟨n, 0, true, tys⟩
def cfgF (n fix : Nat) : Cfg := ⟨n, fix, true, tys⟩
end Go.Proofs.YteeofakohenpoaaGreatDoor

/- What the letters and digits of the text package answer. -/
namespace Go.Proofs.YteeofakohenpoaaGreatDoor
open Go.Sx
set_option linter.unusedVariables false
set_option maxRecDepth 100000


theorem digit_spec (r : Int) : Pure PG 56 [.d (.int .i32 r)] (vb (decide (48 ≤ r) && decide (r ≤ 57))) [] := by
  refine Proc.mk (cfg 9) tysOK [] Tryz.func56 rfl (by kernel_rfl) rfl rfl rfl ?_
  intro C x
  refine x.exit rfl ?_ ?_
  · exact trivial
  · exact ⟨.inr rfl, rfl, trivial, rfl⟩

theorem more_spec (s : ByteArray) (i lo hi : Int) (h0 : 0 ≤ i) : Pure PG 77 [vs s, vi i, .d (.int .u8 lo), .d (.int .u8 hi)] (vb (decide (i < s.size) && decide (lo ≤ sb s i.toNat) && decide (sb s i.toNat ≤ hi))) [] := by
  refine Proc.mk (cfg 27) tysOK [] Tryz.func77 rfl (by kernel_rfl) rfl rfl rfl ?_
  intro C x
  refine x.exit rfl ?_ ?_
  · simp only [AllP, decide_eq_true_eq, Bool.and_eq_true]
    omega
  · exact ⟨.inr rfl, rfl, trivial, rfl⟩

def cfg1 (n : Nat) : Cfg := cfgF n 1

/-- Letter$1: is the rune that was boxed between a and b? -/
theorem between_spec (r a b : Int) : Proc PG 76 1 [.d (.int .i32 a), .d (.int .i32 b), .ptr 0 0] [.box [.d (.int .i32 r)]] (vb (decide (a ≤ r) && decide (r ≤ b))) [.box [.d (.int .i32 r)]] := by
  refine Proc.mk (cfg1 14) tysOK [0] Tryz.func76 rfl (by kernel_rfl) rfl rfl rfl ?_
  intro C x
  refine x.exit rfl trivial ?_
  exact ⟨.inr rfl, rfl, ⟨⟨rfl, trivial⟩, trivial⟩, rfl⟩

theorem letter_spec (r : Int) : Pure PG 55 [.d (.int .i32 r)] (vb (decide (97 ≤ r) && decide (r ≤ 122) || decide (65 ≤ r) && decide (r ≤ 90) || decide (r = 95) || decide (945 ≤ r) && decide (r ≤ 969) || decide (913 ≤ r) && decide (r ≤ 937) && !decide (r = 930))) [] := by
  refine Proc.mk (cfg 27) tysOK [] Tryz.func55 rfl (by kernel_rfl) rfl rfl rfl ?_
  intro C x
  refine x.call [0] rfl trivial rfl (between_spec r 97 122) rfl ⟨rfl, rfl, ⟨rfl, rfl⟩, trivial⟩ ⟨⟨rfl, trivial⟩, trivial⟩ ?_
  refine x.callG [0] rfl trivial rfl (fun _ => between_spec r 65 90) rfl ⟨rfl, rfl, ⟨rfl, rfl⟩, trivial⟩ ⟨⟨rfl, trivial⟩, trivial⟩ ⟨⟨rfl, trivial⟩, trivial⟩ ?_
  refine x.callG [0] rfl ?_ rfl (fun _ => between_spec r 945 969) rfl ⟨rfl, rfl, ⟨rfl, rfl⟩, trivial⟩ ⟨⟨rfl, trivial⟩, trivial⟩ ⟨⟨rfl, trivial⟩, trivial⟩ ?_
  · exact trivial
  refine x.callG [0] rfl trivial rfl (fun _ => between_spec r 913 937) rfl ⟨rfl, rfl, ⟨rfl, rfl⟩, trivial⟩ ⟨⟨rfl, trivial⟩, trivial⟩ ⟨⟨rfl, trivial⟩, trivial⟩ ?_
  refine x.exit rfl ?_ ?_
  · exact trivial
  · refine ⟨.inr rfl, ?_, trivial, rfl⟩
    rfl
end Go.Proofs.YteeofakohenpoaaGreatDoor

/- Plain facts: bytes, masks, and how the model's decoder reads a rune. -/
namespace Go.Proofs.YteeofakohenpoaaGreatDoor
open Go.Sx
set_option linter.unusedVariables false
set_option linter.unusedSimpArgs false
set_option maxRecDepth 100000

theorem sb_get (s : ByteArray) (i : Nat) : sb s i = ((s.get! i).toNat : Int) := by
  unfold sb
  congr 2
  cases s with
  | mk d =>
    show d.toList.getD i 0 = d[i]!
    simp [List.getD_eq_getElem?_getD, getElem!_def]
    cases h : d[i]? <;> simp <;> rfl
theorem sb_nonneg (s : ByteArray) (i : Nat) : 0 ≤ sb s i := by unfold sb; exact Int.natCast_nonneg _
theorem sb_lt (s : ByteArray) (i : Nat) : sb s i < 256 := by unfold sb; have := (s.data.toList.getD i 0).toNat_lt; omega

theorem wrap_u8 {n : Nat} (h : n < 256) : IntKind.u8.wrap (n : Int) = n := by
  show (n : Int) % 256 = n
  omega
theorem mask (x : Nat) (m k : Nat) (hx : x < 256) (hm : m = 2 ^ k - 1) (hm' : m < 256) : bitI .and .u8 (x : Int) (m : Int) = ((x % 2 ^ k : Nat) : Int) := by
  unfold bitI
  simp only
  rw [BitVec.toNat_and]
  have h1 : (BitVec.ofInt IntKind.u8.bits (x : Int)).toNat = x := by
    show (BitVec.ofInt 8 (x : Int)).toNat = x
    simp [BitVec.toNat_ofInt]; omega
  have h2 : (BitVec.ofInt IntKind.u8.bits (m : Int)).toNat = m := by
    show (BitVec.ofInt 8 (m : Int)).toNat = m
    simp [BitVec.toNat_ofInt]; omega
  rw [h1, h2, hm, Nat.and_two_pow_sub_one_eq_mod]
  refine wrap_u8 (Nat.lt_of_le_of_lt (Nat.mod_le _ _) hx)
theorem maskI (x : Int) (m k : Nat) (h0 : 0 ≤ x) (hx : x < 256) (hm : m = 2 ^ k - 1) (hm' : m < 256) : bitI .and .u8 x (m : Int) = x % (2 ^ k : Nat) := by
  obtain ⟨y, rfl⟩ := Int.eq_ofNat_of_zero_le h0
  rw [mask y m k (by omega) hm hm']
  rfl
theorem mask31 {x : Int} (h0 : 0 ≤ x) (hx : x < 256) : bitI .and .u8 x 31 = x % 32 := maskI x 31 5 h0 hx rfl (by decide)
theorem mask63 {x : Int} (h0 : 0 ≤ x) (hx : x < 256) : bitI .and .u8 x 63 = x % 64 := maskI x 63 6 h0 hx rfl (by decide)
theorem mask15 {x : Int} (h0 : 0 ≤ x) (hx : x < 256) : bitI .and .u8 x 15 = x % 16 := maskI x 15 4 h0 hx rfl (by decide)
theorem mask7 {x : Int} (h0 : 0 ≤ x) (hx : x < 256) : bitI .and .u8 x 7 = x % 8 := maskI x 7 3 h0 hx rfl (by decide)

/-- May the byte at p be one of lo to hi? -/
def moreB (s : ByteArray) (i lo hi : Int) : Bool := decide (i < s.size) && decide (lo ≤ sb s i.toNat) && decide (sb s i.toNat ≤ hi)

theorem ite_cg {α : Type} {c c' : Prop} [Decidable c] [Decidable c'] {x x' y y' : α} (h : c ↔ c') (e1 : x = x') (e2 : y = y') : ite c x y = ite c' x' y' := by
  subst e1 e2
  by_cases hc : c
  · rw [if_pos hc, if_pos (h.1 hc)]
  · rw [if_neg hc, if_neg (fun h' => hc (h.2 h'))]

/-- Byte i. -/
def bt (s : ByteArray) (i : Nat) : Nat := (s.get! i).toNat
theorem sb_bt (s : ByteArray) (i : Nat) : sb s i = (bt s i : Int) := sb_get s i
theorem bt_lt (s : ByteArray) (i : Nat) : bt s i < 256 := (s.get! i).toNat_lt

/-- What the bytes a b c d at p, in sz bytes, spell: the decoder's answer. -/
def dec (sz p a b c d : Nat) : Nat × Nat :=
  if a < 128 then (a, 1)
  else if a / 32 = 6 ∧ p + 1 < sz ∧ b / 64 = 2 then
    if 128 ≤ a % 32 * 64 + b % 64 then (a % 32 * 64 + b % 64, 2) else (65533, 1)
  else if a / 16 = 14 ∧ p + 1 < sz ∧ b / 64 = 2 ∧ p + 2 < sz ∧ c / 64 = 2 then
    if 2048 ≤ a % 16 * 4096 + b % 64 * 64 + c % 64 ∧ ¬ (55296 ≤ a % 16 * 4096 + b % 64 * 64 + c % 64 ∧ a % 16 * 4096 + b % 64 * 64 + c % 64 ≤ 57343)
    then (a % 16 * 4096 + b % 64 * 64 + c % 64, 3) else (65533, 1)
  else if a / 8 = 30 ∧ p + 1 < sz ∧ b / 64 = 2 ∧ p + 2 < sz ∧ c / 64 = 2 ∧ p + 3 < sz ∧ d / 64 = 2 then
    if 65536 ≤ a % 8 * 262144 + b % 64 * 4096 + c % 64 * 64 + d % 64 ∧ a % 8 * 262144 + b % 64 * 4096 + c % 64 * 64 + d % 64 ≤ 1114111
    then (a % 8 * 262144 + b % 64 * 4096 + c % 64 * 64 + d % 64, 4) else (65533, 1)
  else (65533, 1)

theorem decode_eq (s : ByteArray) (p : Nat) : Utf8.decode s p = dec s.size p (bt s p) (bt s (p + 1)) (bt s (p + 2)) (bt s (p + 3)) := by
  unfold Utf8.decode dec
  have hr : Utf8.runeError = 65533 := rfl
  have e : ∀ k, (s.get! k).toNat = bt s k := fun k => rfl
  have h1 := bt_lt s (p + 1)
  have h2 := bt_lt s (p + 2)
  have h3 := bt_lt s (p + 3)
  have h0 := bt_lt s p
  simp only [hr, e, Nat.add_zero, Bool.and_eq_true, decide_eq_true_eq, beq_iff_eq, and_assoc]
  refine ite_cg Iff.rfl rfl (ite_cg Iff.rfl rfl (ite_cg Iff.rfl (ite_cg ?_ rfl rfl) (ite_cg Iff.rfl (ite_cg ?_ rfl rfl) rfl)))
  · simp only [Utf8.valid, Bool.or_eq_true, Bool.and_eq_true, decide_eq_true_eq]
    omega
  · simp only [Utf8.valid, Bool.or_eq_true, Bool.and_eq_true, decide_eq_true_eq]
    omega

/-- The rune at i and its length; zeros where there is none. -/
def formV (s : ByteArray) (i : Int) : Int × Int :=
  if 0 ≤ i ∧ i < s.size then
    if (Utf8.decode s i.toNat).2 = 1 ∧ 128 ≤ bt s i.toNat then (0, 0) else (((Utf8.decode s i.toNat).1 : Int), ((Utf8.decode s i.toNat).2 : Int))
  else (0, 0)
/-- The same in plain numbers. -/
theorem dec_form (sz p a b c d : Nat) (ha : a < 256) (hb : b < 256) (hc : c < 256) (hd : d < 256) :
    (if (dec sz p a b c d).2 = 1 ∧ 128 ≤ a then (0, 0) else (dec sz p a b c d)) =
    if a < 128 then (a, 1)
    else if 194 ≤ a ∧ a ≤ 223 ∧ p + 1 < sz ∧ 128 ≤ b ∧ b ≤ 191 then (a % 32 * 64 + b % 64, 2)
    else if 224 ≤ a ∧ a ≤ 239 ∧ p + 1 < sz ∧ (a = 224 → 160 ≤ b) ∧ (a = 237 → b ≤ 159) ∧ 128 ≤ b ∧ b ≤ 191 ∧ p + 2 < sz ∧ 128 ≤ c ∧ c ≤ 191 then (a % 16 * 4096 + b % 64 * 64 + c % 64, 3)
    else if 240 ≤ a ∧ a ≤ 244 ∧ p + 1 < sz ∧ (a = 240 → 144 ≤ b) ∧ (a = 244 → b ≤ 143) ∧ 128 ≤ b ∧ b ≤ 191 ∧ p + 2 < sz ∧ 128 ≤ c ∧ c ≤ 191 ∧ p + 3 < sz ∧ 128 ≤ d ∧ d ≤ 191 then (a % 8 * 262144 + b % 64 * 4096 + c % 64 * 64 + d % 64, 4)
    else (0, 0) := by
  unfold dec
  by_cases h1 : a < 128
  · rw [if_pos h1, if_pos h1, if_neg (by omega)]
  rw [if_neg h1, if_neg h1]
  by_cases h2 : a / 32 = 6 ∧ p + 1 < sz ∧ b / 64 = 2
  · rw [if_pos h2]
    by_cases h3 : 128 ≤ a % 32 * 64 + b % 64
    · rw [if_pos h3, if_neg (by simp), if_pos (by omega)]
    · rw [if_neg h3, if_pos ⟨rfl, by omega⟩, if_neg (by omega), if_neg (by omega), if_neg (by omega)]
  rw [if_neg h2, if_neg (c := 194 ≤ a ∧ a ≤ 223 ∧ p + 1 < sz ∧ 128 ≤ b ∧ b ≤ 191) (by omega)]
  by_cases h4 : a / 16 = 14 ∧ p + 1 < sz ∧ b / 64 = 2 ∧ p + 2 < sz ∧ c / 64 = 2
  · rw [if_pos h4]
    by_cases h5 : 2048 ≤ a % 16 * 4096 + b % 64 * 64 + c % 64 ∧ ¬ (55296 ≤ a % 16 * 4096 + b % 64 * 64 + c % 64 ∧ a % 16 * 4096 + b % 64 * 64 + c % 64 ≤ 57343)
    · rw [if_pos h5, if_neg (by simp), if_pos (by omega)]
    · rw [if_neg h5, if_pos ⟨rfl, by omega⟩, if_neg (by omega), if_neg (by omega)]
  rw [if_neg h4, if_neg (c := 224 ≤ a ∧ _) (by omega)]
  by_cases h6 : a / 8 = 30 ∧ p + 1 < sz ∧ b / 64 = 2 ∧ p + 2 < sz ∧ c / 64 = 2 ∧ p + 3 < sz ∧ d / 64 = 2
  · rw [if_pos h6]
    by_cases h7 : 65536 ≤ a % 8 * 262144 + b % 64 * 4096 + c % 64 * 64 + d % 64 ∧ a % 8 * 262144 + b % 64 * 4096 + c % 64 * 64 + d % 64 ≤ 1114111
    · rw [if_pos h7, if_neg (by simp), if_pos (by omega)]
    · rw [if_neg h7, if_pos ⟨rfl, by omega⟩, if_neg (by omega)]
  rw [if_neg h6, if_pos ⟨rfl, by omega⟩, if_neg (by omega)]
theorem formV_out {s : ByteArray} {i : Int} (h : ¬ (0 ≤ i ∧ i < s.size)) : formV s i = (0, 0) := by unfold formV; rw [if_neg h]
theorem formV_in {s : ByteArray} {i : Int} (h : 0 ≤ i ∧ i < s.size) : formV s i =
    (((if (dec s.size i.toNat (bt s i.toNat) (bt s (i.toNat + 1)) (bt s (i.toNat + 2)) (bt s (i.toNat + 3))).2 = 1 ∧ 128 ≤ bt s i.toNat then (0, 0) else (dec s.size i.toNat (bt s i.toNat) (bt s (i.toNat + 1)) (bt s (i.toNat + 2)) (bt s (i.toNat + 3)))).1 : Int),
     ((if (dec s.size i.toNat (bt s i.toNat) (bt s (i.toNat + 1)) (bt s (i.toNat + 2)) (bt s (i.toNat + 3))).2 = 1 ∧ 128 ≤ bt s i.toNat then (0, 0) else (dec s.size i.toNat (bt s i.toNat) (bt s (i.toNat + 1)) (bt s (i.toNat + 2)) (bt s (i.toNat + 3)))).2 : Int)) := by
  unfold formV
  rw [if_pos h, decode_eq]
  split <;> rfl
section
variable {s : ByteArray} {i : Int} (h : 0 ≤ i ∧ i < s.size)
include h
theorem moreB_nat (k : Nat) (lo hi : Int) : moreB s (i + (k : Int)) lo hi = (decide (i.toNat + k < s.size) && decide (lo ≤ (bt s (i.toNat + k) : Int)) && decide ((bt s (i.toNat + k) : Int) ≤ hi)) := by
  unfold moreB
  rw [show (i + (k : Int)).toNat = i.toNat + k by omega, sb_bt]
  congr 2
  exact decide_eq_decide.2 (by omega)
theorem more1 (lo hi : Int) : moreB s (i + 1) lo hi = (decide (i.toNat + 1 < s.size) && decide (lo ≤ (bt s (i.toNat + 1) : Int)) && decide ((bt s (i.toNat + 1) : Int) ≤ hi)) := moreB_nat h 1 lo hi
theorem more2 (lo hi : Int) : moreB s (i + 2) lo hi = (decide (i.toNat + 2 < s.size) && decide (lo ≤ (bt s (i.toNat + 2) : Int)) && decide ((bt s (i.toNat + 2) : Int) ≤ hi)) := moreB_nat h 2 lo hi
theorem more3 (lo hi : Int) : moreB s (i + 3) lo hi = (decide (i.toNat + 3 < s.size) && decide (lo ≤ (bt s (i.toNat + 3) : Int)) && decide ((bt s (i.toNat + 3) : Int) ≤ hi)) := moreB_nat h 3 lo hi
theorem sbk (k : Nat) : sb s (i + (k : Int)).toNat = (bt s (i.toNat + k) : Int) := by
  rw [show (i + (k : Int)).toNat = i.toNat + k by omega, sb_bt]
theorem sb1 : sb s (i + 1).toNat = (bt s (i.toNat + 1) : Int) := sbk h 1
theorem sb2 : sb s (i + 2).toNat = (bt s (i.toNat + 2) : Int) := sbk h 2
theorem sb3 : sb s (i + 3).toNat = (bt s (i.toNat + 3) : Int) := sbk h 3

theorem form1 (h1 : decide (sb s i.toNat < 128) = true) : formV s i = (sb s i.toNat, 1) := by
  rw [formV_in h, dec_form _ _ _ _ _ _ (bt_lt _ _) (bt_lt _ _) (bt_lt _ _) (bt_lt _ _)]
  simp only [sb_bt, decide_eq_true_eq] at *
  rw [if_pos (by omega)]
  rfl
theorem form2 (h2 : (decide (194 ≤ sb s i.toNat) && decide (sb s i.toNat ≤ 223) && moreB s (i + 1) 128 191) = true) :
    formV s i = (bitI .and .u8 (sb s i.toNat) 31 * 64 + bitI .and .u8 (sb s (i + 1).toNat) 63, 2) := by
  rw [mask31 (sb_nonneg _ _) (sb_lt _ _), mask63 (sb_nonneg _ _) (sb_lt _ _)]
  rw [formV_in h, dec_form _ _ _ _ _ _ (bt_lt _ _) (bt_lt _ _) (bt_lt _ _) (bt_lt _ _)]
  simp only [more1 h, sb1 h, sb_bt, Bool.and_eq_true, decide_eq_true_eq] at *
  rw [if_neg (by omega), if_pos (by omega)]
  simp
theorem form3 (y z : Int) (h0 : decide (224 ≤ sb s i.toNat) = true ∧ decide (sb s i.toNat ≤ 239) = true) (hy : (sb s i.toNat = 224 → 160 ≤ y) ∧ 128 ≤ y) (hz : (sb s i.toNat = 237 → z ≤ 159) ∧ z ≤ 191)
    (h2 : (moreB s (i + 1) y z && moreB s (i + 2) 128 191) = true) :
    formV s i = (bitI .and .u8 (sb s i.toNat) 15 * 4096 + bitI .and .u8 (sb s (i + 1).toNat) 63 * 64 + bitI .and .u8 (sb s (i + 2).toNat) 63, 3) := by
  rw [mask15 (sb_nonneg _ _) (sb_lt _ _), mask63 (sb_nonneg _ _) (sb_lt _ _), mask63 (sb_nonneg _ _) (sb_lt _ _)]
  rw [formV_in h, dec_form _ _ _ _ _ _ (bt_lt _ _) (bt_lt _ _) (bt_lt _ _) (bt_lt _ _)]
  simp only [more1 h, more2 h, sb1 h, sb2 h, sb_bt, Bool.and_eq_true, decide_eq_true_eq] at *
  rw [if_neg (by omega), if_neg (by omega), if_pos (by omega)]
  simp
theorem form4 (y z : Int) (h0 : decide (240 ≤ sb s i.toNat) = true ∧ decide (sb s i.toNat ≤ 244) = true) (hy : (sb s i.toNat = 240 → 144 ≤ y) ∧ 128 ≤ y) (hz : (sb s i.toNat = 244 → z ≤ 143) ∧ z ≤ 191)
    (h2 : (moreB s (i + 1) y z && moreB s (i + 2) 128 191 && moreB s (i + 3) 128 191) = true) :
    formV s i = (bitI .and .u8 (sb s i.toNat) 7 * 262144 + bitI .and .u8 (sb s (i + 1).toNat) 63 * 4096 + bitI .and .u8 (sb s (i + 2).toNat) 63 * 64 + bitI .and .u8 (sb s (i + 3).toNat) 63, 4) := by
  rw [mask7 (sb_nonneg _ _) (sb_lt _ _), mask63 (sb_nonneg _ _) (sb_lt _ _), mask63 (sb_nonneg _ _) (sb_lt _ _), mask63 (sb_nonneg _ _) (sb_lt _ _)]
  rw [formV_in h, dec_form _ _ _ _ _ _ (bt_lt _ _) (bt_lt _ _) (bt_lt _ _) (bt_lt _ _)]
  simp only [more1 h, more2 h, more3 h, sb1 h, sb2 h, sb3 h, sb_bt, Bool.and_eq_true, decide_eq_true_eq] at *
  rw [if_neg (by omega), if_neg (by omega), if_neg (by omega), if_pos (by omega)]
  simp
theorem formBad (h1 : decide (sb s i.toNat < 128) = false) (h2 : (decide (194 ≤ sb s i.toNat) && decide (sb s i.toNat ≤ 223) && moreB s (i + 1) 128 191) = false)
    (h3 : (224 ≤ sb s i.toNat ∧ sb s i.toNat ≤ 239) → ∃ y z : Int, (sb s i.toNat ≠ 224 ∧ y ≤ 128 ∨ y ≤ 160 ∧ sb s i.toNat = 224) ∧ (sb s i.toNat ≠ 237 ∧ 191 ≤ z ∨ 159 ≤ z ∧ sb s i.toNat = 237) ∧ (moreB s (i + 1) y z && moreB s (i + 2) 128 191) = false)
    (h4 : (240 ≤ sb s i.toNat ∧ sb s i.toNat ≤ 244) → ∃ y z : Int, (sb s i.toNat ≠ 240 ∧ y ≤ 128 ∨ y ≤ 144 ∧ sb s i.toNat = 240) ∧ (sb s i.toNat ≠ 244 ∧ 191 ≤ z ∨ 143 ≤ z ∧ sb s i.toNat = 244) ∧ (moreB s (i + 1) y z && moreB s (i + 2) 128 191 && moreB s (i + 3) 128 191) = false) :
    formV s i = (0, 0) := by
  rw [formV_in h, dec_form _ _ _ _ _ _ (bt_lt _ _) (bt_lt _ _) (bt_lt _ _) (bt_lt _ _)]
  simp only [more1 h, more2 h, more3 h, sb_bt, Bool.and_eq_false_iff, decide_eq_false_iff_not] at *
  rw [if_neg (by clear h3 h4; omega), if_neg (by clear h3 h4; omega), if_neg ?_, if_neg ?_]
  · rfl
  · intro hh
    obtain ⟨y, z, h5, h6, h7⟩ := h4 (by clear h3 h4; omega)
    clear h3 h4
    omega
  · intro hh
    obtain ⟨y, z, h5, h6, h7⟩ := h3 (by clear h3 h4; omega)
    clear h3 h4
    omega
end
end Go.Proofs.YteeofakohenpoaaGreatDoor

/- The reference's form of a rune. -/
namespace Go.Proofs.YteeofakohenpoaaGreatDoor
open Go.Sx
set_option linter.unusedVariables false
set_option linter.unusedSimpArgs false
set_option maxRecDepth 100000

theorem drawsMixed : Tryz.prog.follows .mixedOrders = true := by kernel_rfl

theorem inI64_small {n : Int} (h0 : -4611686018427387904 ≤ n) (h1 : n ≤ 4611686018427387904) : inI64 n := by unfold inI64; omega
section
variable {s : ByteArray} {i : Int} (h : 0 ≤ i ∧ i < s.size) (hs : s.size ≤ 9223372036854775807)
include h hs
theorem ob2 (h2 : (decide (194 ≤ sb s i.toNat) && decide (sb s i.toNat ≤ 223) && moreB s (i + 1) 128 191) = true) :
    AllP [inI64 (bitI BinOp.and IntKind.u8 (sb s i.toNat) 31), inI64 (bitI BinOp.and IntKind.u8 (sb s i.toNat) 31 * 64),
      inI64 (i + 1), 0 ≤ i + 1 ∧ i + 1 < ↑s.size, inI64 (bitI BinOp.and IntKind.u8 (sb s (i + 1).toNat) 63),
      inI64 (bitI BinOp.and IntKind.u8 (sb s i.toNat) 31 * 64 + bitI BinOp.and IntKind.u8 (sb s (i + 1).toNat) 63)] := by
  rw [mask31 (sb_nonneg _ _) (sb_lt _ _), mask63 (sb_nonneg _ _) (sb_lt _ _)]
  simp only [moreB, Bool.and_eq_true, decide_eq_true_eq] at h2
  simp only [AllP, inI64]
  omega
theorem ob3 {y z : Int} (h2 : (moreB s (i + 1) y z && moreB s (i + 2) 128 191) = true) :
    AllP [inI64 (bitI BinOp.and IntKind.u8 (sb s i.toNat) 15), inI64 (bitI BinOp.and IntKind.u8 (sb s i.toNat) 15 * 4096),
      inI64 (i + 1), 0 ≤ i + 1 ∧ i + 1 < ↑s.size, inI64 (bitI BinOp.and IntKind.u8 (sb s (i + 1).toNat) 63), inI64 (bitI BinOp.and IntKind.u8 (sb s (i + 1).toNat) 63 * 64),
      inI64 (bitI BinOp.and IntKind.u8 (sb s i.toNat) 15 * 4096 + bitI BinOp.and IntKind.u8 (sb s (i + 1).toNat) 63 * 64),
      inI64 (i + 2), 0 ≤ i + 2 ∧ i + 2 < ↑s.size, inI64 (bitI BinOp.and IntKind.u8 (sb s (i + 2).toNat) 63),
      inI64 (bitI BinOp.and IntKind.u8 (sb s i.toNat) 15 * 4096 + bitI BinOp.and IntKind.u8 (sb s (i + 1).toNat) 63 * 64 + bitI BinOp.and IntKind.u8 (sb s (i + 2).toNat) 63)] := by
  rw [mask15 (sb_nonneg _ _) (sb_lt _ _), mask63 (sb_nonneg _ _) (sb_lt _ _), mask63 (sb_nonneg _ _) (sb_lt _ _)]
  simp only [moreB, Bool.and_eq_true, decide_eq_true_eq] at h2
  simp only [AllP, inI64]
  omega
theorem ob4 {y z : Int} (h2 : (moreB s (i + 1) y z && moreB s (i + 2) 128 191 && moreB s (i + 3) 128 191) = true) :
    AllP [inI64 (bitI BinOp.and IntKind.u8 (sb s i.toNat) 7), inI64 (bitI BinOp.and IntKind.u8 (sb s i.toNat) 7 * 262144),
      inI64 (i + 1), 0 ≤ i + 1 ∧ i + 1 < ↑s.size, inI64 (bitI BinOp.and IntKind.u8 (sb s (i + 1).toNat) 63), inI64 (bitI BinOp.and IntKind.u8 (sb s (i + 1).toNat) 63 * 4096),
      inI64 (bitI BinOp.and IntKind.u8 (sb s i.toNat) 7 * 262144 + bitI BinOp.and IntKind.u8 (sb s (i + 1).toNat) 63 * 4096),
      inI64 (i + 2), 0 ≤ i + 2 ∧ i + 2 < ↑s.size, inI64 (bitI BinOp.and IntKind.u8 (sb s (i + 2).toNat) 63), inI64 (bitI BinOp.and IntKind.u8 (sb s (i + 2).toNat) 63 * 64),
      inI64 (bitI BinOp.and IntKind.u8 (sb s i.toNat) 7 * 262144 + bitI BinOp.and IntKind.u8 (sb s (i + 1).toNat) 63 * 4096 + bitI BinOp.and IntKind.u8 (sb s (i + 2).toNat) 63 * 64),
      inI64 (i + 3), 0 ≤ i + 3 ∧ i + 3 < ↑s.size, inI64 (bitI BinOp.and IntKind.u8 (sb s (i + 3).toNat) 63),
      inI64 (bitI BinOp.and IntKind.u8 (sb s i.toNat) 7 * 262144 + bitI BinOp.and IntKind.u8 (sb s (i + 1).toNat) 63 * 4096 + bitI BinOp.and IntKind.u8 (sb s (i + 2).toNat) 63 * 64 + bitI BinOp.and IntKind.u8 (sb s (i + 3).toNat) 63)] := by
  rw [mask7 (sb_nonneg _ _) (sb_lt _ _), mask63 (sb_nonneg _ _) (sb_lt _ _), mask63 (sb_nonneg _ _) (sb_lt _ _), mask63 (sb_nonneg _ _) (sb_lt _ _)]
  simp only [moreB, Bool.and_eq_true, decide_eq_true_eq] at h2
  simp only [AllP, inI64]
  omega
end
theorem no34 {a : Int} (h : (decide (224 ≤ a) && decide (a ≤ 239)) = true) : ¬ (decide (240 ≤ a) && decide (a ≤ 244)) = true := by
  simp only [Bool.and_eq_true, decide_eq_true_eq] at *; omega
theorem no34' {a : Int} (h : (decide (224 ≤ a) && decide (a ≤ 239)) = true) : ¬ (240 ≤ a ∧ a ≤ 244) := by
  simp only [Bool.and_eq_true, decide_eq_true_eq] at *; omega
theorem no34f {a : Int} (h : (decide (224 ≤ a) && decide (a ≤ 239)) = false) : ¬ (224 ≤ a ∧ a ≤ 239) := by
  simp only [Bool.and_eq_false_iff, decide_eq_false_iff_not] at *; omega
theorem no34g {a : Int} (h : (decide (240 ≤ a) && decide (a ≤ 244)) = false) : ¬ (240 ≤ a ∧ a ≤ 244) := by
  simp only [Bool.and_eq_false_iff, decide_eq_false_iff_not] at *; omega

theorem mlt1 {s : ByteArray} {i lo hi : Int} (h : moreB s (i + 1) lo hi = true) : i + 2 ≤ s.size := by
  simp only [moreB, Bool.and_eq_true, decide_eq_true_eq] at h; omega
theorem mlt2 {s : ByteArray} {i lo hi lo' hi' : Int} (h : (moreB s (i + 1) lo hi && moreB s (i + 2) lo' hi') = true) : i + 3 ≤ s.size := by
  simp only [moreB, Bool.and_eq_true, decide_eq_true_eq] at h; omega

set_option maxHeartbeats 4000000 in
theorem form_spec (s : ByteArray) (i : Int) (hs : s.size ≤ 9223372036854775807) : Pure PG 60 [vs s, vi i] (.tup [vi (formV s i).1, vi (formV s i).2]) [] := by
  refine Proc.mk (cfg 145) tysOK [] Tryz.func60 rfl (by kernel_rfl) rfl rfl rfl ?_
  intro C x
  refine x.cond rfl trivial (fun h0 => ?_) (fun h0 => ?_)
  · refine x.exit rfl trivial ?_
    refine ⟨.inr rfl, ?_, trivial, rfl⟩
    rw [formV_out (by simp at h0; omega)]
    exact ⟨rfl, rfl, trivial⟩
  have hi : 0 ≤ i ∧ i < s.size := by
    simp only [Bool.or_eq_false_iff, decide_eq_false_iff_not] at h0
    omega
  have hin : ∀ k : Int, 0 ≤ k ∧ i + k ≤ s.size → inI64 (i + k) := fun k hk => by unfold inI64; omega
  have hm : ∀ k lo hi : Int, 0 ≤ k → Pure PG 77 [vs s, vi (i + k), .d (.int .u8 lo), .d (.int .u8 hi)] (vb (moreB s (i + k) lo hi)) [] := fun k lo hi hk => more_spec s (i + k) lo hi (by omega)
  have hsb := sb_nonneg s i.toNat
  have hsb' := sb_lt s i.toNat
  refine x.cond rfl hi (fun h1 => ?_) (fun h1 => ?_)
  · refine x.exit rfl ?_ ?_
    · show inI64 _
      unfold inI64
      omega
    refine ⟨.inr rfl, ?_, trivial, rfl⟩
    rw [form1 hi h1]
    exact ⟨rfl, rfl, trivial⟩
  refine x.pureG rfl (fun _ => hin 1 (by omega)) rfl (fun _ => hm 1 128 191 (by omega)) rfl ⟨rfl, rfl, rfl, rfl, trivial⟩ ?_
  refine x.cond rfl trivial (fun h2 => ?_) (fun h2 => ?_)
  · refine x.exit rfl (ob2 hi hs h2) ?_
    refine ⟨.inr rfl, ?_, trivial, rfl⟩
    rw [form2 hi h2]
    exact ⟨rfl, rfl, trivial⟩
  refine x.cond rfl trivial (fun h3 => ?_) (fun h3 => ?_)
  · refine x.cond rfl trivial (fun h4 => ?_) (fun h4 => ?_)
    · refine x.cond rfl trivial (fun h5 => ?_) (fun h5 => ?_)
      · simp at h4 h5; omega
      · have hy : (sb s i.toNat = 224 → (160:Int) ≤ 160) ∧ (128:Int) ≤ 160 := by omega
        have hz : (sb s i.toNat = 237 → (191:Int) ≤ 159) ∧ (191:Int) ≤ 191 := by simp at h4 h5; omega
        refine x.pure rfl (by exact hin 1 (by omega)) rfl (hm 1 160 191 (by omega)) ⟨rfl, rfl, rfl, rfl, trivial⟩ ?_
        refine x.pureG rfl (fun hg => hin 2 ⟨by omega, mlt1 hg⟩) rfl (fun _ => hm 2 128 191 (by omega)) rfl ⟨rfl, rfl, rfl, rfl, trivial⟩ ?_
        refine x.cond rfl trivial (fun h6 => ?_) (fun h6 => ?_)
        · refine x.quiet rfl trivial drawsMixed (by kernel_rfl) ?_
          refine x.qdone rfl ?_ ?_
          · exact ob3 hi hs h6
          refine x.exit rfl trivial ?_
          refine ⟨.inr rfl, ?_, trivial, rfl⟩
          rw [form3 hi 160 191 (Bool.and_eq_true_iff.1 h3) (by first | exact hy | (simp at * <;> omega)) (by first | exact hz | (simp at * <;> omega)) h6]
          exact ⟨rfl, rfl, trivial⟩
        · refine x.cond rfl trivial (fun h7 => absurd h7 (no34 h3)) (fun h7 => ?_)
          refine x.exit rfl trivial ?_
          refine ⟨.inr rfl, ?_, trivial, rfl⟩
          rw [formBad hi h1 h2 (fun _ => ⟨160, 191, by simp at * <;> omega, by simp at * <;> omega, h6⟩) (fun h8 => absurd h8 (no34' h3))]
          exact ⟨rfl, rfl, trivial⟩
    · refine x.cond rfl trivial (fun h5 => ?_) (fun h5 => ?_)
      · have hy : (sb s i.toNat = 224 → (160:Int) ≤ 128) ∧ (128:Int) ≤ 128 := by simp at h4 h5; omega
        have hz : (sb s i.toNat = 237 → (159:Int) ≤ 159) ∧ (159:Int) ≤ 191 := by omega
        refine x.pure rfl (by exact hin 1 (by omega)) rfl (hm 1 128 159 (by omega)) ⟨rfl, rfl, rfl, rfl, trivial⟩ ?_
        refine x.pureG rfl (fun hg => hin 2 ⟨by omega, mlt1 hg⟩) rfl (fun _ => hm 2 128 191 (by omega)) rfl ⟨rfl, rfl, rfl, rfl, trivial⟩ ?_
        refine x.cond rfl trivial (fun h6 => ?_) (fun h6 => ?_)
        · refine x.quiet rfl trivial drawsMixed (by kernel_rfl) ?_
          refine x.qdone rfl ?_ ?_
          · exact ob3 hi hs h6
          refine x.exit rfl trivial ?_
          refine ⟨.inr rfl, ?_, trivial, rfl⟩
          rw [form3 hi 128 159 (Bool.and_eq_true_iff.1 h3) (by first | exact hy | (simp at * <;> omega)) (by first | exact hz | (simp at * <;> omega)) h6]
          exact ⟨rfl, rfl, trivial⟩
        · refine x.cond rfl trivial (fun h7 => absurd h7 (no34 h3)) (fun h7 => ?_)
          refine x.exit rfl trivial ?_
          refine ⟨.inr rfl, ?_, trivial, rfl⟩
          rw [formBad hi h1 h2 (fun _ => ⟨128, 159, by simp at * <;> omega, by simp at * <;> omega, h6⟩) (fun h8 => absurd h8 (no34' h3))]
          exact ⟨rfl, rfl, trivial⟩
      · have hy : (sb s i.toNat = 224 → (160:Int) ≤ 128) ∧ (128:Int) ≤ 128 := by simp at h4 h5; omega
        have hz : (sb s i.toNat = 237 → (191:Int) ≤ 159) ∧ (191:Int) ≤ 191 := by simp at h4 h5; omega
        refine x.pure rfl (by exact hin 1 (by omega)) rfl (hm 1 128 191 (by omega)) ⟨rfl, rfl, rfl, rfl, trivial⟩ ?_
        refine x.pureG rfl (fun hg => hin 2 ⟨by omega, mlt1 hg⟩) rfl (fun _ => hm 2 128 191 (by omega)) rfl ⟨rfl, rfl, rfl, rfl, trivial⟩ ?_
        refine x.cond rfl trivial (fun h6 => ?_) (fun h6 => ?_)
        · refine x.quiet rfl trivial drawsMixed (by kernel_rfl) ?_
          refine x.qdone rfl ?_ ?_
          · exact ob3 hi hs h6
          refine x.exit rfl trivial ?_
          refine ⟨.inr rfl, ?_, trivial, rfl⟩
          rw [form3 hi 128 191 (Bool.and_eq_true_iff.1 h3) (by first | exact hy | (simp at * <;> omega)) (by first | exact hz | (simp at * <;> omega)) h6]
          exact ⟨rfl, rfl, trivial⟩
        · refine x.cond rfl trivial (fun h7 => absurd h7 (no34 h3)) (fun h7 => ?_)
          refine x.exit rfl trivial ?_
          refine ⟨.inr rfl, ?_, trivial, rfl⟩
          rw [formBad hi h1 h2 (fun _ => ⟨128, 191, by simp at * <;> omega, by simp at * <;> omega, h6⟩) (fun h8 => absurd h8 (no34' h3))]
          exact ⟨rfl, rfl, trivial⟩
  refine x.cond rfl trivial (fun h7 => ?_) (fun h7 => ?_)
  · refine x.cond rfl trivial (fun h4 => ?_) (fun h4 => ?_)
    · refine x.cond rfl trivial (fun h5 => ?_) (fun h5 => ?_)
      · simp at h4 h5; omega
      · refine x.pure rfl (by exact hin 1 (by omega)) rfl (hm 1 144 191 (by omega)) ⟨rfl, rfl, rfl, rfl, trivial⟩ ?_
        refine x.pureG rfl (fun hg => hin 2 ⟨by omega, mlt1 hg⟩) rfl (fun _ => hm 2 128 191 (by omega)) rfl ⟨rfl, rfl, rfl, rfl, trivial⟩ ?_
        refine x.pureG rfl (fun hg => hin 3 ⟨by omega, mlt2 hg⟩) rfl (fun _ => hm 3 128 191 (by omega)) rfl ⟨rfl, rfl, rfl, rfl, trivial⟩ ?_
        refine x.cond rfl trivial (fun h6 => ?_) (fun h6 => ?_)
        · refine x.quiet rfl trivial drawsMixed (by kernel_rfl) ?_
          refine x.qdone rfl ?_ ?_
          · exact ob4 hi hs h6
          refine x.exit rfl trivial ?_
          refine ⟨.inr rfl, ?_, trivial, rfl⟩
          rw [form4 hi 144 191 (Bool.and_eq_true_iff.1 h7) (by simp at * <;> omega) (by simp at * <;> omega) h6]
          exact ⟨rfl, rfl, trivial⟩
        · refine x.exit rfl trivial ?_
          refine ⟨.inr rfl, ?_, trivial, rfl⟩
          rw [formBad hi h1 h2 (fun h8 => absurd h8 (no34f h3)) (fun _ => ⟨144, 191, by simp at * <;> omega, by simp at * <;> omega, h6⟩)]
          exact ⟨rfl, rfl, trivial⟩
    · refine x.cond rfl trivial (fun h5 => ?_) (fun h5 => ?_)
      · refine x.pure rfl (by exact hin 1 (by omega)) rfl (hm 1 128 143 (by omega)) ⟨rfl, rfl, rfl, rfl, trivial⟩ ?_
        refine x.pureG rfl (fun hg => hin 2 ⟨by omega, mlt1 hg⟩) rfl (fun _ => hm 2 128 191 (by omega)) rfl ⟨rfl, rfl, rfl, rfl, trivial⟩ ?_
        refine x.pureG rfl (fun hg => hin 3 ⟨by omega, mlt2 hg⟩) rfl (fun _ => hm 3 128 191 (by omega)) rfl ⟨rfl, rfl, rfl, rfl, trivial⟩ ?_
        refine x.cond rfl trivial (fun h6 => ?_) (fun h6 => ?_)
        · refine x.quiet rfl trivial drawsMixed (by kernel_rfl) ?_
          refine x.qdone rfl ?_ ?_
          · exact ob4 hi hs h6
          refine x.exit rfl trivial ?_
          refine ⟨.inr rfl, ?_, trivial, rfl⟩
          rw [form4 hi 128 143 (Bool.and_eq_true_iff.1 h7) (by simp at * <;> omega) (by simp at * <;> omega) h6]
          exact ⟨rfl, rfl, trivial⟩
        · refine x.exit rfl trivial ?_
          refine ⟨.inr rfl, ?_, trivial, rfl⟩
          rw [formBad hi h1 h2 (fun h8 => absurd h8 (no34f h3)) (fun _ => ⟨128, 143, by simp at * <;> omega, by simp at * <;> omega, h6⟩)]
          exact ⟨rfl, rfl, trivial⟩
      · refine x.pure rfl (by exact hin 1 (by omega)) rfl (hm 1 128 191 (by omega)) ⟨rfl, rfl, rfl, rfl, trivial⟩ ?_
        refine x.pureG rfl (fun hg => hin 2 ⟨by omega, mlt1 hg⟩) rfl (fun _ => hm 2 128 191 (by omega)) rfl ⟨rfl, rfl, rfl, rfl, trivial⟩ ?_
        refine x.pureG rfl (fun hg => hin 3 ⟨by omega, mlt2 hg⟩) rfl (fun _ => hm 3 128 191 (by omega)) rfl ⟨rfl, rfl, rfl, rfl, trivial⟩ ?_
        refine x.cond rfl trivial (fun h6 => ?_) (fun h6 => ?_)
        · refine x.quiet rfl trivial drawsMixed (by kernel_rfl) ?_
          refine x.qdone rfl ?_ ?_
          · exact ob4 hi hs h6
          refine x.exit rfl trivial ?_
          refine ⟨.inr rfl, ?_, trivial, rfl⟩
          rw [form4 hi 128 191 (Bool.and_eq_true_iff.1 h7) (by simp at * <;> omega) (by simp at * <;> omega) h6]
          exact ⟨rfl, rfl, trivial⟩
        · refine x.exit rfl trivial ?_
          refine ⟨.inr rfl, ?_, trivial, rfl⟩
          rw [formBad hi h1 h2 (fun h8 => absurd h8 (no34f h3)) (fun _ => ⟨128, 191, by simp at * <;> omega, by simp at * <;> omega, h6⟩)]
          exact ⟨rfl, rfl, trivial⟩
  · refine x.exit rfl trivial ?_
    refine ⟨.inr rfl, ?_, trivial, rfl⟩
    rw [formBad hi h1 h2 (fun h8 => absurd h8 (no34f h3)) (fun h8 => absurd h8 (no34g h7))]
    exact ⟨rfl, rfl, trivial⟩
end Go.Proofs.YteeofakohenpoaaGreatDoor

/- The reference's step to the next rune; places in a text. -/
namespace Go.Proofs.YteeofakohenpoaaGreatDoor
open Go.Sx
set_option linter.unusedVariables false
set_option linter.unusedSimpArgs false
set_option maxRecDepth 100000

/-- Behind the rune at i. -/
def nextV (s : ByteArray) (i : Int) : Int := if (formV s i).2 = 0 then i + 1 else i + (formV s i).2

theorem formV_len (s : ByteArray) (i : Int) : 0 ≤ (formV s i).2 ∧ (formV s i).2 ≤ 4 := by
  by_cases h : 0 ≤ i ∧ i < s.size
  · rw [formV_in h, dec_form _ _ _ _ _ _ (bt_lt _ _) (bt_lt _ _) (bt_lt _ _) (bt_lt _ _)]
    repeat' split
    all_goals simp
  · rw [formV_out h]; simp

theorem formV_room (s : ByteArray) (i : Int) (h : 0 ≤ i ∧ i < s.size) : i + (formV s i).2 ≤ s.size := by
  rw [formV_in h, dec_form _ _ _ _ _ _ (bt_lt _ _) (bt_lt _ _) (bt_lt _ _) (bt_lt _ _)]
  repeat' split
  all_goals (simp; omega)
theorem nextV_room (s : ByteArray) (i : Int) (h : 0 ≤ i ∧ i < s.size) : nextV s i ≤ s.size := by
  have := formV_room s i h
  unfold nextV
  split <;> omega

theorem next_spec (s : ByteArray) (i : Int) (hs : s.size ≤ 9223372036854775807) (hi : 0 ≤ i ∧ i < s.size) : Pure PG 59 [vs s, vi i] (vi (nextV s i)) [] := by
  refine Proc.mk (cfg 20) tysOK [] Tryz.func59 rfl (by kernel_rfl) rfl rfl rfl ?_
  intro C x
  have hl := formV_len s i
  have hr := formV_room s i hi
  refine x.pure rfl trivial rfl (form_spec s i hs) ⟨rfl, rfl, trivial⟩ ?_
  refine x.cond rfl trivial (fun h0 => ?_) (fun h0 => ?_)
  · refine x.exit rfl (show inI64 (i + 1) by unfold inI64; omega) ?_
    refine ⟨.inr rfl, ?_, trivial, rfl⟩
    rw [nextV, if_pos (by simpa using h0)]
    exact rfl
  · refine x.exit rfl (show inI64 (i + (formV s i).2) by unfold inI64; omega) ?_
    refine ⟨.inr rfl, ?_, trivial, rfl⟩
    rw [nextV, if_neg (by simpa using h0)]
    exact rfl
end Go.Proofs.YteeofakohenpoaaGreatDoor

/- Plain facts on runes. -/
namespace Go.Proofs.YteeofakohenpoaaGreatDoor
open Go.Sx
set_option linter.unusedVariables false
set_option linter.unusedSimpArgs false
set_option maxRecDepth 100000

theorem decode_pos (s : ByteArray) (p : Nat) : 1 ≤ (Utf8.decode s p).2 ∧ (Utf8.decode s p).2 ≤ 4 ∧ (Utf8.decode s p).1 < 4294967296 := by
  rw [decode_eq]
  have h0 := bt_lt s p
  unfold dec
  repeat' split
  all_goals simp
  all_goals omega

theorem veq_int {k : IntKind} {a b : Int} (h : a = b) : VEq (.d (.int k a)) (.d (.int k b)) := by subst h; cases k <;> exact rfl
theorem nextV_gt (s : ByteArray) (i : Int) : i + 1 ≤ nextV s i ∧ nextV s i ≤ i + 4 := by
  have := formV_len s i
  unfold nextV
  split <;> omega

end Go.Proofs.YteeofakohenpoaaGreatDoor

/- How many runes a text has, and where a bad one stands: the reference's. -/
namespace Go.Proofs.YteeofakohenpoaaGreatDoor
open Go.Sx
set_option linter.unusedVariables false
set_option linter.unusedSimpArgs false
set_option maxRecDepth 100000

def runesV (s : ByteArray) : Nat → Int → Int → Int
  | 0, _, c => c
  | n + 1, i, c => if i < s.size then runesV s n (nextV s i) (c + 1) else c
theorem runesV_end {s : ByteArray} {n : Nat} {i c : Int} (h : ¬ i < s.size) : runesV s n i c = c := by
  cases n with
  | zero => rfl
  | succ n => rw [runesV, if_neg h]
def badV (s : ByteArray) : Nat → Int → Int
  | 0, _ => -1
  | n + 1, i => if i < s.size then if (formV s i).2 = 0 then i else badV s n (i + (formV s i).2) else -1
theorem badV_end {s : ByteArray} {n : Nat} {i : Int} (h : ¬ i < s.size) : badV s n i = -1 := by
  cases n with
  | zero => rfl
  | succ n => rw [badV, if_neg h]

structure RI (s : ByteArray) where
  n : Nat
  i : Int
  c : Int
  fuel : (s.size : Int) ≤ i + n
  same : runesV s n i c = runesV s s.size 0 0
  hc : 0 ≤ c ∧ c ≤ i
  hi : 0 ≤ i ∧ i ≤ s.size

theorem runes_spec (s : ByteArray) (hs : s.size ≤ 9223372036854775807) : Pure PG 58 [vs s] (vi (runesV s s.size 0 0)) [] := by
  refine Proc.mk (cfg 15) tysOK [] Tryz.func58 rfl (by kernel_rfl) rfl rfl rfl ?_
  intro C x
  refine x.loop (α := RI s) (fun y => ⟨[(0, vs s), (3, vi y.c), (4, vi y.i)], [], 0⟩) (fun y => (s.size + 4 - y.i).toNat) ⟨s.size, 0, 0, by omega, rfl, by omega, by omega⟩ rfl trivial ?_ (fun y => ?_)
  · exact ⟨⟨rfl, rfl, rfl, trivial⟩, trivial, rfl⟩
  obtain ⟨n, i, c, fuel, same, hc, hi⟩ := y
  change Go C _ ⟨[(0, vs s), (3, vi c), (4, vi i)], [], 0⟩ _
  refine x.cond rfl trivial (fun h => ?_) (fun h => ?_)
  · have h' : i < s.size := by simpa using h
    have hn := nextV_gt s i
    have hr := nextV_room s i (by omega)
    refine x.pure rfl (show inI64 (c + 1) by unfold inI64; omega) rfl (next_spec s i hs (by omega)) ⟨rfl, rfl, trivial⟩ ?_
    refine x.back rfl trivial ?_
    cases n with
    | zero => omega
    | succ n =>
      rw [runesV, if_pos h'] at same
      refine ⟨⟨n, nextV s i, c + 1, by omega, same, by omega, by omega⟩, by show ((s.size : Int) + 4 - nextV s i).toNat < ((s.size : Int) + 4 - i).toNat; omega, ?_⟩
      exact ⟨⟨rfl, rfl, rfl, trivial⟩, trivial, rfl⟩
  · have h' : ¬ i < s.size := by simpa using h
    refine x.exit rfl trivial ?_
    refine ⟨.inr rfl, ?_, trivial, rfl⟩
    rw [← same, runesV_end h']
    exact rfl

structure BI (s : ByteArray) where
  n : Nat
  i : Int
  fuel : (s.size : Int) ≤ i + n
  same : badV s n i = badV s s.size 0
  hi : 0 ≤ i ∧ i ≤ s.size

theorem bad_spec (s : ByteArray) (hs : s.size ≤ 9223372036854775807) : Pure PG 57 [vs s] (vi (badV s s.size 0)) [] := by
  refine Proc.mk (cfg 22) tysOK [] Tryz.func57 rfl (by kernel_rfl) rfl rfl rfl ?_
  intro C x
  refine x.loop (α := BI s) (fun y => ⟨[(0, vs s), (3, vi y.i)], [], 0⟩) (fun y => (s.size + 4 - y.i).toNat) ⟨s.size, 0, by omega, rfl, by omega⟩ rfl trivial ?_ (fun y => ?_)
  · exact ⟨⟨rfl, rfl, trivial⟩, trivial, rfl⟩
  obtain ⟨n, i, fuel, same, hi⟩ := y
  change Go C _ ⟨[(0, vs s), (3, vi i)], [], 0⟩ _
  refine x.cond rfl trivial (fun h => ?_) (fun h => ?_)
  · have h' : i < s.size := by simpa using h
    have hl := formV_len s i
    have hr := formV_room s i (by omega)
    refine x.pure rfl trivial rfl (form_spec s i hs) ⟨rfl, rfl, trivial⟩ ?_
    cases n with
    | zero => omega
    | succ n =>
      rw [badV, if_pos h'] at same
      refine x.cond rfl trivial (fun h1 => ?_) (fun h1 => ?_)
      · have h1' : (formV s i).2 = 0 := by simpa using h1
        rw [if_pos h1'] at same
        refine x.exit rfl trivial ?_
        refine ⟨.inr rfl, ?_, trivial, rfl⟩
        rw [← same]
        exact rfl
      · have h1' : ¬ (formV s i).2 = 0 := by simpa using h1
        rw [if_neg h1'] at same
        refine x.back rfl (show inI64 (i + (formV s i).2) by unfold inI64; omega) ?_
        refine ⟨⟨n, i + (formV s i).2, by omega, same, by omega⟩, by show ((s.size : Int) + 4 - (i + (formV s i).2)).toNat < ((s.size : Int) + 4 - i).toNat; omega, ?_⟩
        exact ⟨⟨rfl, rfl, trivial⟩, trivial, rfl⟩
  · have h' : ¬ i < s.size := by simpa using h
    refine x.exit rfl trivial ?_
    refine ⟨.inr rfl, ?_, trivial, rfl⟩
    rw [← same, badV_end h']
    exact rfl
end Go.Proofs.YteeofakohenpoaaGreatDoor

/- A rune's form where it stands. -/
namespace Go.Proofs.YteeofakohenpoaaGreatDoor
open Go.Sx
set_option linter.unusedVariables false
set_option linter.unusedSimpArgs false
set_option maxRecDepth 100000

theorem dec_bad (sz p a b c d : Nat) (h1 : (dec sz p a b c d).2 = 1) (h2 : 128 ≤ a) : (dec sz p a b c d).1 = 65533 := by
  unfold dec at *
  split
  · omega
  split
  · rw [if_neg (by omega)] at h1
    split
    · rename_i h3 h4 h5; rw [if_pos h4, if_pos h5] at h1; simp at h1
    · rfl
  split
  · rename_i h3 h4 h5
    rw [if_neg h3, if_neg h4, if_pos h5] at h1
    split
    · rename_i h6; rw [if_pos h6] at h1; simp at h1
    · rfl
  split
  · rename_i h3 h4 h5 h6
    rw [if_neg h3, if_neg h4, if_neg h5, if_pos h6] at h1
    split
    · rename_i h7; rw [if_pos h7] at h1; simp at h1
    · rfl
  · rfl

theorem formV_at {s : ByteArray} {p : Nat} (h : p < s.size) : formV s (p : Int) = if (Utf8.decode s p).2 = 1 ∧ 128 ≤ bt s p then (0, 0) else (((Utf8.decode s p).1 : Int), ((Utf8.decode s p).2 : Int)) := by
  unfold formV
  rw [if_pos (by omega), Int.toNat_natCast]
theorem nextV_at {s : ByteArray} {p : Nat} (h : p < s.size) : nextV s (p : Int) = ((p + (Utf8.decode s p).2 : Nat) : Int) := by
  have hd := decode_pos s p
  unfold nextV
  rw [formV_at h]
  by_cases h1 : (Utf8.decode s p).2 = 1 ∧ 128 ≤ bt s p
  · rw [if_pos h1, if_pos rfl, h1.1]; rfl
  · rw [if_neg h1, if_neg (by show ¬ ((Utf8.decode s p).2 : Int) = 0; omega)]; rfl
end Go.Proofs.YteeofakohenpoaaGreatDoor

/- Where bytes are no text, and how many runes they have: the program's own. -/
namespace Go.Proofs.YteeofakohenpoaaGreatDoor
open Go.Sx
set_option linter.unusedVariables false
set_option linter.unusedSimpArgs false
set_option maxRecDepth 100000

theorem tabs_of_env {F : Nat → Prop} {w : World} (h : EnvOK PG.env F w) : Lib.Utf8Tabs 2 3 w := by
  refine ⟨fun c hc => (h _ _ _ (.head _)).2 c hc, fun i hi => ⟨?_, ?_⟩⟩
  · have := (h _ _ _ (.tail _ (.head _))).2 (2 * i) (by omega)
    rw [this, if_pos (by omega), show 2 * i / 2 = i by omega]
  · have := (h _ _ _ (.tail _ (.head _))).2 (2 * i + 1) (by omega)
    rw [this, if_neg (by omega), show (2 * i + 1) / 2 = i by omega]

theorem env_of_tabs {W : World} (h : Lib.Utf8Tabs 2 3 W)
    (hN : ∀ j, j < 13 → W.cell? ⟨0, j, none⟩ = some (.string (opAt j)))
    : EnvOK PG.env (fun k => k < W.heap.size) W := by
  have lt : ∀ {b j : Nat} {v : Value}, W.cell? ⟨b, j, none⟩ = some v → b < W.heap.size := fun {b j v} hc => by
    refine Classical.byContradiction fun hn => ?_
    have : W.heap[b]? = none := Array.getElem?_eq_none (by omega)
    simp [World.cell?, this] at hc
  intro g n f hm
  rcases List.mem_cons.1 hm with e | hm
  · simp only [Prod.mk.injEq] at e
    obtain ⟨rfl, rfl, rfl⟩ := e
    exact ⟨lt (h.1 0 (by omega)), fun j hj => h.1 j hj⟩
  · rcases List.mem_cons.1 hm with e | hm
    · simp only [Prod.mk.injEq] at e
      obtain ⟨rfl, rfl, rfl⟩ := e
      refine ⟨lt (h.2 0 (by omega)).1, fun j hj => ?_⟩
      obtain ⟨h1, h2⟩ := h.2 (j / 2) (by omega)
      by_cases hj2 : j % 2 = 0
      · have e : 2 * (j / 2) = j := by omega
        dsimp only
        rw [if_pos hj2, ← h1, e]
      · have e : 2 * (j / 2) + 1 = j := by omega
        dsimp only
        rw [if_neg hj2, ← h2, e]
    · rcases List.mem_cons.1 hm with e | hm
      · simp only [Prod.mk.injEq] at e
        obtain ⟨rfl, rfl, rfl⟩ := e
        exact ⟨lt (hN 0 (by omega)), fun j hj => hN j hj⟩
      · cases hm

theorem decodeRune_spec (s : ByteArray) : Pure PG 78 [vs s] (.tup [.d (.int .i32 ((Lib.decodeGo s).1 : Int)), vi ((Lib.decodeGo s).2 : Int)]) [] :=
  Pure.ofLib (vals := [.string s]) (callable_of Tryz.func78 (by kernel_rfl) (by kernel_rfl)) rfl rfl rfl rfl fun w F hE => Tryz.utf8_DecodeRuneInString s w (tabs_of_env hE)

theorem extract_data (s : ByteArray) (p : Nat) : (s.extract p s.size).data.toList = s.data.toList.drop p := by
  rw [ByteArray.data_extract, Array.toList_extract]
  show (s.data.toList.drop p).take (s.size - p) = _
  rw [List.take_of_length_le]
  rw [List.length_drop, show s.data.toList.length = s.size from Array.length_toList]
  omega
theorem extract_size (s : ByteArray) (p : Nat) : (s.extract p s.size).size = s.size - p := by
  rw [show (s.extract p s.size).size = (s.extract p s.size).data.toList.length from (Array.length_toList).symm, extract_data, List.length_drop, Array.length_toList]
  rfl
theorem bt_getD (s : ByteArray) (i : Nat) : bt s i = (s.data.toList.getD i 0).toNat := by
  have := sb_bt s i
  unfold sb at this
  omega
theorem bt_extract (s : ByteArray) (p k : Nat) : bt (s.extract p s.size) k = bt s (p + k) := by
  rw [bt_getD, bt_getD, extract_data, List.getD_eq_getElem?_getD, List.getD_eq_getElem?_getD, List.getElem?_drop]
theorem dec_back (sz p a b c d : Nat) (h : p ≤ sz) : dec (sz - p) 0 a b c d = dec sz p a b c d := by
  unfold dec
  have h1 : (0 + 1 < sz - p) ↔ (p + 1 < sz) := by omega
  have h2 : (0 + 2 < sz - p) ↔ (p + 2 < sz) := by omega
  have h3 : (0 + 3 < sz - p) ↔ (p + 3 < sz) := by omega
  simp only [h1, h2, h3]
theorem decodeGo_at {s : ByteArray} {p : Nat} (h : p < s.size) : Lib.decodeGo (s.extract p s.size) = Utf8.decode s p := by
  unfold Lib.decodeGo
  rw [if_neg (by rw [extract_size]; omega), decode_eq, decode_eq, extract_size, dec_back _ _ _ _ _ _ (by omega)]
  simp only [bt_extract, Nat.zero_add, Nat.add_zero]

theorem form_zero {s : ByteArray} {p : Nat} (h : p < s.size) : (formV s (p : Int)).2 = 0 ↔ (Utf8.decode s p).1 = 65533 ∧ (Utf8.decode s p).2 = 1 := by
  obtain ⟨d1, d2, d3⟩ := decode_pos s p
  rw [formV_at h]
  constructor
  · intro hz
    split at hz
    · rename_i hb
      refine ⟨?_, hb.1⟩
      rw [decode_eq] at hb ⊢
      exact dec_bad _ _ _ _ _ _ hb.1 hb.2
    · have : ((Utf8.decode s p).2 : Int) = 0 := hz
      omega
  · rintro ⟨h1, h2⟩
    have h128 : 128 ≤ bt s p := Classical.byContradiction fun hlt => by
      rw [decode_eq, dec, if_pos (by omega)] at h1
      have h1' : bt s p = 65533 := h1
      omega
    rw [if_pos ⟨h2, h128⟩]

structure BW (s : ByteArray) where
  n : Nat
  p : Nat
  fuel : s.size ≤ p + n
  same : badV s n p = badV s s.size 0
  hp : p ≤ s.size + 4

theorem badW_spec (s : ByteArray) (hs : s.size ≤ 9223372036854775807) : Pure PG 63 [vs s] (vi (badV s s.size 0)) [] := by
  refine Proc.mk (cfg 25) tysOK [] Tryz.func63 rfl (by kernel_rfl) rfl rfl rfl ?_
  intro C x
  refine x.loop (α := BW s) (fun y => ⟨[(0, vs s), (8, .ptr 0 0)], [(0, .iter s y.p)], 1⟩) (fun y => s.size + 4 - y.p) ⟨s.size, 0, by omega, rfl, by omega⟩ rfl trivial ?_ (fun y => ?_)
  · exact ⟨⟨rfl, ⟨rfl, rfl⟩, trivial⟩, ⟨⟨rfl, rfl⟩, trivial⟩, rfl⟩
  obtain ⟨n, p, fuel, same, hp⟩ := y
  change Go C _ ⟨[(0, vs s), (8, .ptr 0 0)], [(0, .iter s p)], 1⟩ _
  obtain ⟨d1, d2, d3⟩ := decode_pos s p
  refine x.next rfl trivial rfl rfl rfl (fun h => ?_) (fun h => ?_)
  · have h : p < s.size := h
    refine x.cond rfl trivial (fun _ => ?_) (fun h1 => by cases h1)
    cases n with
    | zero => omega
    | succ n =>
      have hz := form_zero h
      rw [badV, if_pos (by omega)] at same
      have hgo : ¬ (formV s (p : Int)).2 = 0 → (p : Int) + (formV s (p : Int)).2 = ((p + (Utf8.decode s p).2 : Nat) : Int) := fun hne => by
        rw [formV_at h] at hne ⊢
        split
        · rename_i hb; rw [if_pos hb] at hne; exact absurd rfl hne
        · rfl
      have next : ¬ (formV s (p : Int)).2 = 0 → ∃ y : BW s, y.p = p + (Utf8.decode s p).2 := fun hne => by
        rw [if_neg hne, hgo hne] at same
        exact ⟨⟨n, p + (Utf8.decode s p).2, by omega, same, by omega⟩, rfl⟩
      refine x.cond rfl trivial (fun h2 => ?_) (fun h2 => ?_)
      · have h2' : (Utf8.decode s p).1 = 65533 := by
          simp only [decide_eq_true_eq] at h2
          omega
        refine x.pure rfl ?_ rfl (decodeRune_spec (s.extract p s.size)) ⟨?_, trivial⟩ ?_
        · simp only [AllP]; omega
        · show s.extract (p : Int).toNat (s.size : Int).toNat = s.extract p s.size
          rw [Int.toNat_natCast, Int.toNat_natCast]
        rw [decodeGo_at h]
        refine x.cond rfl trivial (fun h3 => ?_) (fun h3 => ?_)
        · have h3' : (Utf8.decode s p).2 = 1 := by
            simp only [decide_eq_true_eq] at h3
            omega
          rw [if_pos (hz.2 ⟨h2', h3'⟩)] at same
          refine x.exit rfl trivial ?_
          refine ⟨.inr rfl, ?_, trivial, rfl⟩
          rw [← same]
          exact rfl
        · have h3' : ¬ (Utf8.decode s p).2 = 1 := by
            simp only [decide_eq_false_iff_not] at h3
            omega
          obtain ⟨y, hy⟩ := next (fun e => h3' (hz.1 e).2)
          refine x.back rfl trivial ⟨y, by show s.size + 4 - y.p < s.size + 4 - p; rw [hy]; omega, ⟨rfl, ⟨rfl, rfl⟩, trivial⟩, ⟨⟨rfl, hy.symm⟩, trivial⟩, rfl⟩
      · have h2' : ¬ (Utf8.decode s p).1 = 65533 := by
          simp only [decide_eq_false_iff_not] at h2
          omega
        obtain ⟨y, hy⟩ := next (fun e => h2' (hz.1 e).1)
        refine x.back rfl trivial ⟨y, by show s.size + 4 - y.p < s.size + 4 - p; rw [hy]; omega, ⟨rfl, ⟨rfl, rfl⟩, trivial⟩, ⟨⟨rfl, hy.symm⟩, trivial⟩, rfl⟩
  · have h : ¬ p < s.size := h
    refine x.cond rfl trivial (fun h1 => by cases h1) (fun _ => ?_)
    refine x.exit rfl trivial ?_
    refine ⟨.inr rfl, ?_, trivial, rfl⟩
    rw [← same, badV_end (by omega)]
    exact rfl
end Go.Proofs.YteeofakohenpoaaGreatDoor

/- Is it a name? The program's own answer. -/
namespace Go.Proofs.YteeofakohenpoaaGreatDoor
open Go.Sx
set_option linter.unusedVariables false
set_option linter.unusedSimpArgs false
set_option maxRecDepth 100000

def letB (r : Int) : Bool := (decide (97 ≤ r) && decide (r ≤ 122) || decide (65 ≤ r) && decide (r ≤ 90) || decide (r = 95) || decide (945 ≤ r) && decide (r ≤ 969) || decide (913 ≤ r) && decide (r ≤ 937) && !decide (r = 930))
def digB (r : Int) : Bool := (decide (48 ≤ r) && decide (r ≤ 57))

def nameW (s : ByteArray) : Nat → Nat → Int → Bool
  | 0, _, c => decide (0 < c)
  | n + 1, p, c => if p < s.size then
      if (!letB (Utf8.decode s p).1 && (decide ((p : Int) = 0) || !digB (Utf8.decode s p).1)) = true then false
      else if 24 < c + 1 then false else nameW s n (p + (Utf8.decode s p).2) (c + 1)
    else decide (0 < c)
theorem nameW_end {s : ByteArray} {n p : Nat} {c : Int} (h : ¬ p < s.size) : nameW s n p c = decide (0 < c) := by
  cases n with
  | zero => rfl
  | succ n => rw [nameW, if_neg h]

structure NI (s : ByteArray) where
  n : Nat
  p : Nat
  c : Int
  fuel : s.size ≤ p + n
  same : nameW s n p c = nameW s s.size 0 0
  hc : 0 ≤ c ∧ c ≤ 24
  hp : p ≤ s.size + 4

theorem name_spec (s : ByteArray) (hs : s.size ≤ 9223372036854775807) : Pure PG 37 [vs s] (vb (nameW s s.size 0 0)) [] := by
  refine Proc.mk (cfg 30) tysOK [] Tryz.func37 rfl (by kernel_rfl) rfl rfl rfl ?_
  intro C x
  refine x.loop (α := NI s) (fun y => ⟨[(0, vs s), (3, vi y.c), (7, .ptr 0 0)], [(0, .iter s y.p)], 1⟩) (fun y => s.size + 4 - y.p) ⟨s.size, 0, 0, by omega, rfl, by omega, by omega⟩ rfl trivial ?_ (fun y => ?_)
  · exact ⟨⟨rfl, rfl, ⟨rfl, rfl⟩, trivial⟩, ⟨⟨rfl, rfl⟩, trivial⟩, rfl⟩
  obtain ⟨n, p, c, fuel, same, hc, hp⟩ := y
  change Go C _ ⟨[(0, vs s), (3, vi c), (7, .ptr 0 0)], [(0, .iter s p)], 1⟩ _
  obtain ⟨d1, d2, d3⟩ := decode_pos s p
  refine x.next rfl trivial rfl rfl rfl (fun h => ?_) (fun h => ?_)
  · refine x.cond rfl trivial (fun _ => ?_) (fun h1 => by cases h1)
    refine x.pure rfl trivial rfl (letter_spec _) ⟨rfl, trivial⟩ ?_
    refine x.pureG rfl trivial rfl (fun _ _ => digit_spec _) rfl ⟨rfl, trivial⟩ ?_
    cases n with
    | zero => omega
    | succ n =>
      rw [nameW, if_pos h] at same
      refine x.cond rfl trivial (fun h2 => ?_) (fun h2 => ?_)
      · refine x.exit rfl trivial ?_
        refine ⟨.inr rfl, ?_, trivial, rfl⟩
        rw [if_pos (show (!letB (Utf8.decode s p).1 && (decide ((p : Int) = 0) || !digB (Utf8.decode s p).1)) = true from h2)] at same
        rw [← same]
        exact rfl
      · rw [if_neg (by rw [show (!letB (Utf8.decode s p).1 && (decide ((p : Int) = 0) || !digB (Utf8.decode s p).1)) = false from h2]; simp)] at same
        refine x.cond rfl (show inI64 (c + 1) by unfold inI64; omega) (fun h3 => ?_) (fun h3 => ?_)
        · refine x.exit rfl trivial ?_
          refine ⟨.inr rfl, ?_, trivial, rfl⟩
          rw [if_pos (by simpa using h3)] at same
          rw [← same]
          exact rfl
        · rw [if_neg (by simpa using h3)] at same
          refine x.back rfl trivial ?_
          refine ⟨⟨n, p + (Utf8.decode s p).2, c + 1, by omega, same, by simp at h3; omega, by omega⟩, by show s.size + 4 - (p + (Utf8.decode s p).2) < s.size + 4 - p; omega, ?_⟩
          exact ⟨⟨rfl, rfl, ⟨rfl, rfl⟩, trivial⟩, ⟨⟨rfl, rfl⟩, trivial⟩, rfl⟩
  · refine x.cond rfl trivial (fun h1 => by cases h1) (fun _ => ?_)
    refine x.exit rfl trivial ?_
    refine ⟨.inr rfl, ?_, trivial, rfl⟩
    rw [← same, nameW_end h]
    exact rfl
end Go.Proofs.YteeofakohenpoaaGreatDoor

/- Texts as lists of runes: one text behind another. -/
namespace Go.Proofs.YteeofakohenpoaaGreatDoor
open Go.Sx
set_option linter.unusedVariables false
set_option linter.unusedSimpArgs false
set_option maxRecDepth 100000

/-- The runes from byte p on: where each begins, which it is, how long. -/
def dl (s : ByteArray) : Nat → Nat → List (Nat × Nat × Nat)
  | 0, _ => []
  | n + 1, p => if p < s.size then (p, (Utf8.decode s p).1, (Utf8.decode s p).2) :: dl s n (p + (Utf8.decode s p).2) else []
theorem dl_end {s : ByteArray} {n p : Nat} (h : ¬ p < s.size) : dl s n p = [] := by
  cases n with
  | zero => rfl
  | succ n => rw [dl, if_neg h]
theorem dl_fuel (s : ByteArray) : ∀ (n m p : Nat), s.size ≤ p + n → s.size ≤ p + m → dl s n p = dl s m p
  | 0, m, p, h1, h2 => by rw [dl_end (by omega), dl_end (by omega)]
  | n + 1, 0, p, h1, h2 => by rw [dl_end (by omega), dl_end (by omega)]
  | n + 1, m + 1, p, h1, h2 => by
    have := decode_pos s p
    rw [dl, dl, dl_fuel s n m _ (by omega) (by omega)]

theorem dl_runes (s : ByteArray) : ∀ (n p : Nat) (c : Int), s.size ≤ p + n → runesV s n p c = c + (dl s n p).length
  | 0, p, c, h => by simp [runesV, dl]
  | n + 1, p, c, h => by
    have := decode_pos s p
    rw [runesV, dl]
    by_cases hp : p < s.size
    · rw [if_pos (by omega), if_pos hp, nextV_at hp, dl_runes s n _ _ (by omega)]
      simp
      omega
    · rw [if_neg (by omega), if_neg hp]
      simp

def okR (x : Nat × Nat × Nat) : Bool := !(decide (x.2.1 = 65533) && decide (x.2.2 = 1))
theorem dl_bad (s : ByteArray) : ∀ (n p : Nat), s.size ≤ p + n → (badV s n p < 0 ↔ badV s n p = -1) ∧ (badV s n p = -1 ↔ (dl s n p).all okR = true)
  | 0, p, h => by simp [badV, dl]
  | n + 1, p, h => by
    have := decode_pos s p
    rw [badV, dl]
    by_cases hp : p < s.size
    · have hz := form_zero hp
      rw [if_pos (by omega), if_pos hp]
      by_cases h0 : (formV s (p : Int)).2 = 0
      · rw [if_pos h0]
        have := hz.1 h0
        simp only [List.all_cons, okR, this]
        simp
      · rw [if_neg h0]
        have hgo : (p : Int) + (formV s (p : Int)).2 = ((p + (Utf8.decode s p).2 : Nat) : Int) := by
          rw [formV_at hp] at h0 ⊢
          split
          · rename_i hb; rw [if_pos hb] at h0; exact absurd rfl h0
          · rfl
        have ih := dl_bad s n (p + (Utf8.decode s p).2) (by omega)
        rw [hgo]
        refine ⟨ih.1, ?_⟩
        rw [ih.2, List.all_cons, show okR (p, (Utf8.decode s p).1, (Utf8.decode s p).2) = true from ?_, Bool.true_and]
        simp only [okR, Bool.not_eq_true', Bool.and_eq_false_iff, decide_eq_false_iff_not]
        by_cases e : (Utf8.decode s p).1 = 65533
        · exact .inr fun e2 => h0 (hz.2 ⟨e, e2⟩)
        · exact .inl e
    · rw [if_neg (by omega), if_neg hp]
      simp

theorem dec_more {sz sz' p a b c d b' c' d' : Nat} (h : ¬ ((dec sz p a b c d).1 = 65533 ∧ (dec sz p a b c d).2 = 1)) (hb : p + 1 < sz → b' = b) (hc : p + 2 < sz → c' = c) (hd : p + 3 < sz → d' = d) (hs : sz ≤ sz') : dec sz' p a b' c' d' = dec sz p a b c d := by
  unfold dec at *
  by_cases h1 : a < 128
  · rw [if_pos h1, if_pos h1]
  rw [if_neg h1] at h ⊢
  rw [if_neg h1]
  by_cases h2 : a / 32 = 6 ∧ p + 1 < sz ∧ b / 64 = 2
  · obtain rfl := hb h2.2.1
    rw [if_pos h2, if_pos (by omega)]
  rw [if_neg h2] at h ⊢
  by_cases h3 : a / 16 = 14 ∧ p + 1 < sz ∧ b / 64 = 2 ∧ p + 2 < sz ∧ c / 64 = 2
  · obtain rfl := hb h3.2.1
    obtain rfl := hc h3.2.2.2.1
    rw [if_pos h3, if_neg (by omega), if_pos (by omega)]
  rw [if_neg h3] at h ⊢
  by_cases h4 : a / 8 = 30 ∧ p + 1 < sz ∧ b / 64 = 2 ∧ p + 2 < sz ∧ c / 64 = 2 ∧ p + 3 < sz ∧ d / 64 = 2
  · obtain rfl := hb h4.2.1
    obtain rfl := hc h4.2.2.2.1
    obtain rfl := hd h4.2.2.2.2.2.1
    rw [if_pos h4, if_neg (by omega), if_neg (by omega), if_pos (by omega)]
  rw [if_neg h4] at h
  exact absurd ⟨rfl, rfl⟩ h
theorem dec_room (sz p a b c d : Nat) (h : p < sz) : p + (dec sz p a b c d).2 ≤ sz := by
  unfold dec
  repeat' split
  all_goals (simp only; omega)

theorem size_list (s : ByteArray) : s.size = s.data.toList.length := (Array.length_toList).symm
theorem app_data (a b : ByteArray) : (a ++ b).data.toList = a.data.toList ++ b.data.toList := by rw [ByteArray.data_append, Array.toList_append]
theorem app_size (a b : ByteArray) : (a ++ b).size = a.size + b.size := by rw [size_list, app_data, List.length_append, ← size_list, ← size_list]
theorem bt_left {a b : ByteArray} {i : Nat} (h : i < a.size) : bt (a ++ b) i = bt a i := by
  rw [size_list] at h
  rw [bt_getD, bt_getD, app_data, List.getD_eq_getElem?_getD, List.getD_eq_getElem?_getD, List.getElem?_append_left h]
theorem bt_right (a b : ByteArray) (i : Nat) : bt (a ++ b) (a.size + i) = bt b i := by
  rw [bt_getD, bt_getD, app_data, List.getD_eq_getElem?_getD, List.getD_eq_getElem?_getD, size_list a, List.getElem?_append_right (by omega)]
  congr 3
  omega
theorem dec_shift (sz p k a b c d : Nat) : dec (k + sz) (k + p) a b c d = dec sz p a b c d := by
  unfold dec
  have h1 : (k + p + 1 < k + sz) ↔ (p + 1 < sz) := by omega
  have h2 : (k + p + 2 < k + sz) ↔ (p + 2 < sz) := by omega
  have h3 : (k + p + 3 < k + sz) ↔ (p + 3 < sz) := by omega
  simp only [h1, h2, h3]
theorem decode_right (a b : ByteArray) (p : Nat) : Utf8.decode (a ++ b) (a.size + p) = Utf8.decode b p := by
  have b1 := bt_right a b (p + 1)
  have b2 := bt_right a b (p + 2)
  have b3 := bt_right a b (p + 3)
  rw [← Nat.add_assoc] at b1 b2 b3
  rw [decode_eq, decode_eq, app_size, b1, b2, b3, bt_right, dec_shift]
theorem decode_left {a : ByteArray} (b : ByteArray) {p : Nat} (hp : p < a.size) (h : ¬ ((Utf8.decode a p).1 = 65533 ∧ (Utf8.decode a p).2 = 1)) : Utf8.decode (a ++ b) p = Utf8.decode a p := by
  rw [decode_eq] at h
  rw [decode_eq, decode_eq, app_size, bt_left hp]
  exact dec_more h (fun hh => bt_left hh) (fun hh => bt_left hh) (fun hh => bt_left hh) (Nat.le_add_right _ _)
theorem decode_room {s : ByteArray} {p : Nat} (h : p < s.size) : p + (Utf8.decode s p).2 ≤ s.size := by
  rw [decode_eq]
  exact dec_room _ _ _ _ _ _ h

def shR (k : Nat) (x : Nat × Nat × Nat) : Nat × Nat × Nat := (k + x.1, x.2.1, x.2.2)
theorem dl_right (a b : ByteArray) : ∀ (n p : Nat), dl (a ++ b) n (a.size + p) = (dl b n p).map (shR a.size)
  | 0, p => rfl
  | n + 1, p => by
    rw [dl, dl, decode_right, app_size]
    by_cases h : p < b.size
    · rw [if_pos (by omega), if_pos h, List.map_cons, Nat.add_assoc, dl_right a b n]
      rfl
    · rw [if_neg (by omega), if_neg h]
      rfl
theorem dl_app (a b : ByteArray) : ∀ (n p : Nat), p ≤ a.size → a.size ≤ p + n → (dl a n p).all okR = true → dl (a ++ b) (n + b.size) p = dl a n p ++ (dl b b.size 0).map (shR a.size)
  | 0, p, h1, h2, h3 => by
    obtain rfl : p = a.size := by omega
    have := dl_right a b b.size 0
    rw [Nat.add_zero] at this
    rw [Nat.zero_add, this]
    rfl
  | n + 1, p, h1, h2, h3 => by
    by_cases hp : p < a.size
    · rw [dl, if_pos hp] at h3
      rw [show dl a (n + 1) p = (p, (Utf8.decode a p).1, (Utf8.decode a p).2) :: dl a n (p + (Utf8.decode a p).2) by rw [dl, if_pos hp]]
      simp only [List.all_cons, Bool.and_eq_true] at h3
      have hd := decode_left (a := a) b hp (by
        have := h3.1
        simp only [okR, Bool.not_eq_true', Bool.and_eq_false_iff, decide_eq_false_iff_not] at this
        rintro ⟨e1, e2⟩
        rcases this with h | h
        · exact h e1
        · exact h e2)
      have hr := decode_room hp
      have := decode_pos a p
      rw [show n + 1 + b.size = (n + b.size) + 1 by omega, dl, if_pos (by rw [app_size]; omega), hd, dl_app a b n _ hr (by omega) h3.2]
      rfl
    · obtain rfl : p = a.size := by omega
      have h4 : dl (a ++ b) (n + 1 + b.size) a.size = _ := dl_right a b (n + 1 + b.size) 0
      rw [h4, dl_end (s := a) hp, dl_fuel b (n + 1 + b.size) b.size 0 (by omega) (by omega)]
      rfl

/-- All runes of a text. -/
def rl (s : ByteArray) : List (Nat × Nat × Nat) := dl s s.size 0
theorem rl_app {a : ByteArray} (b : ByteArray) (h : (rl a).all okR = true) : rl (a ++ b) = rl a ++ (rl b).map (shR a.size) := by
  unfold rl at *
  rw [dl_fuel (a ++ b) (a ++ b).size (a.size + b.size) 0 (by omega) (by rw [app_size]; omega)]
  exact dl_app a b a.size 0 (by omega) (by omega) h
theorem bad_rl (s : ByteArray) : (badV s s.size 0 = -1 ↔ (rl s).all okR = true) ∧ (badV s s.size 0 < 0 ↔ (rl s).all okR = true) := by
  have := dl_bad s s.size 0 (by omega)
  exact ⟨this.2, this.1.trans this.2⟩
theorem runes_rl (s : ByteArray) : runesV s s.size 0 0 = (rl s).length := by
  have := dl_runes s s.size 0 0 (by omega)
  rw [Int.zero_add] at this
  exact this

theorem ok_shift (k : Nat) (l : List (Nat × Nat × Nat)) : (l.map (shR k)).all okR = l.all okR := by
  rw [List.all_map]
  rfl

theorem dec_bound (sz p a b c d : Nat) : (dec sz p a b c d).1 < 2097152 ∨ (dec sz p a b c d).1 < 4294967296 := by
  unfold dec
  repeat' split
  all_goals (simp only; omega)

theorem bad_ff : badV ⟨#[255]⟩ (ByteArray.size ⟨#[255]⟩) 0 = 0 := by decide +kernel
theorem runes_q : runesV ⟨#[113]⟩ (ByteArray.size ⟨#[113]⟩) 0 0 = 1 := by decide +kernel
end Go.Proofs.YteeofakohenpoaaGreatDoor

/- Which bytes are words; signs. (Written by wip/tools/gen03a.py.) -/
namespace Go.Proofs.YteeofakohenpoaaGreatDoor
open Go.Sx
set_option linter.unusedVariables false
set_option linter.unusedSimpArgs false
set_option maxRecDepth 100000

def wordsL : List (List UInt8) := [[97, 114, 114, 97, 121], [102, 110], [99, 111, 110, 115, 116], [112, 104, 105], [108, 111, 97, 100], [119, 114, 97, 112], [115, 116, 111, 114, 101], [99, 97, 108, 108], [105, 110, 112, 117, 116], [111, 117, 116, 112, 117, 116], [114, 101, 108, 101, 97, 115, 101], [106, 117, 109, 112], [98, 114, 97, 110, 99, 104], [114, 101, 116, 117, 114, 110], [97, 100, 100], [115, 117, 98], [109, 117, 108], [100, 105, 118], [109, 111, 100], [97, 110, 100], [111, 114], [120, 111, 114], [115, 104, 108], [115, 104, 114], [101, 113], [108, 101, 115, 115]]
def wordB (s : ByteArray) : Bool := decide (s.data.toList ∈ wordsL)
theorem word_in {s : ByteArray} {l : List UInt8} (h : s.data.toList = l) (hl : l ∈ wordsL) : wordB s = true := by
  unfold wordB; rw [h]; exact decide_eq_true hl
theorem word_spec (s : ByteArray) : Pure PG 38 [vs s] (vb (wordB s)) [] := by
  refine Proc.mk (cfg 32) tysOK [] Tryz.func38 rfl (by kernel_rfl) rfl rfl rfl ?_
  intro C x
  refine x.cond rfl trivial (fun h => ?_) (fun a0 => ?_)
  · refine x.cond rfl trivial (fun _ => ?_) (fun h2 => ?_)
    · refine x.exit rfl trivial ?_
      refine ⟨.inr rfl, ?_, trivial, rfl⟩
      exact (word_in (of_decide_eq_true h) (l := [97, 114, 114, 97, 121]) (by decide)).symm
    · exact absurd (h.symm.trans h2) (by simp)
  have a0 : ¬ s.data.toList = [97, 114, 114, 97, 121] := of_decide_eq_false a0
  refine x.cond rfl trivial (fun h => ?_) (fun a1 => ?_)
  · refine x.cond rfl trivial (fun _ => ?_) (fun h2 => ?_)
    · refine x.exit rfl trivial ?_
      refine ⟨.inr rfl, ?_, trivial, rfl⟩
      exact (word_in (of_decide_eq_true h) (l := [102, 110]) (by decide)).symm
    · exact absurd (h.symm.trans h2) (by simp)
  have a1 : ¬ s.data.toList = [102, 110] := of_decide_eq_false a1
  refine x.cond rfl trivial (fun h => ?_) (fun a2 => ?_)
  · refine x.cond rfl trivial (fun _ => ?_) (fun h2 => ?_)
    · refine x.exit rfl trivial ?_
      refine ⟨.inr rfl, ?_, trivial, rfl⟩
      exact (word_in (of_decide_eq_true h) (l := [99, 111, 110, 115, 116]) (by decide)).symm
    · exact absurd (h.symm.trans h2) (by simp)
  have a2 : ¬ s.data.toList = [99, 111, 110, 115, 116] := of_decide_eq_false a2
  refine x.cond rfl trivial (fun h => ?_) (fun a3 => ?_)
  · refine x.cond rfl trivial (fun _ => ?_) (fun h2 => ?_)
    · refine x.exit rfl trivial ?_
      refine ⟨.inr rfl, ?_, trivial, rfl⟩
      exact (word_in (of_decide_eq_true h) (l := [112, 104, 105]) (by decide)).symm
    · exact absurd (h.symm.trans h2) (by simp)
  have a3 : ¬ s.data.toList = [112, 104, 105] := of_decide_eq_false a3
  refine x.cond rfl trivial (fun h => ?_) (fun a4 => ?_)
  · refine x.cond rfl trivial (fun _ => ?_) (fun h2 => ?_)
    · refine x.exit rfl trivial ?_
      refine ⟨.inr rfl, ?_, trivial, rfl⟩
      exact (word_in (of_decide_eq_true h) (l := [108, 111, 97, 100]) (by decide)).symm
    · exact absurd (h.symm.trans h2) (by simp)
  have a4 : ¬ s.data.toList = [108, 111, 97, 100] := of_decide_eq_false a4
  refine x.cond rfl trivial (fun h => ?_) (fun a5 => ?_)
  · refine x.cond rfl trivial (fun _ => ?_) (fun h2 => ?_)
    · refine x.exit rfl trivial ?_
      refine ⟨.inr rfl, ?_, trivial, rfl⟩
      exact (word_in (of_decide_eq_true h) (l := [119, 114, 97, 112]) (by decide)).symm
    · exact absurd (h.symm.trans h2) (by simp)
  have a5 : ¬ s.data.toList = [119, 114, 97, 112] := of_decide_eq_false a5
  refine x.cond rfl trivial (fun h => ?_) (fun a6 => ?_)
  · refine x.cond rfl trivial (fun _ => ?_) (fun h2 => ?_)
    · refine x.exit rfl trivial ?_
      refine ⟨.inr rfl, ?_, trivial, rfl⟩
      exact (word_in (of_decide_eq_true h) (l := [115, 116, 111, 114, 101]) (by decide)).symm
    · exact absurd (h.symm.trans h2) (by simp)
  have a6 : ¬ s.data.toList = [115, 116, 111, 114, 101] := of_decide_eq_false a6
  refine x.cond rfl trivial (fun h => ?_) (fun a7 => ?_)
  · refine x.cond rfl trivial (fun _ => ?_) (fun h2 => ?_)
    · refine x.exit rfl trivial ?_
      refine ⟨.inr rfl, ?_, trivial, rfl⟩
      exact (word_in (of_decide_eq_true h) (l := [99, 97, 108, 108]) (by decide)).symm
    · exact absurd (h.symm.trans h2) (by simp)
  have a7 : ¬ s.data.toList = [99, 97, 108, 108] := of_decide_eq_false a7
  refine x.cond rfl trivial (fun h => ?_) (fun a8 => ?_)
  · refine x.cond rfl trivial (fun _ => ?_) (fun h2 => ?_)
    · refine x.exit rfl trivial ?_
      refine ⟨.inr rfl, ?_, trivial, rfl⟩
      exact (word_in (of_decide_eq_true h) (l := [105, 110, 112, 117, 116]) (by decide)).symm
    · exact absurd (h.symm.trans h2) (by simp)
  have a8 : ¬ s.data.toList = [105, 110, 112, 117, 116] := of_decide_eq_false a8
  refine x.cond rfl trivial (fun h => ?_) (fun a9 => ?_)
  · refine x.cond rfl trivial (fun _ => ?_) (fun h2 => ?_)
    · refine x.exit rfl trivial ?_
      refine ⟨.inr rfl, ?_, trivial, rfl⟩
      exact (word_in (of_decide_eq_true h) (l := [111, 117, 116, 112, 117, 116]) (by decide)).symm
    · exact absurd (h.symm.trans h2) (by simp)
  have a9 : ¬ s.data.toList = [111, 117, 116, 112, 117, 116] := of_decide_eq_false a9
  refine x.cond rfl trivial (fun h => ?_) (fun a10 => ?_)
  · refine x.cond rfl trivial (fun _ => ?_) (fun h2 => ?_)
    · refine x.exit rfl trivial ?_
      refine ⟨.inr rfl, ?_, trivial, rfl⟩
      exact (word_in (of_decide_eq_true h) (l := [114, 101, 108, 101, 97, 115, 101]) (by decide)).symm
    · exact absurd (h.symm.trans h2) (by simp)
  have a10 : ¬ s.data.toList = [114, 101, 108, 101, 97, 115, 101] := of_decide_eq_false a10
  refine x.cond rfl trivial (fun h => ?_) (fun a11 => ?_)
  · refine x.cond rfl trivial (fun _ => ?_) (fun h2 => ?_)
    · refine x.exit rfl trivial ?_
      refine ⟨.inr rfl, ?_, trivial, rfl⟩
      exact (word_in (of_decide_eq_true h) (l := [106, 117, 109, 112]) (by decide)).symm
    · exact absurd (h.symm.trans h2) (by simp)
  have a11 : ¬ s.data.toList = [106, 117, 109, 112] := of_decide_eq_false a11
  refine x.cond rfl trivial (fun h => ?_) (fun a12 => ?_)
  · refine x.cond rfl trivial (fun _ => ?_) (fun h2 => ?_)
    · refine x.exit rfl trivial ?_
      refine ⟨.inr rfl, ?_, trivial, rfl⟩
      exact (word_in (of_decide_eq_true h) (l := [98, 114, 97, 110, 99, 104]) (by decide)).symm
    · exact absurd (h.symm.trans h2) (by simp)
  have a12 : ¬ s.data.toList = [98, 114, 97, 110, 99, 104] := of_decide_eq_false a12
  refine x.cond rfl trivial (fun h => ?_) (fun a13 => ?_)
  · refine x.exit rfl trivial ?_
    refine ⟨.inr rfl, ?_, trivial, rfl⟩
    exact (word_in (of_decide_eq_true h) (l := [114, 101, 116, 117, 114, 110]) (by decide)).symm
  have a13 : ¬ s.data.toList = [114, 101, 116, 117, 114, 110] := of_decide_eq_false a13
  refine x.cond rfl trivial (fun h => ?_) (fun b0 => ?_)
  · refine x.cond rfl trivial (fun _ => ?_) (fun h2 => ?_)
    · refine x.exit rfl trivial ?_
      refine ⟨.inr rfl, ?_, trivial, rfl⟩
      exact (word_in (of_decide_eq_true h) (l := [97, 100, 100]) (by decide)).symm
    · exact absurd (h.symm.trans h2) (by simp)
  have b0 : ¬ s.data.toList = [97, 100, 100] := of_decide_eq_false b0
  refine x.cond rfl trivial (fun h => ?_) (fun b1 => ?_)
  · refine x.cond rfl trivial (fun _ => ?_) (fun h2 => ?_)
    · refine x.exit rfl trivial ?_
      refine ⟨.inr rfl, ?_, trivial, rfl⟩
      exact (word_in (of_decide_eq_true h) (l := [115, 117, 98]) (by decide)).symm
    · exact absurd (h.symm.trans h2) (by simp)
  have b1 : ¬ s.data.toList = [115, 117, 98] := of_decide_eq_false b1
  refine x.cond rfl trivial (fun h => ?_) (fun b2 => ?_)
  · refine x.cond rfl trivial (fun _ => ?_) (fun h2 => ?_)
    · refine x.exit rfl trivial ?_
      refine ⟨.inr rfl, ?_, trivial, rfl⟩
      exact (word_in (of_decide_eq_true h) (l := [109, 117, 108]) (by decide)).symm
    · exact absurd (h.symm.trans h2) (by simp)
  have b2 : ¬ s.data.toList = [109, 117, 108] := of_decide_eq_false b2
  refine x.cond rfl trivial (fun h => ?_) (fun b3 => ?_)
  · refine x.cond rfl trivial (fun _ => ?_) (fun h2 => ?_)
    · refine x.exit rfl trivial ?_
      refine ⟨.inr rfl, ?_, trivial, rfl⟩
      exact (word_in (of_decide_eq_true h) (l := [100, 105, 118]) (by decide)).symm
    · exact absurd (h.symm.trans h2) (by simp)
  have b3 : ¬ s.data.toList = [100, 105, 118] := of_decide_eq_false b3
  refine x.cond rfl trivial (fun h => ?_) (fun b4 => ?_)
  · refine x.cond rfl trivial (fun _ => ?_) (fun h2 => ?_)
    · refine x.exit rfl trivial ?_
      refine ⟨.inr rfl, ?_, trivial, rfl⟩
      exact (word_in (of_decide_eq_true h) (l := [109, 111, 100]) (by decide)).symm
    · exact absurd (h.symm.trans h2) (by simp)
  have b4 : ¬ s.data.toList = [109, 111, 100] := of_decide_eq_false b4
  refine x.cond rfl trivial (fun h => ?_) (fun b5 => ?_)
  · refine x.cond rfl trivial (fun _ => ?_) (fun h2 => ?_)
    · refine x.exit rfl trivial ?_
      refine ⟨.inr rfl, ?_, trivial, rfl⟩
      exact (word_in (of_decide_eq_true h) (l := [97, 110, 100]) (by decide)).symm
    · exact absurd (h.symm.trans h2) (by simp)
  have b5 : ¬ s.data.toList = [97, 110, 100] := of_decide_eq_false b5
  refine x.cond rfl trivial (fun h => ?_) (fun b6 => ?_)
  · refine x.cond rfl trivial (fun _ => ?_) (fun h2 => ?_)
    · refine x.exit rfl trivial ?_
      refine ⟨.inr rfl, ?_, trivial, rfl⟩
      exact (word_in (of_decide_eq_true h) (l := [111, 114]) (by decide)).symm
    · exact absurd (h.symm.trans h2) (by simp)
  have b6 : ¬ s.data.toList = [111, 114] := of_decide_eq_false b6
  refine x.cond rfl trivial (fun h => ?_) (fun b7 => ?_)
  · refine x.cond rfl trivial (fun _ => ?_) (fun h2 => ?_)
    · refine x.exit rfl trivial ?_
      refine ⟨.inr rfl, ?_, trivial, rfl⟩
      exact (word_in (of_decide_eq_true h) (l := [120, 111, 114]) (by decide)).symm
    · exact absurd (h.symm.trans h2) (by simp)
  have b7 : ¬ s.data.toList = [120, 111, 114] := of_decide_eq_false b7
  refine x.cond rfl trivial (fun h => ?_) (fun b8 => ?_)
  · refine x.cond rfl trivial (fun _ => ?_) (fun h2 => ?_)
    · refine x.exit rfl trivial ?_
      refine ⟨.inr rfl, ?_, trivial, rfl⟩
      exact (word_in (of_decide_eq_true h) (l := [115, 104, 108]) (by decide)).symm
    · exact absurd (h.symm.trans h2) (by simp)
  have b8 : ¬ s.data.toList = [115, 104, 108] := of_decide_eq_false b8
  refine x.cond rfl trivial (fun h => ?_) (fun b9 => ?_)
  · refine x.cond rfl trivial (fun _ => ?_) (fun h2 => ?_)
    · refine x.exit rfl trivial ?_
      refine ⟨.inr rfl, ?_, trivial, rfl⟩
      exact (word_in (of_decide_eq_true h) (l := [115, 104, 114]) (by decide)).symm
    · exact absurd (h.symm.trans h2) (by simp)
  have b9 : ¬ s.data.toList = [115, 104, 114] := of_decide_eq_false b9
  refine x.cond rfl trivial (fun h => ?_) (fun b10 => ?_)
  · refine x.cond rfl trivial (fun _ => ?_) (fun h2 => ?_)
    · refine x.exit rfl trivial ?_
      refine ⟨.inr rfl, ?_, trivial, rfl⟩
      exact (word_in (of_decide_eq_true h) (l := [101, 113]) (by decide)).symm
    · exact absurd (h.symm.trans h2) (by simp)
  have b10 : ¬ s.data.toList = [101, 113] := of_decide_eq_false b10
  refine x.cond rfl trivial (fun h => ?_) (fun b11 => ?_)
  · refine x.exit rfl trivial ?_
    refine ⟨.inr rfl, ?_, trivial, rfl⟩
    exact (word_in (of_decide_eq_true h) (l := [108, 101, 115, 115]) (by decide)).symm
  have b11 : ¬ s.data.toList = [108, 101, 115, 115] := of_decide_eq_false b11
  refine x.exit rfl trivial ?_
  refine ⟨.inr rfl, ?_, trivial, rfl⟩
  show false = wordB s
  rw [eq_comm]
  unfold wordB wordsL
  rw [decide_eq_false_iff_not]
  simp only [List.mem_cons, List.not_mem_nil, or_false, not_or]
  exact ⟨a0, a1, a2, a3, a4, a5, a6, a7, a8, a9, a10, a11, a12, a13, b0, b1, b2, b3, b4, b5, b6, b7, b8, b9, b10, b11⟩

/-! ### the answer's words -/
def wordStr : List ByteArray := [⟨#[97, 114, 114, 97, 121]⟩, ⟨#[102, 110]⟩, ⟨#[99, 111, 110, 115, 116]⟩, ⟨#[112, 104, 105]⟩, ⟨#[108, 111, 97, 100]⟩, ⟨#[119, 114, 97, 112]⟩, ⟨#[115, 116, 111, 114, 101]⟩, ⟨#[99, 97, 108, 108]⟩, ⟨#[105, 110, 112, 117, 116]⟩, ⟨#[111, 117, 116, 112, 117, 116]⟩, ⟨#[114, 101, 108, 101, 97, 115, 101]⟩, ⟨#[106, 117, 109, 112]⟩, ⟨#[98, 114, 97, 110, 99, 104]⟩, ⟨#[114, 101, 116, 117, 114, 110]⟩, ⟨#[97, 100, 100]⟩, ⟨#[115, 117, 98]⟩, ⟨#[109, 117, 108]⟩, ⟨#[100, 105, 118]⟩, ⟨#[109, 111, 100]⟩, ⟨#[97, 110, 100]⟩, ⟨#[111, 114]⟩, ⟨#[120, 111, 114]⟩, ⟨#[115, 104, 108]⟩, ⟨#[115, 104, 114]⟩, ⟨#[101, 113]⟩, ⟨#[108, 101, 115, 115]⟩]
theorem word_str (s : ByteArray) : wordB s = true ↔ ∃ i, i < 26 ∧ s.data.toList = (wordStr.getD i .empty).data.toList := by
  unfold wordB
  rw [decide_eq_true_eq]
  constructor
  · intro h
    obtain ⟨i, hi, e⟩ := List.getElem_of_mem h
    have hi : i < 26 := hi
    refine ⟨i, hi, ?_⟩
    rw [← e]
    have : ∀ i, (h : i < wordsL.length) → wordsL[i] = (wordStr.getD i .empty).data.toList := by decide
    exact this i hi
  · rintro ⟨i, hi, e⟩
    rw [e]
    have : ∀ i, i < 26 → (wordStr.getD i .empty).data.toList ∈ wordsL := by decide
    exact this i hi
theorem tab_map (l : List ByteArray) (h : l.length ≠ 1) {i : Nat} (hi : i < l.length) : tab (l.map fun w => [D.str w]) i = [D.str (l.getD i .empty)] := by
  match l, h with
  | [], _ => exact absurd hi (Nat.not_lt_zero _)
  | [_], h => exact absurd rfl h
  | a :: b :: r, _ =>
    show ((a :: b :: r).map fun w => [D.str w]).getD i [] = _
    rw [List.getD_eq_getElem?_getD, List.getElem?_map, List.getElem?_eq_getElem hi, List.getD_eq_getElem?_getD, List.getElem?_eq_getElem hi]; rfl
theorem refword_spec (s : ByteArray) : Pure PG 41 [vs s] (vb (wordB s)) [] := by
  refine Proc.mk (cfg 18) tysOK [] Tryz.func41 rfl (by kernel_rfl) rfl rfl rfl ?_
  intro C x
  refine x.toLoop rfl ?_ ?_
  · simp only [AllP, big]
  refine x.le (s' := ⟨[(0, vs s), (3, .own 0), (4, vi 0)], [(0, .vec 9 1 26 fun i => [.str (wordStr.getD i .empty)])], 1⟩) ?_ ?_
  · refine ⟨⟨rfl, rfl, rfl, trivial⟩, ⟨⟨rfl, rfl, rfl, fun i hi => ?_⟩, trivial⟩, rfl⟩
    exact tab_map wordStr (by decide) hi
  refine Sx.Go.freeze 0 ?_
  refine x.loop (α := { i : Nat // i ≤ 26 ∧ ∀ j, j < i → s.data.toList ≠ (wordStr.getD j .empty).data.toList }) (fun y => ⟨[(0, vs s), (3, .d (.sl 1 26 fun i => [.str (wordStr.getD i .empty)])), (4, vi (y.1 : Int))], [], 1⟩) (fun y => 26 - y.1) ⟨0, by omega, fun j hj => by omega⟩ rfl trivial ⟨⟨rfl, veq_d rfl, rfl, trivial⟩, trivial, rfl⟩ (fun y => ?_)
  obtain ⟨i, hi, hno⟩ := y
  change Go C _ ⟨[(0, vs s), (3, .d (.sl 1 26 fun i => [.str (wordStr.getD i .empty)])), (4, vi (i : Int))], [], 1⟩ _
  refine x.cond rfl trivial (fun h1 => ?_) (fun h1 => ?_)
  · have h1 : i < 26 := by have := of_decide_eq_true h1; omega
    refine x.cond rfl ?_ (fun h2 => ?_) (fun h2 => ?_)
    · simp only [AllP]; omega
    · have h2 : (wordStr.getD i .empty).data.toList = s.data.toList := of_decide_eq_true h2
      refine x.exit rfl trivial ?_
      refine ⟨.inr rfl, ?_, trivial, rfl⟩
      exact ((word_str s).2 ⟨i, h1, h2.symm⟩).symm
    · have h2 : ¬ (wordStr.getD i .empty).data.toList = s.data.toList := of_decide_eq_false h2
      refine x.back rfl (show inI64 _ by unfold inI64; omega) ⟨⟨i + 1, by omega, fun j hj => ?_⟩, by show 26 - (i + 1) < 26 - i; omega, ⟨rfl, veq_d rfl, rfl, trivial⟩, trivial, rfl⟩
      by_cases e : j = i
      · rw [e]; exact fun h => h2 h.symm
      · exact hno j (by omega)
  · have h1 : i = 26 := by have := of_decide_eq_false h1; omega
    refine x.exit rfl trivial ?_
    refine ⟨.inr rfl, ?_, trivial, rfl⟩
    show false = wordB s
    rw [eq_comm, Bool.eq_false_iff, Ne, word_str]
    rintro ⟨j, hj, e⟩
    exact hno j (by omega) e

/-! ### signs, digits -/
def signB (c : Nat) : Bool := (((((((decide (c = 40) || decide (c = 41)) || decide (c = 123)) || decide (c = 125)) || decide (c = 91)) || decide (c = 93)) || decide (c = 44)) || decide (c = 58)) || decide (c = 61)
theorem dec_nat (c k : Nat) : decide ((c : Int) = (k : Int)) = decide (c = k) := by
  rw [Bool.eq_iff_iff, decide_eq_true_eq, decide_eq_true_eq]; omega
def digAt (s : ByteArray) (p : Nat) : Bool := decide (p < s.size) && (decide (48 ≤ bt s p) && decide (bt s p ≤ 57))
theorem indexByte_spec (s : ByteArray) (c : Int) : Pure PG 80 [vs s, .d (.int .u8 c)] (vi (Lib.indexByte s.data.toList c.toNat.toUInt8)) [] :=
  Pure.ofLib (vals := [.string s, .int .u8 c]) (callable_of Tryz.func80 (by kernel_rfl) (by kernel_rfl)) rfl rfl rfl rfl fun w F hE => (Tryz.strings_IndexByte s c w).mono fun e w' ⟨h1, h2⟩ => ⟨h1, by subst h2; exact Go.RowKit.Below.refl _ _⟩
theorem idx_some {c : UInt8} : ∀ {l : List UInt8}, 0 ≤ Lib.indexByte l c → (Lib.indexByte l c).toNat < l.length ∧ l.getD (Lib.indexByte l c).toNat 0 = c ∧ ∀ j, j < (Lib.indexByte l c).toNat → l.getD j 0 ≠ c
  | [], h => by exact absurd h (by unfold Lib.indexByte; omega)
  | b :: l, h => by
    unfold Lib.indexByte at h ⊢
    split at h
    · rename_i hb
      rw [if_pos hb]
      refine ⟨by simp, by simpa using hb, fun j hj => absurd hj (Nat.not_lt_zero _)⟩
    · rename_i hb
      rw [if_neg hb]
      split at h
      · omega
      · rename_i h2
        rw [if_neg h2]
        have hge := Lib.indexByte_ge l c
        have h2 : ¬ Lib.indexByte l c = -1 := by simpa using h2
        obtain ⟨h3, h4, h5⟩ := idx_some (l := l) (c := c) (by omega)
        have e : (Lib.indexByte l c + 1).toNat = (Lib.indexByte l c).toNat + 1 := by omega
        rw [e]
        refine ⟨by simpa using h3, by simpa using h4, fun j hj => ?_⟩
        match j with
        | 0 => simpa using hb
        | j + 1 => simpa using h5 j (by omega)
theorem idx_none {c : UInt8} : ∀ {l : List UInt8}, Lib.indexByte l c < 0 → ∀ j, j < l.length → l.getD j 0 ≠ c
  | [], h, j, hj => absurd hj (Nat.not_lt_zero _)
  | b :: l, h, j, hj => by
    unfold Lib.indexByte at h
    split at h
    · omega
    · rename_i hb
      split at h
      · rename_i h2
        have h2 : Lib.indexByte l c = -1 := by simpa using h2
        match j with
        | 0 => simpa using hb
        | j + 1 => simpa using idx_none (l := l) (c := c) (by omega) j (by simpa using hj)
      · have hge := Lib.indexByte_ge l c
        rename_i h2
        have h2 : ¬ Lib.indexByte l c = -1 := by simpa using h2
        omega
end Go.Proofs.YteeofakohenpoaaGreatDoor

/- Blanks and remarks are passed over. -/
namespace Go.Proofs.YteeofakohenpoaaGreatDoor
open Go.Sx
set_option linter.unusedVariables false
set_option linter.unusedSimpArgs false
set_option maxRecDepth 100000

def nextR (c : Nat) (rm : Bool) : Bool := if c = 10 then false else if c = 35 then true else rm
def stopB (rm : Bool) (c : Nat) : Bool := ((!rm && !decide (c = 32)) && !decide (c = 9)) && !decide (c = 10)
def skF (s : ByteArray) : Nat → Bool → Nat → Nat
  | 0, _, p => p
  | n + 1, rm, p => if p < s.size then (if stopB (nextR (bt s p) rm) (bt s p) then p else skF s n (nextR (bt s p) rm) (p + 1)) else p
theorem skF_fuel (s : ByteArray) : ∀ (n m : Nat) (rm : Bool) (p : Nat), s.size ≤ p + n → s.size ≤ p + m → skF s n rm p = skF s m rm p
  | 0, 0, _, _, _, _ => rfl
  | 0, m + 1, rm, p, h, _ => by rw [skF, skF, if_neg (by omega)]
  | n + 1, 0, rm, p, _, h => by rw [skF, skF, if_neg (by omega)]
  | n + 1, m + 1, rm, p, h1, h2 => by
    rw [skF, skF]
    split
    · split
      · rfl
      · exact skF_fuel s n m _ _ (by omega) (by omega)
    · rfl
/-- Where one stands when blanks and remarks are passed over. -/
def skV (s : ByteArray) (rm : Bool) (p : Nat) : Nat := skF s s.size rm p
theorem skV_end {s : ByteArray} {rm : Bool} {p : Nat} (h : s.size ≤ p) : skV s rm p = p := by
  unfold skV
  rw [skF_fuel s s.size 0 rm p (by omega) (by omega), skF]
theorem skV_step {s : ByteArray} {rm : Bool} {p : Nat} (h : p < s.size) : skV s rm p = if stopB (nextR (bt s p) rm) (bt s p) then p else skV s (nextR (bt s p) rm) (p + 1) := by
  unfold skV
  obtain ⟨n, hn⟩ : ∃ n, s.size = n + 1 := ⟨s.size - 1, by omega⟩
  rw [skF_fuel s s.size (n + 1) rm p (by omega) (by omega), skF, if_pos h, skF_fuel s n s.size _ (p + 1) (by omega) (by omega)]
theorem skV_go {s : ByteArray} {rm : Bool} {p : Nat} (h : p < s.size) (hs : stopB (nextR (bt s p) rm) (bt s p) = false) : skV s rm p = skV s (nextR (bt s p) rm) (p + 1) := by
  rw [skV_step h, if_neg (by rw [hs]; simp)]
theorem skV_stop {s : ByteArray} {rm : Bool} {p : Nat} (h : p < s.size) (hs : stopB (nextR (bt s p) rm) (bt s p) = true) : skV s rm p = p := by
  rw [skV_step h, if_pos hs]
theorem skV_le (s : ByteArray) : ∀ (n : Nat) (rm : Bool) (p : Nat), s.size ≤ p + n → p ≤ s.size → p ≤ skV s rm p ∧ skV s rm p ≤ s.size ∧ (skV s rm p < s.size → stopB false (bt s (skV s rm p)) = true ∧ bt s (skV s rm p) ≠ 35)
  | 0, rm, p, h, hp => by rw [skV_end (by omega)]; exact ⟨by omega, hp, fun h => by omega⟩
  | n + 1, rm, p, h, hp => by
    by_cases hl : p < s.size
    · cases hs : stopB (nextR (bt s p) rm) (bt s p) with
      | true =>
        rw [skV_stop hl hs]
        refine ⟨Nat.le_refl _, hp, fun _ => ?_⟩
        unfold stopB at hs
        simp only [Bool.and_eq_true, Bool.not_eq_true', decide_eq_false_iff_not] at hs
        obtain ⟨⟨⟨h1, h2⟩, h3⟩, h4⟩ := hs
        refine ⟨?_, fun e => ?_⟩
        · unfold stopB; simp [h2, h3, h4]
        · rw [e] at h1; simp [nextR] at h1
      | false =>
        rw [skV_go hl hs]
        have := skV_le s n (nextR (bt s p) rm) (p + 1) (by omega) (by omega)
        exact ⟨by omega, this.2.1, this.2.2⟩
    · rw [skV_end (by omega)]; exact ⟨by omega, hp, fun h => by omega⟩
/-- Behind a remark's end. -/
theorem skV_remark (s : ByteArray) : ∀ (k p : Nat), p + k < s.size → bt s (p + k) = 10 → (∀ j, j < k → bt s (p + j) ≠ 10) → skV s true p = skV s false (p + k + 1)
  | 0, p, h, h10, _ => by
    have h10 : bt s p = 10 := h10
    have h : p < s.size := h
    rw [skV_go h (by rw [h10]; rfl), h10]; rfl
  | k + 1, p, h, h10, hno => by
    have h0 : bt s p ≠ 10 := hno 0 (by omega)
    have e : nextR (bt s p) true = true := by unfold nextR; rw [if_neg h0]; split <;> rfl
    rw [skV_go (by omega) (by rw [e]; rfl), e, skV_remark s k (p + 1) (by omega) (by rw [← h10]; congr 1; omega) (fun j hj => by rw [show p + 1 + j = p + (j + 1) by omega]; exact hno (j + 1) (by omega))]
    congr 1
    omega
theorem skV_remark_end (s : ByteArray) : ∀ (n p : Nat), s.size ≤ p + n → p ≤ s.size → (∀ j, p ≤ j → j < s.size → bt s j ≠ 10) → skV s true p = s.size
  | 0, p, h, hp, _ => by rw [skV_end (by omega)]; omega
  | n + 1, p, h, hp, hno => by
    by_cases hl : p < s.size
    · have h0 := hno p (Nat.le_refl _) hl
      have e : nextR (bt s p) true = true := by unfold nextR; rw [if_neg h0]; split <;> rfl
      rw [skV_go hl (by rw [e]; rfl), e]
      exact skV_remark_end s n (p + 1) (by omega) (by omega) fun j h1 h2 => hno j (by omega) h2
    · rw [skV_end (by omega)]; omega

theorem skip_spec (s : ByteArray) (p0 : Nat) (hs : s.size ≤ 9223372036854775807) (hp0 : p0 ≤ s.size) : Pure PG 79 [vs s, vi (p0 : Int)] (vi (skV s false p0 : Int)) [] := by
  refine Proc.mk (cfg 34) tysOK [] Tryz.func79 rfl (by kernel_rfl) rfl rfl rfl ?_
  intro C x
  refine x.loop (α := { p : Nat // p ≤ s.size ∧ skV s false p = skV s false p0 }) (fun y => ⟨[(0, vs s), (1, vi (y.1 : Int))], [], 0⟩) (fun y => s.size - y.1) ⟨p0, hp0, rfl⟩ rfl trivial ⟨⟨rfl, rfl, trivial⟩, trivial, rfl⟩ (fun y => ?_)
  obtain ⟨p, hp, same⟩ := y
  change Go C _ ⟨[(0, vs s), (1, vi (p : Int))], [], 0⟩ _
  refine x.cond rfl trivial (fun h1 => ?_) (fun h1 => ?_)
  · have h1 : p < s.size := by have := of_decide_eq_true h1; omega
    have ec : sb s ((p : Int)).toNat = (bt s p : Int) := sb_bt s p
    refine x.cond rfl ?_ (fun h2 => ?_) (fun h2 => ?_)
    · simp only [AllP]; omega
    · have h2 : bt s p = 35 := by have h2 : sb s ((p : Int)).toNat = 35 := of_decide_eq_true h2; omega
      have e1 : nextR (bt s p) false = true := by rw [h2]; rfl
      have g1 := skV_go (rm := false) h1 (by rw [e1, h2]; rfl)
      rw [e1] at g1
      refine x.pure rfl ?_ rfl (indexByte_spec (s.extract p s.size) 10) ⟨rfl, rfl, trivial⟩ ?_
      · simp only [AllP]; omega
      obtain ⟨n, hn⟩ : ∃ n, Lib.indexByte (s.extract p s.size).data.toList (10 : Int).toNat.toUInt8 = n := ⟨_, rfl⟩
      rw [hn]
      have hlen : (s.extract p s.size).data.toList.length = s.size - p := by
        rw [extract_data, List.length_drop, ← size_list]
      have hbt : ∀ j, ((s.extract p s.size).data.toList.getD j 0).toNat = bt s (p + j) := fun j => by rw [← bt_getD, bt_extract]
      refine x.cond rfl trivial (fun h3 => ?_) (fun h3 => ?_)
      · have h3 : n < 0 := of_decide_eq_true h3
        have hno := idx_none (by rw [hn]; exact h3)
        refine x.exit rfl trivial ?_
        refine ⟨.inr rfl, ?_, trivial, rfl⟩
        show (s.size : Int) = (skV s false p0 : Int)
        rw [← same, g1, skV_remark_end s s.size (p + 1) (by omega) (by omega)]
        intro j hj1 hj2 e
        refine hno (j - p) (by omega) ?_
        have := hbt (j - p)
        rw [show p + (j - p) = j by omega, e] at this
        exact UInt8.toNat_inj.1 this
      · have h3 : 0 ≤ n := by have := of_decide_eq_false h3; omega
        obtain ⟨a1, a2, a3⟩ := idx_some (by rw [hn]; exact h3)
        rw [hn] at a1 a2 a3
        have b2 : bt s (p + n.toNat) = 10 := by rw [← hbt, a2]; rfl
        have b3 : ∀ j, j < n.toNat → bt s (p + j) ≠ 10 := fun j hj e => by
          refine a3 j hj ?_
          have := hbt j
          rw [e] at this
          exact UInt8.toNat_inj.1 this
        have hn0 : n.toNat ≠ 0 := fun e => by rw [e, Nat.add_zero] at b2; omega
        obtain ⟨m, hm⟩ : ∃ m, n.toNat = m + 1 := ⟨n.toNat - 1, by omega⟩
        have g2 := skV_remark s m (p + 1) (by omega) (by rw [show p + 1 + m = p + n.toNat by omega]; exact b2) (fun j hj => by rw [show p + 1 + j = p + (j + 1) by omega]; exact b3 (j + 1) (by omega))
        refine x.back rfl ?_ ⟨⟨p + n.toNat + 1, by omega, ?_⟩, by show s.size - (p + n.toNat + 1) < s.size - p; omega, ⟨rfl, ?_, trivial⟩, trivial, rfl⟩
        · simp only [AllP, inI64]; omega
        · rw [← same, g1, g2]; congr 1; omega
        · show (p : Int) + n + 1 = ((p + n.toNat + 1 : Nat) : Int); omega
    have h2 : bt s p ≠ 35 := by have h2 : ¬ sb s ((p : Int)).toNat = 35 := of_decide_eq_false h2; omega
    have blank : (bt s p = 32 ∨ bt s p = 9 ∨ bt s p = 10) → ∃ z : { p : Nat // p ≤ s.size ∧ skV s false p = skV s false p0 }, z.1 = p + 1 := fun hb => by
      refine ⟨⟨p + 1, by omega, ?_⟩, rfl⟩
      have e1 : nextR (bt s p) false = false := by unfold nextR; rw [if_neg h2]; split <;> rfl
      have g1 := skV_go (rm := false) h1 (by rw [e1]; unfold stopB; rcases hb with e | e | e <;> rw [e] <;> rfl)
      rw [← same, g1, e1]
    refine x.cond rfl trivial (fun h3 => ?_) (fun h3 => ?_)
    · have h3b : bt s p = 32 := by have h3 : sb s ((p : Int)).toNat = 32 := of_decide_eq_true h3; omega
      refine x.cond rfl trivial (fun _ => ?_) (fun h4 => absurd (h3.symm.trans h4) (by simp))
      obtain ⟨z, hz⟩ := blank (.inl h3b)
      refine x.back rfl (show inI64 _ by unfold inI64; omega) ⟨z, by show s.size - z.1 < s.size - p; omega, ⟨rfl, ?_, trivial⟩, trivial, rfl⟩
      show (p : Int) + 1 = (z.1 : Int); omega
    have h3b : bt s p ≠ 32 := by have h3 : ¬ sb s ((p : Int)).toNat = 32 := of_decide_eq_false h3; omega
    refine x.cond rfl trivial (fun h4 => ?_) (fun h4 => ?_)
    · have h4b : bt s p = 9 := by have h4 : sb s ((p : Int)).toNat = 9 := of_decide_eq_true h4; omega
      refine x.cond rfl trivial (fun _ => ?_) (fun h5 => absurd (h4.symm.trans h5) (by simp))
      obtain ⟨z, hz⟩ := blank (.inr (.inl h4b))
      refine x.back rfl (show inI64 _ by unfold inI64; omega) ⟨z, by show s.size - z.1 < s.size - p; omega, ⟨rfl, ?_, trivial⟩, trivial, rfl⟩
      show (p : Int) + 1 = (z.1 : Int); omega
    have h4b : bt s p ≠ 9 := by have h4 : ¬ sb s ((p : Int)).toNat = 9 := of_decide_eq_false h4; omega
    refine x.cond rfl trivial (fun h5 => ?_) (fun h5 => ?_)
    · have h5b : bt s p = 10 := by have h5 : sb s ((p : Int)).toNat = 10 := of_decide_eq_true h5; omega
      obtain ⟨z, hz⟩ := blank (.inr (.inr h5b))
      refine x.back rfl (show inI64 _ by unfold inI64; omega) ⟨z, by show s.size - z.1 < s.size - p; omega, ⟨rfl, ?_, trivial⟩, trivial, rfl⟩
      show (p : Int) + 1 = (z.1 : Int); omega
    have h5b : bt s p ≠ 10 := by have h5 : ¬ sb s ((p : Int)).toNat = 10 := of_decide_eq_false h5; omega
    refine x.exit rfl trivial ?_
    refine ⟨.inr rfl, ?_, trivial, rfl⟩
    show (p : Int) = (skV s false p0 : Int)
    rw [← same, skV_stop h1]
    unfold nextR stopB
    rw [if_neg h5b, if_neg h2]
    simp [h3b, h4b, h5b]
  · have h1 : p = s.size := by have := of_decide_eq_false h1; omega
    refine x.exit rfl trivial ?_
    refine ⟨.inr rfl, ?_, trivial, rfl⟩
    show (p : Int) = (skV s false p0 : Int)
    rw [← same, skV_end (by omega)]

end Go.Proofs.YteeofakohenpoaaGreatDoor

/- The reference for letters, and the law on letters. -/
namespace Go.Proofs.YteeofakohenpoaaGreatDoor
open Go.Sx
set_option linter.unusedVariables false
set_option maxRecDepth 100000
theorem ref_digit_spec (r : Int) : Pure PG 62 [vi r] (vb (decide (48 ≤ r) && decide (r ≤ 57))) [] := by
  refine Proc.mk (cfg 9) tysOK [] Tryz.func62 rfl (by kernel_rfl) rfl rfl rfl ?_
  intro C x
  refine x.exit rfl trivial ?_
  exact ⟨.inr rfl, rfl, trivial, rfl⟩

theorem ref_letter_spec (r : Int) : Pure PG 61 [vi r] (vb (decide (97 ≤ r) && decide (r ≤ 122) || decide (65 ≤ r) && decide (r ≤ 90) || decide (r = 95) || decide (945 ≤ r) && decide (r ≤ 969) || decide (913 ≤ r) && decide (r ≤ 937) && !decide (r = 930))) [] := by
  refine Proc.mk (cfg 39) tysOK [] Tryz.func61 rfl (by kernel_rfl) rfl rfl rfl ?_
  intro C x
  refine x.cond rfl trivial (fun h => ?_) (fun h => ?_)
  · refine x.exit rfl trivial ?_
    refine ⟨.inr rfl, ?_, trivial, rfl⟩
    show true = _
    simp only [Bool.or_eq_true, Bool.and_eq_true, decide_eq_true_eq] at h
    symm
    simp only [Bool.or_eq_true, Bool.and_eq_true, decide_eq_true_eq]
    omega
  · refine x.exit rfl trivial ?_
    refine ⟨.inr rfl, ?_, trivial, rfl⟩
    show _ = _
    simp only [h, Bool.false_or]

end Go.Proofs.YteeofakohenpoaaGreatDoor

/- Is it a name? The reference's answer. -/
namespace Go.Proofs.YteeofakohenpoaaGreatDoor
open Go.Sx
set_option linter.unusedVariables false
set_option linter.unusedSimpArgs false
set_option maxRecDepth 100000

def refNameW (s : ByteArray) : Nat → Int → Bool
  | 0, _ => true
  | n + 1, i => if i < s.size then
      if (!letB (formV s i).1 && (decide (i = 0) || !digB (formV s i).1)) = true then false else refNameW s n (nextV s i)
    else true
theorem refNameW_end {s : ByteArray} {n : Nat} {i : Int} (h : ¬ i < s.size) : refNameW s n i = true := by
  cases n with
  | zero => rfl
  | succ n => rw [refNameW, if_neg h]
def refNameV (s : ByteArray) : Bool :=
  if (decide ((s.size : Int) = 0) || decide (0 ≤ badV s s.size 0) || decide (24 < runesV s s.size 0 0)) = true then false else refNameW s s.size 0

structure OI (s : ByteArray) where
  n : Nat
  i : Int
  fuel : (s.size : Int) ≤ i + n
  same : refNameW s n i = refNameW s s.size 0
  hi : 0 ≤ i ∧ i ≤ s.size

theorem ref_name_spec (s : ByteArray) (hs : s.size ≤ 9223372036854775807) : Pure PG 40 [vs s] (vb (refNameV s)) [] := by
  refine Proc.mk (cfg 44) tysOK [] Tryz.func40 rfl (by kernel_rfl) rfl rfl rfl ?_
  intro C x
  refine x.pureG rfl trivial rfl (fun _ => bad_spec s hs) rfl ⟨rfl, trivial⟩ ?_
  refine x.pureG rfl trivial rfl (fun _ => runes_spec s hs) rfl ⟨rfl, trivial⟩ ?_
  refine x.cond rfl trivial (fun h0 => ?_) (fun h0 => ?_)
  · refine x.exit rfl trivial ?_
    refine ⟨.inr rfl, ?_, trivial, rfl⟩
    rw [refNameV, if_pos h0]
    exact rfl
  have h0' : refNameV s = refNameW s s.size 0 := by
    rw [refNameV, if_neg (by rw [h0]; simp)]
  refine x.loop (α := OI s) (fun y => ⟨[(0, vs s), (3, vi y.i)], [], 0⟩) (fun y => (s.size + 4 - y.i).toNat) ⟨s.size, 0, by omega, rfl, by omega⟩ rfl trivial ?_ (fun y => ?_)
  · exact ⟨⟨rfl, rfl, trivial⟩, trivial, rfl⟩
  obtain ⟨n, i, fuel, same, hi⟩ := y
  change Go C _ ⟨[(0, vs s), (3, vi i)], [], 0⟩ _
  refine x.cond rfl trivial (fun h => ?_) (fun h => ?_)
  · have h' : i < s.size := by simpa using h
    have hn := nextV_gt s i
    have hr := nextV_room s i (by omega)
    refine x.pure rfl trivial rfl (form_spec s i hs) ⟨rfl, rfl, trivial⟩ ?_
    refine x.pure rfl trivial rfl (ref_letter_spec _) ⟨rfl, trivial⟩ ?_
    refine x.pureG rfl trivial rfl (fun _ _ => ref_digit_spec _) rfl ⟨rfl, trivial⟩ ?_
    cases n with
    | zero => omega
    | succ n =>
      rw [refNameW, if_pos h'] at same
      refine x.cond rfl trivial (fun h2 => ?_) (fun h2 => ?_)
      · rw [if_pos (show (!letB (formV s i).1 && (decide (i = 0) || !digB (formV s i).1)) = true from h2)] at same
        refine x.exit rfl trivial ?_
        refine ⟨.inr rfl, ?_, trivial, rfl⟩
        rw [h0', ← same]
        exact rfl
      · rw [if_neg (by rw [show (!letB (formV s i).1 && (decide (i = 0) || !digB (formV s i).1)) = false from h2]; simp)] at same
        refine x.pure rfl trivial rfl (next_spec s i hs (by omega)) ⟨rfl, rfl, trivial⟩ ?_
        refine x.back rfl trivial ?_
        refine ⟨⟨n, nextV s i, by omega, same, by omega⟩, by show ((s.size : Int) + 4 - nextV s i).toNat < ((s.size : Int) + 4 - i).toNat; omega, ?_⟩
        exact ⟨⟨rfl, rfl, trivial⟩, trivial, rfl⟩
  · have h' : ¬ i < s.size := by simpa using h
    refine x.exit rfl trivial ?_
    refine ⟨.inr rfl, ?_, trivial, rfl⟩
    rw [h0', ← same, refNameW_end h']
    exact rfl
end Go.Proofs.YteeofakohenpoaaGreatDoor

/- Names: both answer alike; the law. -/
namespace Go.Proofs.YteeofakohenpoaaGreatDoor
open Go.Sx
set_option linter.unusedVariables false
set_option linter.unusedSimpArgs false
set_option maxRecDepth 100000

theorem runesV_ge (s : ByteArray) : ∀ (n : Nat) (i c : Int), c ≤ runesV s n i c
  | 0, i, c => Int.le_refl c
  | n + 1, i, c => by
    rw [runesV]
    split
    · have := runesV_ge s n (nextV s i) (c + 1); omega
    · exact Int.le_refl c

theorem nameW_eq (s : ByteArray) : ∀ (n p : Nat) (c : Int), s.size ≤ p + n → c ≤ 24 →
    nameW s n p c = (!decide (0 ≤ badV s n p) && decide (runesV s n p c ≤ 24) && refNameW s n p && decide (0 < runesV s n p c)) := by
  intro n
  induction n with
  | zero =>
    intro p c h1 h2
    rw [nameW, badV, runesV, refNameW]
    simp [h2]
  | succ n ih =>
    intro p c h1 h2
    by_cases hp : p < s.size
    · have hp' : (p : Int) < s.size := by omega
      have hf := formV_at hp
      rw [nameW, badV, runesV, refNameW, if_pos hp, if_pos hp', if_pos hp', if_pos hp', nextV_at hp, hf]
      by_cases hb : (Utf8.decode s p).2 = 1 ∧ 128 ≤ bt s p
      · have hr : (Utf8.decode s p).1 = 65533 := by
          rw [decode_eq] at hb ⊢
          exact dec_bad _ _ _ _ _ _ hb.1 hb.2
        rw [if_pos hb, hr]
        simp [letB, digB]
      · obtain ⟨d1, d2, d3⟩ := decode_pos s p
        have hz : ¬ (((Utf8.decode s p).2 : Int) = 0) := by omega
        rw [if_neg hb]
        simp only
        rw [if_neg hz]
        by_cases hc : (!letB (Utf8.decode s p).1 && (decide ((p : Int) = 0) || !digB (Utf8.decode s p).1)) = true
        · rw [if_pos hc, if_pos hc]; simp
        · rw [if_neg hc, if_neg hc]
          by_cases h24 : 24 < c + 1
          · have := runesV_ge s n ((p + (Utf8.decode s p).2 : Nat) : Int) (c + 1)
            rw [if_pos h24, decide_eq_false (p := runesV s n ((p + (Utf8.decode s p).2 : Nat) : Int) (c + 1) ≤ 24) (by omega)]
            simp
          · rw [if_neg h24, ih (p + (Utf8.decode s p).2) (c + 1) (by omega) (by omega)]
            simp
    · rw [nameW_end hp, badV_end (by omega), runesV_end (by omega), refNameW_end (by omega)]
      simp [h2]

theorem name_eq (s : ByteArray) : nameW s s.size 0 0 = refNameV s := by
  rw [nameW_eq s s.size 0 0 (by omega) (by omega), refNameV]
  by_cases h0 : s.size = 0
  · rw [if_pos (by simp [h0]), h0]
    simp [runesV]
  · have h1 : 0 < runesV s s.size 0 0 := by
      obtain ⟨k, hk⟩ : ∃ k, s.size = k + 1 := ⟨s.size - 1, by omega⟩
      rw [hk, runesV, if_pos (by omega)]
      have := runesV_ge s k (nextV s 0) (0 + 1)
      omega
    rw [decide_eq_false (p := ((s.size : Int) = 0)) (by omega), Bool.false_or]
    by_cases h2 : 0 ≤ badV s s.size 0
    · simp [h2]
    · by_cases h3 : 24 < runesV s s.size 0 0
      · rw [if_pos (by simp [h3]), decide_eq_false (p := runesV s s.size ((0 : Nat) : Int) 0 ≤ 24) (by simp; omega)]
        simp
      · rw [if_neg (by simp [h2]; omega)]
        simp [h1, h2]
        omega
end Go.Proofs.YteeofakohenpoaaGreatDoor

/- Rows of letters and digits. -/
namespace Go.Proofs.YteeofakohenpoaaGreatDoor
open Go.Sx
set_option linter.unusedVariables false
set_option linter.unusedSimpArgs false
set_option maxRecDepth 100000

def plainB (s : ByteArray) (p : Nat) : Bool := letB (Utf8.decode s p).1 || digB (Utf8.decode s p).1
/-- Where the row of letters and digits ends. -/
def rowN (s : ByteArray) : Nat → Nat → Nat
  | 0, p => p
  | n + 1, p => if p < s.size then (if plainB s p then rowN s n (p + (Utf8.decode s p).2) else p) else p
theorem rowN_end {s : ByteArray} {n p : Nat} (h : s.size ≤ p) : rowN s n p = p := by
  cases n with
  | zero => rfl
  | succ n => rw [rowN, if_neg (by omega)]
theorem rowN_fuel (s : ByteArray) : ∀ (n m p : Nat), s.size ≤ p + n → s.size ≤ p + m → rowN s n p = rowN s m p
  | 0, m, p, h, _ => by rw [rowN_end (by omega), rowN_end (by omega)]
  | n + 1, 0, p, _, h => by rw [rowN_end (by omega), rowN_end (by omega)]
  | n + 1, m + 1, p, h1, h2 => by
    have := (decode_pos s p).1
    rw [rowN, rowN]
    split
    · split
      · exact rowN_fuel s n m _ (by omega) (by omega)
      · rfl
    · rfl
def rowV (s : ByteArray) (p : Nat) : Nat := rowN s s.size p
theorem rowV_end {s : ByteArray} {p : Nat} (h : s.size ≤ p) : rowV s p = p := rowN_end h
theorem rowV_step {s : ByteArray} {p : Nat} (h : p < s.size) : rowV s p = if plainB s p then rowV s (p + (Utf8.decode s p).2) else p := by
  unfold rowV
  obtain ⟨n, hn⟩ : ∃ n, s.size = n + 1 := ⟨s.size - 1, by omega⟩
  have := (decode_pos s p).1
  rw [rowN_fuel s s.size (n + 1) p (by omega) (by omega), rowN, if_pos h, rowN_fuel s n s.size _ (by omega) (by omega)]
theorem rowV_le (s : ByteArray) : ∀ (n p : Nat), s.size ≤ p + n → p ≤ s.size → p ≤ rowV s p ∧ rowV s p ≤ s.size
  | 0, p, h, hp => by rw [rowV_end (by omega)]; omega
  | n + 1, p, h, hp => by
    by_cases hl : p < s.size
    · rw [rowV_step hl]
      split
      · have h1 := (decode_pos s p).1
        have h2 := decode_room hl
        have := rowV_le s n (p + (Utf8.decode s p).2) (by omega) h2
        omega
      · omega
    · rw [rowV_end (by omega)]; omega
theorem decode_extract {s : ByteArray} {p : Nat} (hp : p ≤ s.size) (q : Nat) : Utf8.decode (s.extract p s.size) q = Utf8.decode s (p + q) := by
  have h := dec_shift (s.size - p) q p (bt s (p + q)) (bt s (p + q + 1)) (bt s (p + q + 2)) (bt s (p + q + 3))
  rw [show p + (s.size - p) = s.size by omega] at h
  rw [decode_eq, decode_eq, extract_size, bt_extract, bt_extract, bt_extract, bt_extract, ← Nat.add_assoc, ← Nat.add_assoc, ← Nat.add_assoc, h]
theorem rowV_extract {s : ByteArray} {p : Nat} (hp : p ≤ s.size) : ∀ (n q : Nat), s.size ≤ p + q + n → p + rowV (s.extract p s.size) q = rowV s (p + q)
  | 0, q, h => by rw [rowV_end (by rw [extract_size]; omega), rowV_end (by omega)]
  | n + 1, q, h => by
    by_cases hl : p + q < s.size
    · rw [rowV_step (by rw [extract_size]; omega), rowV_step hl, plainB, plainB, decode_extract hp]
      have := (decode_pos s (p + q)).1
      split
      · rw [rowV_extract hp n _ (by omega), Nat.add_assoc]
      · rfl
    · rw [rowV_end (by rw [extract_size]; omega), rowV_end (by omega)]

theorem row_spec (s : ByteArray) (hs : s.size ≤ 9223372036854775807) : Pure PG 81 [vs s] (vi (rowV s 0 : Int)) [] := by
  refine Proc.mk (cfg 22) tysOK [] Tryz.func81 rfl (by kernel_rfl) rfl rfl rfl ?_
  intro C x
  refine x.loop (α := { p : Nat // p ≤ s.size ∧ rowV s p = rowV s 0 }) (fun y => ⟨[(0, vs s), (6, .ptr 0 0)], [(0, .iter s y.1)], 1⟩) (fun y => s.size - y.1) ⟨0, by omega, rfl⟩ rfl trivial ?_ (fun y => ?_)
  · exact ⟨⟨rfl, ⟨rfl, rfl⟩, trivial⟩, ⟨⟨rfl, rfl⟩, trivial⟩, rfl⟩
  obtain ⟨p, hp, same⟩ := y
  change Go C _ ⟨[(0, vs s), (6, .ptr 0 0)], [(0, .iter s p)], 1⟩ _
  obtain ⟨d1, d2, d3⟩ := decode_pos s p
  refine x.next rfl trivial rfl rfl rfl (fun h => ?_) (fun h => ?_)
  · have h : p < s.size := h
    have hr := decode_room h
    rw [rowV_step h] at same
    refine x.cond rfl trivial (fun _ => ?_) (fun h1 => by cases h1)
    refine x.pure rfl trivial rfl (letter_spec _) ⟨rfl, trivial⟩ ?_
    refine x.pureG rfl trivial rfl (fun _ => digit_spec _) rfl ⟨rfl, trivial⟩ ?_
    refine x.cond rfl trivial (fun h2 => ?_) (fun h2 => ?_)
    · have h2 : (!letB (Utf8.decode s p).1 && !digB (Utf8.decode s p).1) = true := h2
      have h3 : plainB s p = false := by
        unfold plainB
        simp only [Bool.and_eq_true, Bool.not_eq_true'] at h2
        rw [h2.1, h2.2]; rfl
      rw [if_neg (by rw [h3]; simp)] at same
      refine x.exit rfl trivial ?_
      refine ⟨.inr rfl, ?_, trivial, rfl⟩
      rw [← same]
      exact rfl
    · have h2 : (!letB (Utf8.decode s p).1 && !digB (Utf8.decode s p).1) = false := h2
      have h3 : plainB s p = true := by
        unfold plainB
        cases e : letB (Utf8.decode s p).1 with
        | true => rfl
        | false => rw [e] at h2; simpa using h2
      rw [if_pos h3] at same
      refine x.back rfl trivial ⟨⟨p + (Utf8.decode s p).2, hr, same⟩, by show s.size - (p + (Utf8.decode s p).2) < s.size - p; omega, ?_⟩
      exact ⟨⟨rfl, ⟨rfl, rfl⟩, trivial⟩, ⟨⟨rfl, rfl⟩, trivial⟩, rfl⟩
  · have h : ¬ p < s.size := h
    refine x.cond rfl trivial (fun h1 => by cases h1) (fun _ => ?_)
    refine x.exit rfl trivial ?_
    refine ⟨.inr rfl, ?_, trivial, rfl⟩
    rw [rowV_end (by omega)] at same
    show (s.size : Int) = (rowV s 0 : Int)
    rw [← same]; omega

theorem form_plain {s : ByteArray} {p : Nat} (h : p < s.size) : (decide (0 < (formV s (p : Int)).2) && (letB (formV s (p : Int)).1 || digB (formV s (p : Int)).1)) = plainB s p := by
  have hd := decode_pos s p
  unfold plainB
  rw [formV_at h]
  by_cases h1 : (Utf8.decode s p).2 = 1 ∧ 128 ≤ bt s p
  · rw [if_pos h1]
    have hr : (Utf8.decode s p).1 = 65533 := by
      rw [decode_eq] at h1 ⊢
      exact dec_bad _ _ _ _ _ _ h1.1 h1.2
    rw [hr]; decide
  · rw [if_neg h1]
    show (decide (0 < ((Utf8.decode s p).2 : Int)) && _) = _
    rw [decide_eq_true (by omega), Bool.true_and]
end Go.Proofs.YteeofakohenpoaaGreatDoor

/- The text of a number: plain facts, and the answer's. -/
namespace Go.Proofs.YteeofakohenpoaaGreatDoor
open Go.Sx
set_option linter.unusedVariables false
set_option linter.unusedSimpArgs false
set_option maxRecDepth 100000

def digs (u : Nat) : List UInt8 := if u < 10 then [UInt8.ofNat (48 + u)] else digs (u / 10) ++ [UInt8.ofNat (48 + u % 10)]
termination_by u
decreasing_by omega
theorem digs_lt {u : Nat} (h : u < 10) : digs u = [UInt8.ofNat (48 + u)] := by rw [digs, if_pos h]
theorem digs_ge {u : Nat} (h : ¬ u < 10) : digs u = digs (u / 10) ++ [UInt8.ofNat (48 + u % 10)] := by rw [digs, if_neg h]

def digs0 (u : Nat) : List UInt8 := if u = 0 then [] else digs u
theorem digs0_app (u : Nat) : digs0 (u / 10) ++ [UInt8.ofNat (48 + u % 10)] = digs u := by
  by_cases h : u < 10
  · rw [digs_lt h, digs0, if_pos (by omega), Nat.mod_eq_of_lt h]; rfl
  · rw [digs_ge h, digs0, if_neg (by omega)]

def sgV (n : Int) : List UInt8 := if n < 0 then [45] else []
def showV (n : Int) : ByteArray := ba (sgV n ++ digs n.natAbs)

theorem digs_len : ∀ (k u : Nat), u < 10 ^ (k + 1) → (digs u).length ≤ k + 1
  | 0, u, h => by rw [digs_lt (by simpa using h)]; simp
  | k + 1, u, h => by
    by_cases hu : u < 10
    · rw [digs_lt hu]; simp
    · rw [digs_ge hu]
      have := digs_len k (u / 10) (by rw [Nat.pow_succ] at h; omega)
      simp; omega

theorem getD_map {α β : Type} (l : List α) (f : α → β) (d : α) (e : β) (i : Nat) (h : i < l.length) : (l.map f).getD i e = f (l.getD i d) := by
  simp [List.getD_eq_getElem?_getD, h]

def ten : ByteArray := ⟨#[48, 49, 50, 51, 52, 53, 54, 55, 56, 57]⟩
theorem ten_at (u : Nat) (h : u < 10) : ten.extract u (u + 1) = ba [UInt8.ofNat (48 + u)] := by
  have : ∀ u : Fin 10, ten.extract u.1 (u.1 + 1) = ba [UInt8.ofNat (48 + u.1)] := by decide +kernel
  exact this ⟨u, h⟩

structure HI (u0 : Nat) where
  u : Nat
  l : List UInt8
  same : digs u ++ l = digs u0
  le : u ≤ u0
  len : l.length ≤ 20

theorem ref_show_pos (u0 : Nat) (hn : u0 ≤ 9223372036854775807) : Pure PG 22 [vi (u0 : Int)] (vs (ba (digs u0))) [] := by
  refine Proc.mk (cfg 30) tysOK [] Tryz.func22 rfl (by kernel_rfl) rfl rfl rfl ?_
  intro C x
  refine x.cond rfl trivial (fun h => ?_) (fun _ => ?_)
  · simp at h <;> omega
  refine x.cond rfl trivial (fun h => ?_) (fun _ => ?_)
  · simp at h <;> omega
  have hlen : ∀ (l : List UInt8) u, digs u ++ l = digs u0 → (digs u).length + l.length ≤ 19 := fun l u h => by
    have := digs_len 18 u0 (by show u0 < 10000000000000000000; omega)
    rw [← h] at this
    simpa using this
  refine x.loop (α := HI u0) (fun y => ⟨[(0, vi (y.u : Int)), (3, vs (ba y.l))], [], 0⟩) (fun y => y.u) ⟨u0, [], by simp, Nat.le_refl _, by simp⟩ rfl trivial ?_ (fun y => ?_)
  · exact ⟨⟨rfl, rfl, trivial⟩, trivial, rfl⟩
  obtain ⟨u, l, same, le, len⟩ := y
  change Go C _ ⟨[(0, vi (u : Int)), (3, vs (ba l))], [], 0⟩ _
  have hl := hlen l u same
  refine x.cond rfl trivial (fun h => ?_) (fun h => ?_)
  · have hu : 10 ≤ u := by have : (10 : Int) ≤ u := by simpa using h
                           omega
    have hm : (u : Int).tmod 10 = ((u % 10 : Nat) : Int) := by rw [Int.tmod_eq_emod_of_nonneg (by omega)]; rfl
    have hd : (u : Int).tdiv 10 = ((u / 10 : Nat) : Int) := by rw [Int.tdiv_eq_ediv_of_nonneg (by omega)]; rfl
    have he : ten.extract ((u : Int).tmod 10).toNat ((u : Int).tmod 10 + 1).toNat = ba [UInt8.ofNat (48 + u % 10)] := by
      rw [hm, show (((u % 10 : Nat) : Int) + 1).toNat = u % 10 + 1 by omega, Int.toNat_natCast]
      exact ten_at _ (by omega)
    refine x.back rfl ?_ ?_
    · have hs : (ten.extract ((u : Int).tmod 10).toNat ((u : Int).tmod 10 + 1).toNat).size = 1 := by rw [he]; rfl
      unfold ten at hs
      simp only [AllP, hs, ba_size, inI64]
      rw [hm, hd]
      refine ⟨by omega, by omega, by omega, ?_, by omega, by omega, by omega⟩
      show _ ∧ _ ∧ _ ≤ (10 : Int)
      omega
    rw [digs_ge (by omega), List.append_assoc] at same
    refine ⟨⟨u / 10, [UInt8.ofNat (48 + u % 10)] ++ l, same, by omega, by simp; omega⟩, by show u / 10 < u; omega, ⟨hd, ?_, trivial⟩, trivial, rfl⟩
    show ten.extract _ _ ++ ba l = ba ([_] ++ l)
    rw [he, ba_app]
  · have hu : u < 10 := by have : ¬ (10 : Int) ≤ u := by simpa using h
                           omega
    have he : ten.extract (u : Int).toNat ((u : Int) + 1).toNat = ba [UInt8.ofNat (48 + u)] := by
      rw [show ((u : Int) + 1).toNat = u + 1 by omega, Int.toNat_natCast]
      exact ten_at _ hu
    refine x.exit rfl ?_ ?_
    · have hs : (ten.extract (u : Int).toNat ((u : Int) + 1).toNat).size = 1 := by rw [he]; rfl
      unfold ten at hs
      simp only [AllP, hs, ba_size, inI64]
      refine ⟨by omega, ?_, by omega⟩
      show _ ∧ _ ∧ _ ≤ (10 : Int)
      omega
    refine ⟨.inr rfl, ?_, trivial, rfl⟩
    show ten.extract _ _ ++ ba l = ba (digs u0)
    rw [he, ba_app, ← same, digs_lt hu]

theorem min_text : (⟨#[45, 57, 50, 50, 51, 51, 55, 50, 48, 51, 54, 56, 53, 52, 55, 55, 53, 56, 48, 56]⟩ : ByteArray) = showV (-9223372036854775808) := by
  unfold showV sgV
  rw [if_pos (by omega), show Int.natAbs (-9223372036854775808) = 9223372036854775808 from rfl]
  repeat rw [digs_ge (by decide)]
  rw [digs_lt (by decide)]
  decide +kernel

theorem ref_show_spec (n : Int) (hn : inI64 n) : Pure PG 22 [vi n] (vs (showV n)) [] := by
  unfold inI64 at hn
  by_cases h0 : 0 ≤ n
  · have := ref_show_pos n.toNat (by omega)
    rw [Int.toNat_of_nonneg h0] at this
    rw [showV, sgV, if_neg (by omega), show n.natAbs = n.toNat by omega]
    exact this
  refine Proc.mk (cfg 30) tysOK [] Tryz.func22 rfl (by kernel_rfl) rfl rfl rfl ?_
  intro C x
  refine x.cond rfl trivial (fun h => ?_) (fun h => ?_)
  · refine x.exit rfl trivial ?_
    refine ⟨.inr rfl, ?_, trivial, rfl⟩
    have : n = -9223372036854775808 := by simpa using h
    rw [this]
    exact min_text
  have hne : n ≠ -9223372036854775808 := by simpa using h
  refine x.cond rfl trivial (fun _ => ?_) (fun h => ?_)
  · have hp := ref_show_pos n.natAbs (by omega)
    rw [show (n.natAbs : Int) = 0 - n by omega] at hp
    refine x.pure rfl (show inI64 (0 - n) by unfold inI64; omega) rfl hp ⟨rfl, trivial⟩ ?_
    refine x.exit rfl ?_ ?_
    · show ((((⟨#[45]⟩ : ByteArray).size + (ba (digs n.natAbs)).size : Nat) : Int)) ≤ 9223372036854775807
      have := digs_len 18 n.natAbs (by show n.natAbs < 10000000000000000000; omega)
      rw [ba_size]
      show ((1 + (digs n.natAbs).length : Nat) : Int) ≤ _
      omega
    refine ⟨.inr rfl, ?_, trivial, rfl⟩
    show ba [45] ++ ba (digs n.natAbs) = showV n
    rw [ba_app, showV, sgV, if_pos (by omega)]
  · simp at h; omega
end Go.Proofs.YteeofakohenpoaaGreatDoor
