/- The types that the program uses, as the engine Sx takes them; the program, and the tables of its library that it reads. -/
import Derived.Test.YtdgopbgckdnncaaSx29
import Derived.Test.YtdgopbgckdnncaaProg
import Derived.Lib.DecodeN
namespace Go.Proofs.Ytdgopbgckdnncaa
open Go.Sx
noncomputable def PG : Pg := ⟨Try.prog, []⟩
theorem ty_0 : TI.OK Try.prog 2 ⟨.int .i64, 1, 8, [.d (.int .i64 0)]⟩ := TI.mk' (z := .int .i64 0) Try.underlying2 (by kernel_rfl) rfl ⟨rfl, trivial⟩
theorem ty_1 : TI.OK Try.prog 3 ⟨.int .i64, 1, 8, [.d (.int .i64 0)]⟩ := TI.mk' (z := .int .i64 0) Try.underlying3 (by kernel_rfl) rfl ⟨rfl, trivial⟩
theorem ty_2 : TI.OK Try.prog 4 ⟨.bool, 1, 1, [.d (.bool false)]⟩ := TI.mk' (z := .bool false) Try.underlying4 (by kernel_rfl) rfl ⟨rfl, trivial⟩
theorem ty_3 : TI.OK Try.prog 5 ⟨.int .u8, 1, 1, [.d (.int .u8 0)]⟩ := TI.mk' (z := .int .u8 0) Try.underlying5 (by kernel_rfl) rfl ⟨rfl, trivial⟩
theorem ty_4 : TI.OK Try.prog 9 ⟨.str, 1, 16, [.d (.str .empty)]⟩ := TI.mk' (z := .string .empty) Try.underlying9 (by kernel_rfl) rfl ⟨rfl, trivial⟩
theorem ty_5 : TI.OK Try.prog 21 ⟨.int .i32, 1, 4, [.d (.int .i32 0)]⟩ := TI.mk' (z := .int .i32 0) Try.underlying21 (by kernel_rfl) rfl ⟨rfl, trivial⟩
theorem ty_9 : TI.OK Try.prog 23 ⟨.slice 3, 1, 24, [.nils]⟩ := TI.mk' (z := .slice none 0 0) Try.underlying23 (by kernel_rfl) rfl ⟨rfl, trivial⟩
theorem ty_10 : TI.OK Try.prog 22 ⟨.slice 23, 1, 24, [.nils]⟩ := TI.mk' (z := .slice none 0 0) Try.underlying22 (by kernel_rfl) rfl ⟨rfl, trivial⟩
theorem ty_11 : TI.OK Try.prog 29 ⟨.slice 4, 1, 24, [.nils]⟩ := TI.mk' (z := .slice none 0 0) Try.underlying29 (by kernel_rfl) rfl ⟨rfl, trivial⟩
theorem ty_15 : TI.OK Try.prog 51 ⟨.array 256 4, 256, 256, [.d (.bool false)]⟩ := TI.mk' (z := .agg (List.replicate 256 [Value.bool false]).flatten.toArray) Try.underlying51 (by kernel_rfl) (by kernel_rfl) (all2_rep (us := [.d (.bool false)]) (cs := [.bool false]) ⟨rfl, trivial⟩ 256)
theorem ty_16 : TI.OK Try.prog 46 ⟨.other, 1, 8, [.dead]⟩ := TI.mk' (z := .nilFunc) ⟨_, Try.underlying46, trivial⟩ (by kernel_rfl) rfl ⟨rfl, trivial⟩
theorem ty_17 : TI.OK Try.prog 54 ⟨.struct [(0, 5), (1, 5), (2, 3), (3, 3), (4, 3), (5, 23), (6, 23), (7, 2), (8, 3)], 9, 96, [.d (.int .u8 0), .d (.int .u8 0), .d (.int .i64 0), .d (.int .i64 0), .d (.int .i64 0), .nils, .nils, .d (.int .i64 0), .d (.int .i64 0)]⟩ := TI.mk' (z := .agg #[.int .u8 0, .int .u8 0, .int .i64 0, .int .i64 0, .int .i64 0, .slice none 0 0, .slice none 0 0, .int .i64 0, .int .i64 0]) ⟨_, Try.underlying54, rfl⟩ (by kernel_rfl) rfl ⟨rfl, rfl, rfl, rfl, rfl, rfl, rfl, rfl, rfl, trivial⟩
theorem ty_18 : TI.OK Try.prog 52 ⟨.slice 54, 1, 24, [.nils]⟩ := TI.mk' (z := .slice none 0 0) Try.underlying52 (by kernel_rfl) rfl ⟨rfl, trivial⟩
theorem ty_19 : TI.OK Try.prog 36 ⟨.slice 52, 1, 24, [.nils]⟩ := TI.mk' (z := .slice none 0 0) Try.underlying36 (by kernel_rfl) rfl ⟨rfl, trivial⟩
theorem ty_20 : TI.OK Try.prog 38 ⟨.struct [(0, 3), (1, 3), (2, 36)], 3, 40, [.d (.int .i64 0), .d (.int .i64 0), .nils]⟩ := TI.mk' (z := .agg #[.int .i64 0, .int .i64 0, .slice none 0 0]) ⟨_, Try.underlying38, rfl⟩ (by kernel_rfl) rfl ⟨rfl, rfl, rfl, trivial⟩
def tys : List (Nat × TI) :=
  (2, ⟨.int .i64, 1, 8, [.d (.int .i64 0)]⟩) ::
  (3, ⟨.int .i64, 1, 8, [.d (.int .i64 0)]⟩) ::
  (4, ⟨.bool, 1, 1, [.d (.bool false)]⟩) ::
  (5, ⟨.int .u8, 1, 1, [.d (.int .u8 0)]⟩) ::
  (9, ⟨.str, 1, 16, [.d (.str .empty)]⟩) ::
  (21, ⟨.int .i32, 1, 4, [.d (.int .i32 0)]⟩) ::
  (23, ⟨.slice 3, 1, 24, [.nils]⟩) ::
  (22, ⟨.slice 23, 1, 24, [.nils]⟩) ::
  (29, ⟨.slice 4, 1, 24, [.nils]⟩) ::
  (51, ⟨.array 256 4, 256, 256, [.d (.bool false)]⟩) ::
  (46, ⟨.other, 1, 8, [.dead]⟩) ::
  (54, ⟨.struct [(0, 5), (1, 5), (2, 3), (3, 3), (4, 3), (5, 23), (6, 23), (7, 2), (8, 3)], 9, 96, [.d (.int .u8 0), .d (.int .u8 0), .d (.int .i64 0), .d (.int .i64 0), .d (.int .i64 0), .nils, .nils, .d (.int .i64 0), .d (.int .i64 0)]⟩) ::
  (52, ⟨.slice 54, 1, 24, [.nils]⟩) ::
  (36, ⟨.slice 52, 1, 24, [.nils]⟩) ::
  (38, ⟨.struct [(0, 3), (1, 3), (2, 36)], 3, 40, [.d (.int .i64 0), .d (.int .i64 0), .nils]⟩) ::
  []
theorem tysOK : TysOK Try.prog tys :=
  And.intro ty_0 <|
  And.intro ty_1 <|
  And.intro ty_2 <|
  And.intro ty_3 <|
  And.intro ty_4 <|
  And.intro ty_5 <|
  And.intro ty_9 <|
  And.intro ty_10 <|
  And.intro ty_11 <|
  And.intro ty_15 <|
  And.intro ty_16 <|
  And.intro ty_17 <|
  And.intro ty_18 <|
  And.intro ty_19 <|
  And.intro ty_20 <|
  trivial
theorem mixedP : Try.prog.follows .mixedOrders = true := by kernel_rfl
def cfg (n : Nat) : Cfg := ⟨n, 0, true, tys⟩
def cfgF (n fix : Nat) : Cfg := ⟨n, fix, true, tys⟩
end Go.Proofs.Ytdgopbgckdnncaa
