/- The types that the law package 01 reaches, as the engine Sx takes them. -/
import Derived.Test.YtgibncjbojocoaaDoorSx28
import Derived.Test.YtgibncjbojocoaaDoorProg
import Derived.Lib.DecodeN
namespace Go.Proofs.YtgibncjbojocoaaDoor
open Go.Sx
/-- The program, and the tables of its library that it reads. -/
noncomputable def PG : Pg := ⟨Tryd.prog, [(0, 256, fun c => .int .u8 (Lib.firstT c)), (1, 32, fun c => .int .u8 (if c % 2 = 0 then Lib.accLo (c / 2) else Lib.accHi (c / 2)))]⟩
theorem ty_int64 : TI.OK Tryd.prog 2 ⟨.int .i64, 1, 8, [.d (.int .i64 0)]⟩ := TI.mk' (z := .int .i64 0) Tryd.underlying2 (by kernel_rfl) rfl ⟨rfl, trivial⟩
theorem ty_int : TI.OK Tryd.prog 3 ⟨.int .i64, 1, 8, [.d (.int .i64 0)]⟩ := TI.mk' (z := .int .i64 0) Tryd.underlying3 (by kernel_rfl) rfl ⟨rfl, trivial⟩
theorem ty_bool : TI.OK Tryd.prog 4 ⟨.bool, 1, 1, [.d (.bool false)]⟩ := TI.mk' (z := .bool false) Tryd.underlying4 (by kernel_rfl) rfl ⟨rfl, trivial⟩
theorem ty_uint8 : TI.OK Tryd.prog 5 ⟨.int .u8, 1, 1, [.d (.int .u8 0)]⟩ := TI.mk' (z := .int .u8 0) Tryd.underlying5 (by kernel_rfl) rfl ⟨rfl, trivial⟩
theorem ty_string : TI.OK Tryd.prog 9 ⟨.str, 1, 16, [.d (.str .empty)]⟩ := TI.mk' (z := .string .empty) Tryd.underlying9 (by kernel_rfl) rfl ⟨rfl, trivial⟩
theorem ty_int32 : TI.OK Tryd.prog 21 ⟨.int .i32, 1, 4, [.d (.int .i32 0)]⟩ := TI.mk' (z := .int .i32 0) Tryd.underlying21 (by kernel_rfl) rfl ⟨rfl, trivial⟩
def tys : List (Nat × TI) :=
  (2, ⟨.int .i64, 1, 8, [.d (.int .i64 0)]⟩) ::
  (3, ⟨.int .i64, 1, 8, [.d (.int .i64 0)]⟩) ::
  (4, ⟨.bool, 1, 1, [.d (.bool false)]⟩) ::
  (5, ⟨.int .u8, 1, 1, [.d (.int .u8 0)]⟩) ::
  (9, ⟨.str, 1, 16, [.d (.str .empty)]⟩) ::
  (21, ⟨.int .i32, 1, 4, [.d (.int .i32 0)]⟩) ::
  []
theorem tysOK : TysOK Tryd.prog tys :=
  And.intro ty_int64 <|
  And.intro ty_int <|
  And.intro ty_bool <|
  And.intro ty_uint8 <|
  And.intro ty_string <|
  And.intro ty_int32 <|
  trivial
end Go.Proofs.YtgibncjbojocoaaDoor
