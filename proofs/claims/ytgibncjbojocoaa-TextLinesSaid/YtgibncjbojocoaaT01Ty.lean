/- The types that the law package 01 reaches, as the engine Sx takes them. -/
import Derived.Test.YtgibncjbojocoaaSx23
import Derived.Test.YtgibncjbojocoaaProg
namespace Go.Proofs.Ytgibncjbojocoaa
open Go.Sx
theorem ty2 : TI.OK Try.prog 2 ⟨.int .i64, 1, 8, [.d (.int .i64 0)]⟩ := TI.mk' (z := .int .i64 0) Try.underlying2 (by kernel_rfl) rfl ⟨rfl, trivial⟩
theorem ty3 : TI.OK Try.prog 3 ⟨.int .i64, 1, 8, [.d (.int .i64 0)]⟩ := TI.mk' (z := .int .i64 0) Try.underlying3 (by kernel_rfl) rfl ⟨rfl, trivial⟩
theorem ty4 : TI.OK Try.prog 4 ⟨.bool, 1, 1, [.d (.bool false)]⟩ := TI.mk' (z := .bool false) Try.underlying4 (by kernel_rfl) rfl ⟨rfl, trivial⟩
theorem ty5 : TI.OK Try.prog 5 ⟨.int .u8, 1, 1, [.d (.int .u8 0)]⟩ := TI.mk' (z := .int .u8 0) Try.underlying5 (by kernel_rfl) rfl ⟨rfl, trivial⟩
theorem ty9 : TI.OK Try.prog 9 ⟨.str, 1, 16, [.d (.str .empty)]⟩ := TI.mk' (z := .string .empty) Try.underlying9 (by kernel_rfl) rfl ⟨rfl, trivial⟩
theorem ty21 : TI.OK Try.prog 21 ⟨.int .i32, 1, 4, [.d (.int .i32 0)]⟩ := TI.mk' (z := .int .i32 0) Try.underlying21 (by kernel_rfl) rfl ⟨rfl, trivial⟩
theorem ty36 : TI.OK Try.prog 36 ⟨.int .u64, 1, 8, [.d (.int .u64 0)]⟩ := TI.mk' (z := .int .u64 0) Try.underlying36 (by kernel_rfl) rfl ⟨rfl, trivial⟩
theorem ty37 : TI.OK Try.prog 37 ⟨.slice 5, 1, 24, [.nils]⟩ := TI.mk' (z := .slice none 0 0) Try.underlying37 (by kernel_rfl) rfl ⟨rfl, trivial⟩
def tys : List (Nat × TI) := [(2, ⟨.int .i64, 1, 8, [.d (.int .i64 0)]⟩), (3, ⟨.int .i64, 1, 8, [.d (.int .i64 0)]⟩), (4, ⟨.bool, 1, 1, [.d (.bool false)]⟩), (5, ⟨.int .u8, 1, 1, [.d (.int .u8 0)]⟩), (9, ⟨.str, 1, 16, [.d (.str .empty)]⟩), (21, ⟨.int .i32, 1, 4, [.d (.int .i32 0)]⟩), (36, ⟨.int .u64, 1, 8, [.d (.int .u64 0)]⟩), (37, ⟨.slice 5, 1, 24, [.nils]⟩)]
theorem tysOK : TysOK Try.prog tys := ⟨ty2, ty3, ty4, ty5, ty9, ty21, ty36, ty37, trivial⟩
end Go.Proofs.Ytgibncjbojocoaa
