/- What the letters and digits of the text package answer. -/
import Derived.Test.YtgibncjbojocoaaDoorT01Ty
namespace Go.Proofs.YtgibncjbojocoaaDoor
open Go.Sx
set_option linter.unusedVariables false
set_option maxRecDepth 100000

def cfg (n : Nat) : Cfg := ⟨n, 0, true, tys⟩

theorem digit_spec (r : Int) : Pure PG 15 [.d (.int .i32 r)] (vb (decide (48 ≤ r) && decide (r ≤ 57))) [] := by
  refine Proc.mk (cfg 9) tysOK [] Tryd.func15 rfl (by kernel_rfl) rfl rfl rfl ?_
  intro C x
  refine x.exit rfl ?_ ?_
  · exact trivial
  · exact ⟨.inr rfl, rfl, trivial, rfl⟩

theorem more_spec (s : ByteArray) (i lo hi : Int) (h0 : 0 ≤ i) : Pure PG 17 [vs s, vi i, .d (.int .u8 lo), .d (.int .u8 hi)] (vb (decide (i < s.size) && decide (lo ≤ sb s i.toNat) && decide (sb s i.toNat ≤ hi))) [] := by
  refine Proc.mk (cfg 27) tysOK [] Tryd.func17 rfl (by kernel_rfl) rfl rfl rfl ?_
  intro C x
  refine x.exit rfl ?_ ?_
  · simp only [AllP, decide_eq_true_eq, Bool.and_eq_true]
    omega
  · exact ⟨.inr rfl, rfl, trivial, rfl⟩

def cfg1 (n : Nat) : Cfg := ⟨n, 1, true, tys⟩

/-- Letter$1: is the rune that was boxed between a and b? -/
theorem between_spec (r a b : Int) : Proc PG 18 1 [.d (.int .i32 a), .d (.int .i32 b), .ptr 0 0] [.box [.d (.int .i32 r)]] (vb (decide (a ≤ r) && decide (r ≤ b))) [.box [.d (.int .i32 r)]] := by
  refine Proc.mk (cfg1 14) tysOK [0] Tryd.func18 rfl (by kernel_rfl) rfl rfl rfl ?_
  intro C x
  refine x.exit rfl trivial ?_
  exact ⟨.inr rfl, rfl, ⟨⟨rfl, trivial⟩, trivial⟩, rfl⟩

theorem letter_spec (r : Int) : Pure PG 14 [.d (.int .i32 r)] (vb (decide (97 ≤ r) && decide (r ≤ 122) || decide (65 ≤ r) && decide (r ≤ 90) || decide (r = 95) || decide (945 ≤ r) && decide (r ≤ 969) || decide (913 ≤ r) && decide (r ≤ 937) && !decide (r = 930))) [] := by
  refine Proc.mk (cfg 27) tysOK [] Tryd.func14 rfl (by kernel_rfl) rfl rfl rfl ?_
  intro C x
  refine x.call [0] rfl trivial rfl (between_spec r 97 122) rfl ⟨rfl, rfl, ⟨rfl, rfl⟩, trivial⟩ ⟨⟨rfl, trivial⟩, trivial⟩ ?_
  refine x.callG [0] rfl trivial rfl (fun _ => between_spec r 65 90) rfl ⟨rfl, rfl, ⟨rfl, rfl⟩, trivial⟩ ⟨⟨rfl, trivial⟩, trivial⟩ ⟨⟨rfl, trivial⟩, trivial⟩ ?_
  refine x.callG [0] rfl ?_ rfl (fun _ => between_spec r 945 969) rfl ⟨rfl, rfl, ⟨rfl, rfl⟩, trivial⟩ ⟨⟨rfl, trivial⟩, trivial⟩ ⟨⟨rfl, trivial⟩, trivial⟩ ?_
  · exact trivial
  refine x.callG [0] rfl trivial rfl (fun _ => between_spec r 913 937) rfl ⟨rfl, rfl, ⟨rfl, rfl⟩, trivial⟩ ⟨⟨rfl, trivial⟩, trivial⟩ ⟨⟨rfl, trivial⟩, trivial⟩ ?_
  refine x.exit rfl ?_ ?_
  · exact trivial
  · refine ⟨.inr rfl, ?_, trivial, rfl⟩
    rfl
end Go.Proofs.YtgibncjbojocoaaDoor
