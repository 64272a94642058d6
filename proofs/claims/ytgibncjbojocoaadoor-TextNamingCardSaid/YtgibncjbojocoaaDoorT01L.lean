/- Plain facts on runes. -/
import Derived.Test.YtgibncjbojocoaaDoorT01G
namespace Go.Proofs.YtgibncjbojocoaaDoor
open Go.Sx
set_option linter.unusedVariables false
set_option linter.unusedSimpArgs false
set_option maxRecDepth 100000

theorem decode_pos (s : ByteArray) (p : Nat) : 1 ≤ (Utf8.decode s p).2 ∧ (Utf8.decode s p).2 ≤ 4 ∧ (Utf8.decode s p).1 < 4294967296 := by
  rw [decode_eq]
  have h0 := bt_lt s p
  unfold dec
  repeat' split
  all_goals simp
  all_goals omega

theorem veq_int {k : IntKind} {a b : Int} (h : a = b) : VEq (.d (.int k a)) (.d (.int k b)) := by subst h; cases k <;> exact rfl
theorem nextV_gt (s : ByteArray) (i : Int) : i + 1 ≤ nextV s i ∧ nextV s i ≤ i + 4 := by
  have := formV_len s i
  unfold nextV
  split <;> omega

end Go.Proofs.YtgibncjbojocoaaDoor
