/- The reference's step to the next rune; places in a text. -/
import Derived.Test.YtgibncjbojocoaaDoorT01F
namespace Go.Proofs.YtgibncjbojocoaaDoor
open Go.Sx
set_option linter.unusedVariables false
set_option linter.unusedSimpArgs false
set_option maxRecDepth 100000

/-- Behind the rune at i. -/
def nextV (s : ByteArray) (i : Int) : Int := if (formV s i).2 = 0 then i + 1 else i + (formV s i).2

theorem formV_len (s : ByteArray) (i : Int) : 0 ≤ (formV s i).2 ∧ (formV s i).2 ≤ 4 := by
  by_cases h : 0 ≤ i ∧ i < s.size
  · rw [formV_in h, dec_form _ _ _ _ _ _ (bt_lt _ _) (bt_lt _ _) (bt_lt _ _) (bt_lt _ _)]
    repeat' split
    all_goals simp
  · rw [formV_out h]; simp

theorem formV_room (s : ByteArray) (i : Int) (h : 0 ≤ i ∧ i < s.size) : i + (formV s i).2 ≤ s.size := by
  rw [formV_in h, dec_form _ _ _ _ _ _ (bt_lt _ _) (bt_lt _ _) (bt_lt _ _) (bt_lt _ _)]
  repeat' split
  all_goals (simp; omega)
theorem nextV_room (s : ByteArray) (i : Int) (h : 0 ≤ i ∧ i < s.size) : nextV s i ≤ s.size := by
  have := formV_room s i h
  unfold nextV
  split <;> omega

theorem next_spec (s : ByteArray) (i : Int) (hs : s.size ≤ 9223372036854775807) (hi : 0 ≤ i ∧ i < s.size) : Pure PG 13 [vs s, vi i] (vi (nextV s i)) [] := by
  refine Proc.mk (cfg 20) tysOK [] Tryd.func13 rfl (by kernel_rfl) rfl rfl rfl ?_
  intro C x
  have hl := formV_len s i
  have hr := formV_room s i hi
  refine x.pure rfl trivial rfl (form_spec s i hs) ⟨rfl, rfl, trivial⟩ ?_
  refine x.cond rfl trivial (fun h0 => ?_) (fun h0 => ?_)
  · refine x.exit rfl (show inI64 (i + 1) by unfold inI64; omega) ?_
    refine ⟨.inr rfl, ?_, trivial, rfl⟩
    rw [nextV, if_pos (by simpa using h0)]
    exact rfl
  · refine x.exit rfl (show inI64 (i + (formV s i).2) by unfold inI64; omega) ?_
    refine ⟨.inr rfl, ?_, trivial, rfl⟩
    rw [nextV, if_neg (by simpa using h0)]
    exact rfl
end Go.Proofs.YtgibncjbojocoaaDoor
