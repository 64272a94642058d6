/- The reference for letters, and the law on letters. -/
import Derived.Test.YtgibncjbojocoaaT01A
namespace Go.Proofs.Ytgibncjbojocoaa
open Go.Sx
set_option linter.unusedVariables false
set_option maxRecDepth 100000
theorem ref_letter_spec (r : Int) : Pure Try.prog 11 [vi r] (vb (decide (97 ≤ r) && decide (r ≤ 122) || decide (65 ≤ r) && decide (r ≤ 90) || decide (r = 95) || decide (945 ≤ r) && decide (r ≤ 969) || decide (913 ≤ r) && decide (r ≤ 937) && !decide (r = 930))) [] := by
  refine Proc.mk (cfg 39) tysOK [] Try.func11 rfl (by kernel_rfl) rfl rfl rfl ?_
  intro C x
  refine x.cond rfl trivial (fun h => ?_) (fun h => ?_)
  · refine x.exit rfl trivial ?_
    refine ⟨.inr rfl, ?_, trivial, rfl⟩
    show true = _
    simp only [Bool.or_eq_true, Bool.and_eq_true, decide_eq_true_eq] at h
    symm
    simp only [Bool.or_eq_true, Bool.and_eq_true, decide_eq_true_eq]
    omega
  · refine x.exit rfl trivial ?_
    refine ⟨.inr rfl, ?_, trivial, rfl⟩
    show _ = _
    simp only [h, Bool.false_or]

/-- The law. -/
theorem letters_spec (r : Int) (h : inI64 r) : Pure Try.prog 3 [.d (.int .i32 r)] (vb true) [] := by
  refine Proc.mk (cfg 20) tysOK [] Try.func3 rfl (by kernel_rfl) rfl rfl rfl ?_
  intro C x
  refine x.pure rfl trivial rfl (letter_spec r) ⟨rfl, trivial⟩ ?_
  refine x.pure rfl h rfl (ref_letter_spec r) ⟨rfl, trivial⟩ ?_
  refine x.pureG rfl trivial rfl (fun _ => digit_spec r) rfl ⟨rfl, trivial⟩ ?_
  refine x.pureG rfl (fun _ => h) rfl (fun _ => ref_digit_spec r) rfl ⟨rfl, trivial⟩ ?_
  refine x.pureG rfl trivial rfl (fun _ => letter_spec 113) rfl ⟨rfl, trivial⟩ ?_
  refine x.exit rfl trivial ?_
  refine ⟨.inr rfl, ?_, trivial, rfl⟩
  show _ = _
  simp
end Go.Proofs.Ytgibncjbojocoaa
