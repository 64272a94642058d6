/-
  FOR EVERY INPUT the law PostStraight returns true, and its arguments read afterwards as before. No condition. The walk: a symbolic machine, proved sound over the model (the texts Sx1 on), goes through the code; the arguments are opened to its data by Sx29.
-/
import Derived.Test.YtniojnnbenkbpaaRows
import Derived.WalkKit
import Derived.ProofKit
import Derived.OpenShut
import Derived.ShutString
import Derived.SizedLaws
import Derived.Carry
import Derived.Test.YtniojnnbenkbpaaMC
import Derived.Test.YtniojnnbenkbpaaSxD
import Derived.Test.YtniojnnbenkbpaaSxE
import Derived.Below
namespace Go.Proofs.Ytniojnnbenkbpaa.postStraight
open Go.ChangeShapes Go.WideShapes Go.ChangeAt Go.RowKit Go.Sx
set_option linter.unusedVariables false
theorem own : ownKnob Try.prog.godebug = none := by kernel_rfl
theorem lies : laidOutB Try.prog = true := by kernel_rfl

set_option maxRecDepth 100000 in
theorem lifted (os : Os) (started : os.Started) (H : Type) (enc : TypeId × Value → H) :
    ReturnsInHanded {} Try.checked os 7 .any (Rows.postStraightSpec.pre6 enc Try.prog Try.f7 Rows.postStraightRow.domain false) (Rows.postStraightSpec.post enc Try.prog Try.f7 false true false false) := by
  refine returnsInHanded_of_change_sized (C := Try.checked) own started (by kernel_rfl) Try.func7
    (ChangeSpec.witness6 (enc := enc) (C := Try.checked) false ⟨#[], #[.int .u8 0], []⟩ 8 (by kernel_rfl) (by kernel_rfl) (by kernel_rfl) (by kernel_rfl)) ?_
  intro W base args ds gs before hval0 hW hcnd hsz _
  have hval : ∀ (j : Nat) t v, Try.f7.params[j]? = some t → args[j]? = some v → Value.okWide Try.prog W .any base t v := hval0
  have hW' := hW
  obtain ⟨p, q, hA0, hV, rfl, hfz, hnd⟩ := hW
  have hA : DataW.TrodAll enc Try.prog W 0 (fun _ => true) true Try.f7.params.toList args.toList ds p := hA0
  rw [Try.params7] at hA hval
  obtain ⟨v0, vs0, d0, ds0, p0, q0, hargs, rfl, rfl, h0, r0⟩ := trodAll_cons hA
  obtain ⟨rfl, rfl, rfl⟩ := trodAll_nil r0
  obtain rfl : args = #[v0] := by cases args; simp_all
  obtain ⟨rfl, rfl⟩ := trodVars_none hV
  have s0 : ∀ n ∈ DataW.weights Try.prog 5 d0, n ≤ reachBytes := fun n hn => of_decide_eq_true (List.all_eq_true.1 hsz n (DataW.weights_mem_each (j := 0) rfl rfl n hn))
  obtain ⟨x0, c0, e0⟩ := open_cell 8 (hval 0 5 v0 rfl rfl) h0 (.inr (.inl ⟨_, Try.underlying5⟩)) (by kernel_rfl : flatTy Try.prog 8 5 = some [.int .u8]) s0
  obtain ⟨a0, rfl, w0⟩ := conf_int c0
  have g0 := e0
  clear hA0 hval0
  simp only [List.append_nil] at hW'
  refine (Proc.law (postStraight_spec a0 (wf_u8 w0)) (vals := [v0]) rfl (fun g n f h => by cases h) ⟨g0, trivial⟩).mono fun e W' ⟨he, hg⟩ => ?_
  subst he
  exact ⟨_, rfl, _, _, _, [], _, [], hW', trodAll_mk1 (shut_bool Try.underlying4 _), (trodAll_cons_mk (Below.trod lies (by kernel_rfl) (of_decide_eq_true (by kernel_rfl)) h0 hg (fun x hx => by simpa using hW'.lt x (by simp [hx]))) trodAll_mk0), rfl, hg.frame _, fun h => by cases h⟩

theorem over : Rows.postStraightRow.holds Try.pinned (OpenSpec.ofChange Rows.postStraightSpec) :=
  OpenClaim.holds_of_wide 7 Try.f7 rfl rfl rfl rfl rfl rfl rfl ⟨rfl, rfl, rfl, rfl, rfl⟩ rfl rfl rfl rfl rfl (by kernel_rfl) Try.func7 (by kernel_rfl)
    (of_decide_eq_true (by kernel_rfl)) (by unfold Func.isWrapper; first | (rw [if_pos (by decide +kernel)]; kernel_rfl) | (rw [if_neg (by decide +kernel)]; exact ⟨rfl, rfl⟩))
    (fun os started H enc _ => lifted os started H enc)

/-- ████ THE STATEMENT ████ -/
theorem proved : Rows.PostStraightSaid :=
  over
end Go.Proofs.Ytniojnnbenkbpaa.postStraight
