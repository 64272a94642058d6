/-
  FOR EVERY INPUT the law PostWider returns true, and its arguments read afterwards as before. No condition. The walk: a symbolic machine, proved sound over the model (the texts Sx1 on), goes through the code; the arguments are opened to its data by Sx29.
-/
import Derived.Test.YtniojnnbenkbpaaRows
import Derived.WalkKit
import Derived.ProofKit
import Derived.OpenShut
import Derived.ShutString
import Derived.SizedLaws
import Derived.Carry
import Derived.Test.YtniojnnbenkbpaaMC
import Derived.Test.YtniojnnbenkbpaaSxD
import Derived.Test.YtniojnnbenkbpaaSxE
import Derived.Below
namespace Go.Proofs.Ytniojnnbenkbpaa.postWider
open Go.ChangeShapes Go.WideShapes Go.ChangeAt Go.RowKit Go.Sx
set_option linter.unusedVariables false
theorem own : ownKnob Try.prog.godebug = none := by kernel_rfl
theorem lies : laidOutB Try.prog = true := by kernel_rfl

set_option maxRecDepth 100000 in
theorem lifted (os : Os) (started : os.Started) (H : Type) (enc : TypeId × Value → H) :
    ReturnsInHanded {} Try.checked os 8 .any (Rows.postWiderSpec.pre6 enc Try.prog Try.f8 Rows.postWiderRow.domain false) (Rows.postWiderSpec.post enc Try.prog Try.f8 false true false false) := by
  refine returnsInHanded_of_change_sized (C := Try.checked) own started (by kernel_rfl) Try.func8
    (ChangeSpec.witness6 (enc := enc) (C := Try.checked) false ⟨#[], #[.slice none 0 0, .int .i64 0, .int .i64 0], []⟩ 8 (by kernel_rfl) (by kernel_rfl) (by kernel_rfl) (by kernel_rfl)) ?_
  intro W base args ds gs before hval0 hW hcnd hsz _
  have hval : ∀ (j : Nat) t v, Try.f8.params[j]? = some t → args[j]? = some v → Value.okWide Try.prog W .any base t v := hval0
  have hW' := hW
  obtain ⟨p, q, hA0, hV, rfl, hfz, hnd⟩ := hW
  have hA : DataW.TrodAll enc Try.prog W 0 (fun _ => true) true Try.f8.params.toList args.toList ds p := hA0
  rw [Try.params8] at hA hval
  obtain ⟨v0, vs0, d0, ds0, p0, q0, hargs, rfl, rfl, h0, r0⟩ := trodAll_cons hA
  obtain ⟨v1, vs1, d1, ds1, p1, q1, rfl, rfl, rfl, h1, r1⟩ := trodAll_cons r0
  obtain ⟨v2, vs2, d2, ds2, p2, q2, rfl, rfl, rfl, h2, r2⟩ := trodAll_cons r1
  obtain ⟨rfl, rfl, rfl⟩ := trodAll_nil r2
  obtain rfl : args = #[v0, v1, v2] := by cases args; simp_all
  obtain ⟨rfl, rfl⟩ := trodVars_none hV
  have s0 : ∀ n ∈ DataW.weights Try.prog 22 d0, n ≤ reachBytes := fun n hn => of_decide_eq_true (List.all_eq_true.1 hsz n (DataW.weights_mem_each (j := 0) rfl rfl n hn))
  obtain ⟨x0, c0, e0⟩ := open_cell 8 (hval 0 22 v0 rfl rfl) h0 (.inr (.inr (.inr ⟨_, Try.underlying22⟩))) (by kernel_rfl : flatTy Try.prog 8 22 = some [.sl 24 [.sl 8 [.int .i64]]]) s0
  obtain ⟨a0, k0, w0, z0⟩ := conf_rows c0
  have g0 := k0.sound e0
  have s1 : ∀ n ∈ DataW.weights Try.prog 3 d1, n ≤ reachBytes := fun n hn => of_decide_eq_true (List.all_eq_true.1 hsz n (DataW.weights_mem_each (j := 1) rfl rfl n hn))
  obtain ⟨x1, c1, e1⟩ := open_cell 8 (hval 1 3 v1 rfl rfl) h1 (.inr (.inl ⟨_, Try.underlying3⟩)) (by kernel_rfl : flatTy Try.prog 8 3 = some [.int .i64]) s1
  obtain ⟨a1, rfl, w1⟩ := conf_int c1
  have g1 := e1
  have s2 : ∀ n ∈ DataW.weights Try.prog 3 d2, n ≤ reachBytes := fun n hn => of_decide_eq_true (List.all_eq_true.1 hsz n (DataW.weights_mem_each (j := 2) rfl rfl n hn))
  obtain ⟨x2, c2, e2⟩ := open_cell 8 (hval 2 3 v2 rfl rfl) h2 (.inr (.inl ⟨_, Try.underlying3⟩)) (by kernel_rfl : flatTy Try.prog 8 3 = some [.int .i64]) s2
  obtain ⟨a2, rfl, w2⟩ := conf_int c2
  have g2 := e2
  clear hA0 hval0
  simp only [List.append_nil] at hW'
  refine (Proc.law (postWider_spec a0 a1 a2 (fit_of w0 z0)) (vals := [v0, v1, v2]) rfl (fun g n f h => by cases h) ⟨g0, g1, g2, trivial⟩).mono fun e W' ⟨he, hg⟩ => ?_
  subst he
  exact ⟨_, rfl, _, _, _, [], _, [], hW', trodAll_mk1 (shut_bool Try.underlying4 _), (trodAll_cons_mk (Below.trod lies (by kernel_rfl) (of_decide_eq_true (by kernel_rfl)) h0 hg (fun x hx => by simpa using hW'.lt x (by simp [hx]))) (trodAll_cons_mk (Below.trod lies (by kernel_rfl) (of_decide_eq_true (by kernel_rfl)) h1 hg (fun x hx => by simpa using hW'.lt x (by simp [hx]))) (trodAll_cons_mk (Below.trod lies (by kernel_rfl) (of_decide_eq_true (by kernel_rfl)) h2 hg (fun x hx => by simpa using hW'.lt x (by simp [hx]))) trodAll_mk0))), rfl, hg.frame _, fun h => by cases h⟩

theorem over : Rows.postWiderRow.holds Try.pinned (OpenSpec.ofChange Rows.postWiderSpec) :=
  OpenClaim.holds_of_wide 8 Try.f8 rfl rfl rfl rfl rfl rfl rfl ⟨rfl, rfl, rfl, rfl, rfl⟩ rfl rfl rfl rfl rfl (by kernel_rfl) Try.func8 (by kernel_rfl)
    (of_decide_eq_true (by kernel_rfl)) (by unfold Func.isWrapper; first | (rw [if_pos (by decide +kernel)]; kernel_rfl) | (rw [if_neg (by decide +kernel)]; exact ⟨rfl, rfl⟩))
    (fun os started H enc _ => lifted os started H enc)

/-- ████ THE STATEMENT ████ -/
theorem proved : Rows.PostWiderSaid :=
  over
end Go.Proofs.Ytniojnnbenkbpaa.postWider
