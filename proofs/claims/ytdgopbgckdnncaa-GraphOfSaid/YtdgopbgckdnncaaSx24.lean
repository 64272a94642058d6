/-
  Sx, part 24: from a contract to the walk that a law's statement wants.
-/
import Derived.Test.YtdgopbgckdnncaaSx23
import Derived.Below
import Derived.DataShut
set_option linter.unusedVariables false
set_option linter.unusedSimpArgs false
namespace Go.Sx

theorem Post.below {w w' : World} {F : Nat → Prop} {ρ : Nat → Value} {r : V} {H' : List Ch} {e : Ending} (h : Post w F ρ 0 [] r H' e w') : Go.RowKit.Below w.heap.size w w' := by
  obtain ⟨v, ρ', F', _, hk, _⟩ := h
  exact ⟨hk.os, hk.tape, hk.output, hk.size, fun k hlt => hk.block k hlt (fun ⟨i, hi, _⟩ => absurd hi (Nat.not_lt_zero _))⟩

/-- A LAW's WALK, by its contract: the arguments are data of blocks that lay there. -/
theorem Proc.law {P : Pg} {f : FuncId} {args : List V} {H' : List Ch} (h : Pure P f args (vb true) H') {w : World} {vals : List Value} {vs : Array Value} (hvs : vs = vals.toArray)
    (henv : EnvOK P.env (fun k => k < w.heap.size) w) (hargs : All2 (R3 (fun _ => .bool true) (fun k => k < w.heap.size) w) args vals) : Calls P.P f vs w fun e w' => e = .returned (.bool true) ∧ Go.RowKit.Below w.heap.size w w' := by
  subst hvs
  obtain ⟨_, _, _, _, _, hc⟩ := h
  refine (hc w (fun k => k < w.heap.size) (fun _ => .bool true) vals (fun k hk => hk) henv ⟨fun i c hc => by simp at hc, fun i j b hi => absurd hi (Nat.not_lt_zero _), fun i b hi => absurd hi (Nat.not_lt_zero _)⟩ hargs).mono ?_
  intro e w' hp
  refine ⟨?_, hp.below⟩
  obtain ⟨v, ρ', F', rfl, _, _, _, _, _, hr, _⟩ := hp
  have : v = .bool true := by
    cases (show RD F' w' (.bool true) v from hr); rfl
  rw [this]
/-- Of an integer that fits. -/
theorem wf_i64 {n : Int} (h : (Lit.int .i64 n).wf = true) : inI64 n := by
  simp only [Lit.wf, Bool.and_eq_true, decide_eq_true_eq, IntKind.min_i64, IntKind.max_i64] at h
  exact h
theorem wf_i32 {n : Int} (h : (Lit.int .i32 n).wf = true) : -2147483648 ≤ n ∧ n ≤ 2147483647 := by
  simp only [Lit.wf, Bool.and_eq_true, decide_eq_true_eq, IntKind.min_i32, IntKind.max_i32] at h
  exact h
theorem inI64_of_i32 {n : Int} (h : (Lit.int .i32 n).wf = true) : inI64 n := by
  have := wf_i32 h
  unfold inI64
  omega
end Go.Sx
