/-
  Sx, part 28: contracts that the library's shelf gives; scopes without a jump.
-/
import Derived.Test.YtdgopbgckdnncaaSx27
import Derived.Below
import Derived.Scope
set_option linter.unusedVariables false
set_option linter.unusedSimpArgs false
namespace Go.Sx

theorem callable_of {P : Program} {f : FuncId} {fn : Func} (h : P.funcs[f]? = some fn) (hb : fn.body.isSome = true) (hn : (fn.name == "runtime.NumGoroutine") = false) : Callable P f := ⟨fn, h, hb, hn⟩

def vals0 : List V → Option (List Value)
  | [] => some []
  | v :: r => match valOf v, vals0 r with
    | some x, some xs => some (x :: xs)
    | _, _ => none

theorem vals0_sound {ρ : Nat → Value} {F : Nat → Prop} {w : World} : ∀ {us : List V} {xs ys : List Value}, vals0 us = some xs → All2 (R3 ρ F w) us ys → ys = xs
  | [], xs, ys, h, hr => by
    cases ys with
    | nil => simpa [vals0] using h
    | cons => exact hr.elim
  | u :: us, xs, ys, h, hr => by
    cases ys with
    | nil => exact hr.elim
    | cons y ys =>
      simp only [vals0] at h
      split at h
      · rename_i x0 xs0 e1 e2
        simp only [Option.some.injEq] at h
        subst h
        rw [valOf_sound e1 hr.1, vals0_sound e2 hr.2]
      · simp at h

/-- A contract of the shelf: plain arguments, a plain answer, at most new blocks. -/
theorem Pure.ofLib {P : Pg} {f : FuncId} {args : List V} {vals : List Value} {vs : Array Value} {r : V} {v : Value} (hc : Callable P.P f) (hfr : (freshAll args [] 0 && freshAll [r] [] 0) = true) (ha : vals0 args = some vals) (hvs : vs = vals.toArray) (hr : valOf r = some v)
    (h : ∀ (w : World) (F : Nat → Prop), EnvOK P.env F w → Calls P.P f vs w fun e w' => e = .returned v ∧ Go.RowKit.Below w.heap.size w w') : Pure P f args r [] := by
  subst hvs
  simp only [Bool.and_eq_true] at hfr
  refine ⟨hc, hfr.1, hfr.2, Nat.le_refl _, Nat.le_refl _, fun w F ρ ys hF hE hH hargs => ?_⟩
  obtain rfl := vals0_sound ha hargs
  refine (h w F hE).mono ?_
  rintro e w' ⟨rfl, hb⟩
  obtain ⟨b1, b2, b3, b4, b5⟩ := hb
  refine ⟨v, ρ, F, rfl, ⟨b1, b2, b3, b4, fun k hk _ => b5 k hk⟩, fun _ _ => rfl, fun _ hk => hk, fun k hk => Nat.lt_of_lt_of_le (hF k hk) b4, fun _ hk => .inl hk, valOf_mk hr, ⟨fun i c hi => by simp at hi, fun i j b hi => absurd hi (Nat.not_lt_zero _), fun i b hi => absurd hi (Nat.not_lt_zero _)⟩, fun i b hi => absurd hi (Nat.not_lt_zero _)⟩

def NoGoto (Φ : Exit → St → Prop) : Prop := ∀ l s, ¬ Φ (.goto l) s
theorem Ret.noGoto {g : Cfg} {rs : List ResultVar} {ids : List Nat} {r : V} {H' : List Ch} : NoGoto (Ret g rs ids r H') := fun c s h => by
  rcases h.1 with h | h <;> cases h
theorem den_noGoto {C : Ctx} {Q : Exit → Act → World → Prop} (hQ : ∀ l a w, ¬ Q (.goto l) a w) : ∀ (K : List Item) (l : Nat) (a : Act) (w : World), ¬ den C Q K (.goto l) a w
  | [], c, a, w, h => hQ c a w h
  | .code _ :: K, c, a, w, h => den_noGoto hQ K c a w h
  | .ops _ _ :: K, c, a, w, h => den_noGoto hQ K c a w h
  | .blk _ :: K, c, a, w, h => den_noGoto hQ K c a w h
  | .back _ :: K, c, a, w, h => den_noGoto hQ K c a w h

/-- A scope through which the run goes without a jump. -/
theorem Cx.scope {P : Pg} {g : Cfg} {C : Ctx} (x : Cx P g C) {s s' : St} {K K' : List Item} {Φ : Exit → St → Prop} {ob : List Prop} {c : Code} (h : run g 1000 K s [] = .code ob (.scope c) K' s') (ho : AllP ob) (hΦ : NoGoto Φ)
    (k : Go C (.code c :: K') s' Φ) : Go C K s Φ := by
  refine st x.ty x.n x.fix h ⟨ho, ?_⟩
  intro a w hs
  rw [den_code]
  refine wp_scope_straight (wp_mono (k a w hs) ?_)
  intro e a w hq
  cases e with
  | goto l => exact absurd hq (den_noGoto (fun l a w ⟨s, _, hh⟩ => hΦ l s hh) K' l a w)
  | _ => exact hq
end Go.Sx
