/-
  Sx, part 31: data that read alike stand for one another.
-/
import Derived.Test.YtdgopbgckdnncaaSx30
set_option linter.unusedVariables false
set_option linter.unusedSimpArgs false
namespace Go.Sx
theorem veq0_d {d d' : D} (h : d = d') : VEq0 (.d d) (.d d') := by subst h; exact DEq.rfl' d

theorem act_put_same {a : Act} {t : Nat} {x : Value} (hx : a.tmps[t]? = some x) : a.put (some t) x = a := by
  cases a with
  | mk tmps defers =>
    simp only [Act.put, Act.mk.injEq, and_true]
    apply Array.ext
    · simp
    · intro i h1 h2
      by_cases hi : t = i
      · subst hi
        have := (Array.getElem?_eq_some_iff.1 hx).2
        simp [this]
      · rw [Array.getElem_setIfInBounds_ne _ hi]

/-- A slot's data, read as other data that read alike. -/
theorem Go.setD {C : Ctx} {s : St} {K : List Item} {Φ : Exit → St → Prop} (t : Nat) {d d' : D} (h : get s.L t = some (.d d)) (hq : DQ d d') (k : Go C K { s with L := put s.L t (.d d') } Φ) : Go C K s Φ := by
  rintro a w ⟨ρ, F, hs⟩
  obtain ⟨x, hx, hr⟩ := hs.slot t _ (get_mem h)
  have hlt : t < a.tmps.size := (Array.getElem?_eq_some_iff.1 hx).1
  have := hs.put (d := t) (v := .d d') (x := x) (by rw [← hs.size]; exact hlt) (hq.sound hr) rfl
  rw [act_put_same hx] at this
  exact k a w ⟨ρ, F, this⟩

/-- A slot with no slice, as data of none. -/
theorem Go.setNil {C : Ctx} {s : St} {K : List Item} {Φ : Exit → St → Prop} (t : Nat) (sz : Nat) (f : Nat → List D) (h : get s.L t = some .nils) (k : Go C K { s with L := put s.L t (.d (.sl sz 0 f)) } Φ) : Go C K s Φ := by
  rintro a w ⟨ρ, F, hs⟩
  obtain ⟨x, hx, hr⟩ := hs.slot t _ (get_mem h)
  obtain rfl : x = .slice none 0 0 := hr
  have hlt : t < a.tmps.size := (Array.getElem?_eq_some_iff.1 hx).1
  have := hs.put (d := t) (v := .d (.sl sz 0 f)) (x := .slice none 0 0) (by rw [← hs.size]; exact hlt) (.emp _ _ _ _) rfl
  rw [act_put_same hx] at this
  exact k a w ⟨ρ, F, this⟩
end Go.Sx
