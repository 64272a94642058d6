/-
  Sx, part 7: ALL READING OPERATIONS, in one theorem.
-/
import Derived.Test.YtdgopbgckdnncaaSx6
set_option linter.unusedVariables false
set_option linter.unusedSimpArgs false
namespace Go.Sx
section
variable {w : World} {ρ : Nat → Value} {F : Nat → Prop} {g : Cfg} {C : Ctx} {s : St} {a : Act} {q : List (Nat × Bool)}

theorem slot_bool (h : SatW C s a w ρ F) (hq : pcA a.tmps q) {t : Nat} {x : Bool} (he : ev s.L q (.tmp t) = some (.d (.bool x))) : pcA a.tmps (pathOf s.L t ++ [(t, x)]) ∧ a.eval (.tmp t) = .bool x := by
  have hr := (ev_sound h hq he).1
  have hv : a.eval (.tmp t) = .bool x := by
    generalize a.eval (.tmp t) = y at hr
    cases (show RD F w _ _ from hr); rfl
  refine ⟨?_, hv⟩
  simp only [ev] at he
  unfold pathOf
  cases hg : get s.L t with
  | none => rw [hg] at he; simp at he
  | some u =>
    rw [hg] at he
    obtain ⟨y, hy, hrs⟩ := h.slot t u (get_mem hg)
    have hyx : y = .bool x := by
      have : a.eval (.tmp t) = y := by simp [Act.eval, Array.getD_eq_getD_getElem?, hy]
      rw [← this]; exact hv
    have last : ∀ p, pcA a.tmps p → pcA a.tmps (p ++ [(t, x)]) := fun p hp e he => by
      rcases List.mem_append.1 he with he | he
      · exact hp e he
      · simp only [List.mem_singleton] at he
        subst he
        rw [hy, hyx]
    cases u with
    | g p v =>
      simp only [strip] at he
      cases hp : pre p q with
      | false => simp [hp] at he
      | true => exact last p (pre_sound hp hq)
    | _ => exact last [] (fun e he => by cases he)

theorem isTrue_eq {x : Operand} (h : isTrue x = true) : x = .const (.bool true) := by
  unfold isTrue at h
  split at h
  · subst h; rfl
  · simp at h
theorem isFalse_eq {x : Operand} (h : isFalse x = true) : x = .const (.bool false) := by
  unfold isFalse at h
  split at h
  · rename_i b; cases b <;> simp at h; rfl
  · simp at h

theorem pick_sound (h : SatW C s a w ρ F) (hq : pcA a.tmps q) {c x y : Operand} {v : V} {ob : List Prop} (he : pickE s.L q c x y = some (v, ob)) :
    ∃ r, R3 ρ F w v r ∧ v.all3 (fresh s.m) = true ∧ ∀ P w', (do pure (if ← asBool (a.eval c) then a.eval x else a.eval y) : Sem Value).run P w' = .ok r w' := by
  unfold pickE at he
  split at he
  · rename_i t
    split at he
    · rename_i b hb
      obtain ⟨hpath, hv⟩ := slot_bool h hq hb
      have run : ∀ P w', (do pure (if ← asBool (a.eval (.tmp t)) then a.eval x else a.eval y) : Sem Value).run P w' = .ok (if b then a.eval x else a.eval y) w' := fun P w' => by
        rw [hv]; rfl
      cases ht : isTrue x with
      | true =>
        rw [ht] at he
        simp only [cond_true] at he
        split at he
        · rename_i z hz
          obtain ⟨rfl, rfl⟩ := Prod.mk.inj (Option.some.inj he)
          have hx := isTrue_eq ht
          subst hx
          refine ⟨.bool (b || z), RD.bool _, rfl, fun P w' => ?_⟩
          rw [run]
          cases b with
          | true => rfl
          | false =>
            have hr := (ev_sound h hpath hz).1
            generalize a.eval y = u at hr
            cases (show RD F w _ _ from hr)
            simp
        · simp at he
      | false =>
        rw [ht] at he
        simp only [cond_false] at he
        cases hf : isFalse y with
        | true =>
          rw [hf] at he
          simp only [cond_true] at he
          split at he
          · rename_i z hz
            obtain ⟨rfl, rfl⟩ := Prod.mk.inj (Option.some.inj he)
            have hy := isFalse_eq hf
            subst hy
            refine ⟨.bool (b && z), RD.bool _, rfl, fun P w' => ?_⟩
            rw [run]
            cases b with
            | false => rfl
            | true =>
              have hr := (ev_sound h hpath hz).1
              generalize a.eval x = u at hr
              cases (show RD F w _ _ from hr)
              simp
          · simp at he
        | false => rw [hf] at he; simp at he
    · simp at he
  · simp at he

theorem max_sound {P : Program} {m : Nat} {x y v : V} {vx vy : Value} {ob : List Prop} (h : maxE x y = some (v, ob)) (hx : R3 ρ F w x vx) (hy : R3 ρ F w y vy) (ts : Array TypeId) (ty : TypeId) :
    ∃ r, R3 ρ F w v r ∧ v.all3 (fresh m) = true ∧ ∀ w', (Builtin.max_ ts ty #[vx, vy]).run P w' = .ok r w' := by
  unfold maxE at h
  split at h
  · obtain ⟨rfl, rfl⟩ := Prod.mk.inj (Option.some.inj h)
    cases (show RD F w _ _ from hx); cases (show RD F w _ _ from hy)
    exact ⟨_, RD.int _ _, rfl, fun w' => by simp [Builtin.max_, Builtin.max2]⟩
  · simp at h
theorem min_sound {P : Program} {m : Nat} {x y v : V} {vx vy : Value} {ob : List Prop} (h : minE x y = some (v, ob)) (hx : R3 ρ F w x vx) (hy : R3 ρ F w y vy) (ts : Array TypeId) (ty : TypeId) :
    ∃ r, R3 ρ F w v r ∧ v.all3 (fresh m) = true ∧ ∀ w', (Builtin.min_ ts ty #[vx, vy]).run P w' = .ok r w' := by
  unfold minE at h
  split at h
  · obtain ⟨rfl, rfl⟩ := Prod.mk.inj (Option.some.inj h)
    cases (show RD F w _ _ from hx); cases (show RD F w _ _ from hy)
    exact ⟨_, RD.int _ _, rfl, fun w' => by simp [Builtin.min_, Builtin.min2]⟩
  · simp at h

theorem evs_sound (h : SatW C s a w ρ F) (hq : pcA a.tmps q) : ∀ {xs : List Operand} {us : List V}, evs s.L q xs = some us → All2 (R3 ρ F w) us (xs.map a.eval) ∧ ∀ u ∈ us, u.all3 (fresh s.m) = true
  | [], us, he => by simp [evs] at he; subst he; exact ⟨trivial, by simp⟩
  | x :: xs, us, he => by
    simp only [evs] at he
    split at he
    · simp at he
    · rename_i v hv
      split at he
      · simp at he
      · rename_i us' hus
        simp only [Option.some.injEq] at he
        subst he
        obtain ⟨h1, h2⟩ := ev_sound h hq hv
        obtain ⟨h3, h4⟩ := evs_sound h hq hus
        exact ⟨⟨h1, h3⟩, by simp only [List.mem_cons, forall_eq_or_imp]; exact ⟨h2, h4⟩⟩

theorem leaves_all : ∀ {us : List V} {cs : List Value}, leaves us = true → All2 (R3 ρ F w) us cs → All2 (R0 ρ F w) us cs
  | [], [], _, _ => trivial
  | u :: us, c :: cs, h, ⟨h1, h2⟩ => by
    simp only [leaves, Bool.and_eq_true] at h
    refine ⟨?_, leaves_all h.2 h2⟩
    have hl := h.1
    cases u <;> first | exact h1 | simp [V.leaf] at hl
  | [], _ :: _, _, h => h.elim
  | _ :: _, [], _, h => h.elim

theorem leaves_fresh {m : Nat} : ∀ {us : List V}, leaves us = true → (∀ u ∈ us, u.all3 (fresh m) = true) → us.all (fresh m) = true
  | [], _, _ => rfl
  | u :: us, h, hf => by
    simp only [leaves, Bool.and_eq_true] at h
    simp only [List.all_cons, Bool.and_eq_true]
    refine ⟨?_, leaves_fresh h.2 fun u hu => hf u (by simp [hu])⟩
    have hl := h.1
    have h1 := hf u (by simp)
    cases u <;> first | exact h1 | simp [V.leaf] at hl

theorem evo_sound (h : SatW C s a w ρ F) (hq : pcA a.tmps q) {x : Option Operand} {u : Option V} (he : evo s.L q x = some u) : optR ρ F w u (x.map a.eval) := by
  cases x with
  | none => simp [evo] at he; subst he; trivial
  | some x =>
    simp only [evo] at he
    split at he
    · simp at he
    · rename_i v hv
      simp only [Option.some.injEq] at he
      subst he
      exact (ev_sound h hq hv).1

set_option maxHeartbeats 1000000 in
/-- **AN OPERATION THAT ONLY READS YIELDS WHAT `rdE` SAYS, whatever has been added to the world.** -/
theorem rd_sound (hg : TysOK C.P g.tys) (h : SatW C s a w ρ F) (hq : pcA a.tmps q) {ck : Bool} {o : Oper} {v : V} {ob : List Prop} (he : rdE g ck s q o.op = some (v, ob)) (hob : AllP ob) :
    ∃ x, R3 ρ F w v x ∧ v.all3 (fresh s.m) = true ∧ ∀ w', Agree w w' → (execOp a.eval o).run C.P w' = .ok (.value x) w' := by
  have lift : ∀ {m : Sem Value}, (execOp a.eval o = do pure (.value (← m))) → (∃ x, R3 ρ F w v x ∧ v.all3 (fresh s.m) = true ∧ ∀ w', Agree w w' → m.run C.P w' = .ok x w') →
      ∃ x, R3 ρ F w v x ∧ v.all3 (fresh s.m) = true ∧ ∀ w', Agree w w' → (execOp a.eval o).run C.P w' = .ok (.value x) w' := by
    rintro m hm ⟨x, h1, h2, h3⟩
    exact ⟨x, h1, h2, fun w' hw' => by rw [hm]; exact run_v (h3 w' hw')⟩
  have drop : ∀ {m : Sem Value}, (∃ x, R3 ρ F w v x ∧ v.all3 (fresh s.m) = true ∧ ∀ w', m.run C.P w' = .ok x w') → ∃ x, R3 ρ F w v x ∧ v.all3 (fresh s.m) = true ∧ ∀ w', Agree w w' → m.run C.P w' = .ok x w' :=
    fun ⟨x, h1, h2, h3⟩ => ⟨x, h1, h2, fun w' _ => h3 w'⟩
  obtain ⟨dst, op, ty, pos, after, guard⟩ := o
  dsimp only at he
  unfold rdE at he
  split at he
  · split at he
    · rename_i u hu
      obtain ⟨rfl, rfl⟩ := Prod.mk.inj (Option.some.inj he)
      obtain ⟨h1, h2⟩ := ev_sound h hq hu
      exact ⟨_, h1, h2, fun w' _ => rfl⟩
    · simp at he
  · split at he
    · rename_i u hu
      obtain ⟨rfl, rfl⟩ := Prod.mk.inj (Option.some.inj he)
      obtain ⟨h1, h2⟩ := ev_sound h hq hu
      exact ⟨_, h1, h2, fun w' _ => rfl⟩
    · simp at he
  · rename_i c x y
    obtain ⟨r, h1, h2, h3⟩ := pick_sound h hq he
    refine ⟨r, h1, h2, fun w' _ => ?_⟩
    have := h3 C.P w'
    simp only [execOp, Sem.run_bind] at this ⊢
    revert this
    cases (asBool (a.eval c)).run C.P w' with
    | ok b w2 =>
      simp only [Result.andThen, Sem.run_pure]
      intro e
      simp only [Result.ok.injEq] at e
      rw [e.1, e.2]
    | halt hh w2 => intro e; simp [Result.andThen] at e
  · rename_i op t x y _
    split at he
    · rename_i u u2 hu hu2
      exact lift rfl (drop (bin_sound hg he hob (ev_sound h hq hu).1 (ev_sound h hq hu2).1))
    · simp at he
  · split at he
    · rename_i u hu
      exact lift rfl (drop (un_sound he hob (ev_sound h hq hu).1))
    · simp at he
  · split at he
    · rename_i u hu
      exact lift rfl (conv_sound hg h he hob (ev_sound h hq hu).1)
    · simp at he
  · split at he
    · rename_i u u2 hu hu2
      exact lift rfl (drop (idx_sound hg he hob (ev_sound h hq hu).1 (ev_sound h hq hu2).1))
    · simp at he
  · split at he
    · rename_i u u2 hu hu2
      exact lift rfl (drop (ia_sound hg h he hob (ev_sound h hq hu).1 (ev_sound h hq hu).2 (ev_sound h hq hu2).1))
    · simp at he
  · split at he
    · rename_i u hu
      exact lift rfl (drop (fa_sound hg he (ev_sound h hq hu).1 (ev_sound h hq hu).2))
    · simp at he
  · split at he
    · rename_i u hu
      exact lift rfl (drop (fld_sound hg he (ev_sound h hq hu).1 (ev_sound h hq hu).2))
    · simp at he
  · split at he
    · rename_i u hu
      exact lift rfl (ld_sound hg h he hob (ev_sound h hq hu).1)
    · simp at he
  · split at he
    · rename_i u l hh hu hl hhi
      exact lift rfl (drop (slc_sound hg he hob (ev_sound h hq hu).1 (evo_sound h hq hl) (evo_sound h hq hhi)))
    · simp at he
  · rename_i t x lo hi mx
    split at he
    · rename_i u l hh m hu hl hhi hm
      exact lift rfl (drop (slc3_sound hg he hob (ev_sound h hq hu).1 (evo_sound h hq hl) (evo_sound h hq hhi) (ev_sound h hq hm).1))
    · simp at he
  · split at he
    · rename_i i us hu
      split at he
      · rename_i v' hv'
        obtain ⟨rfl, rfl⟩ := Prod.mk.inj (Option.some.inj he)
        obtain ⟨h1, h2⟩ := ev_sound h hq hu
        obtain ⟨cs, hcs, hall⟩ := (show R3 ρ F w (.tup us) _ from h1)
        obtain ⟨c, hc1, hc2⟩ := hall.get hv'
        refine lift rfl ⟨c, R3_of hc2, ?_, fun w' _ => ?_⟩
        · simp only [V.all3, List.all_eq_true] at h2
          have := h2 _ (List.mem_of_getElem? hv')
          cases v' <;> first | exact this | exact (show False from hc2).elim
        · rw [hcs]
          simp [Instr.extract, hc1]
      · simp at he
    · simp at he
  · rename_i f first caps
    split at he
    · rename_i us hfirst hu
      cases hl : leaves us with
      | false => rw [hl] at he; simp at he
      | true =>
        rw [hl] at he
        simp only [cond_true] at he
        obtain ⟨rfl, rfl⟩ := Prod.mk.inj (Option.some.inj he)
        obtain ⟨h1, h2⟩ := evs_sound h hq hu
        have hf0 : first = #[] := by cases first; simp at hfirst; rw [hfirst]
        subst hf0
        have e : caps.map a.eval = (caps.toList.map a.eval).toArray := by cases caps; simp
        refine lift rfl ⟨.func (.func f) #[] (caps.map a.eval), ⟨caps.toList.map a.eval, by rw [e], leaves_all hl h1⟩, leaves_fresh hl h2, fun w' _ => by simp [Instr.makeFunc]⟩
    · simp at he
  · rename_i c
    obtain ⟨callee, args, argTypes⟩ := c
    dsimp only at he
    split at he
    · split at he
      · rename_i u t hu ht
        obtain ⟨h1, h2⟩ := evs_sound h hq hu
        obtain ⟨args⟩ := args
        obtain ⟨argTypes⟩ := argTypes
        simp only at hu ht h1
        subst ht
        match args, h1 with
        | [x], h1 =>
          obtain ⟨r, g1, g2, g3⟩ := len_sound (m := s.m) (ty := ty) hg h he h1.1
          exact ⟨r, g1, g2, fun w' _ => by simp [execOp, resolve, invoke, builtin, g3]⟩
        | [], h1 => exact h1.elim
        | _ :: _ :: _, h1 => exact h1.2.elim
      · rename_i u u2 hu
        obtain ⟨h1, h2⟩ := evs_sound h hq hu
        obtain ⟨args⟩ := args
        simp only at hu h1
        match args, h1 with
        | [x, y], h1 =>
          obtain ⟨r, g1, g2, g3⟩ := max_sound (P := C.P) (m := s.m) he h1.1 h1.2.1 argTypes ty
          exact ⟨r, g1, g2, fun w' _ => by simp [execOp, resolve, invoke, builtin, g3]⟩
        | [], h1 => exact h1.elim
        | [_], h1 => exact h1.2.elim
        | _ :: _ :: _ :: _, h1 => exact h1.2.2.elim
      · rename_i u u2 hu
        obtain ⟨h1, h2⟩ := evs_sound h hq hu
        obtain ⟨args⟩ := args
        simp only at hu h1
        match args, h1 with
        | [x, y], h1 =>
          obtain ⟨r, g1, g2, g3⟩ := min_sound (P := C.P) (m := s.m) he h1.1 h1.2.1 argTypes ty
          exact ⟨r, g1, g2, fun w' _ => by simp [execOp, resolve, invoke, builtin, g3]⟩
        | [], h1 => exact h1.elim
        | [_], h1 => exact h1.2.elim
        | _ :: _ :: _ :: _, h1 => exact h1.2.2.elim
      · simp at he
    · simp at he
  · simp at he
end
end Go.Sx
