/-
  Sx, part 5: the rest of the reading operations, and all of them together.
-/
import Derived.Test.YtdgopbgckdnncaaSx4
set_option linter.unusedVariables false
set_option linter.unusedSimpArgs false
namespace Go.Sx
section
variable {P : Program} {w : World} {ρ : Nat → Value} {F : Nat → Prop} {g : Cfg} {m : Nat}

theorem ia_sound (hg : TysOK P g.tys) {C : Ctx} {s : St} {a : Act} (hs : SatW C s a w ρ F) {t : TypeId} {x i v : V} {vx vi : Value} {ob : List Prop} (h : iaE g s.H t x i = some (v, ob)) (hob : AllP ob) (hx : R3 ρ F w x vx) (hxf : x.all3 (fresh s.m) = true) (hi : R3 ρ F w i vi) :
    ∃ r, R3 ρ F w v r ∧ v.all3 (fresh s.m) = true ∧ ∀ w', (Instr.indexAt t vx vi).run P w' = .ok r w' := by
  unfold iaE at h
  split at h
  · rename_i ti kk k hl
    have hk := (lk_ok hg hl).und
    cases (show RD F w _ _ from hi)
    split at h
    · -- immutable slice
      rename_i e sz n f hkk
      rw [hkk] at hk
      cases hz : isz g e sz with
      | false => rw [hz] at h; simp at h
      | true =>
        rw [hz] at h
        simp only [cond_true] at h
        obtain ⟨rfl, rfl⟩ := Prod.mk.inj (Option.some.inj h)
        obtain ⟨h0, h1⟩ := hob
        cases (show RD F w _ _ from hx) with
        | emp => omega
        | sl _ _ _ b o cap cs hF hn hc hlen hr =>
          refine ⟨.pointer (some ⟨b, o + k.toNat * sz, none⟩), ⟨b, o + k.toNat * sz, fun j => cs k.toNat j, rfl, hF, fun j d hd => ⟨?_, hr _ j d (by omega) hd⟩⟩, rfl, fun w' => ?_⟩
          · rw [Nat.add_assoc]
            refine hc k.toNat j (by omega) ?_
            have := (List.getElem?_eq_some_iff.1 hd).1
            rw [hlen k.toNat (by omega)] at this
            exact this
          · simp [Instr.indexAt, asIntOf, run_und (show P.underlying t = some (.slice e) from hk), h0, h1, isz_sound hg hz, Addr.add_lit]
    · -- owned
      rename_i e id hkk
      rw [hkk] at hk
      split at h
      · rename_i e' sz n f hgH
        cases hz : isz g e sz with
        | false => rw [hz] at h; simp at h
        | true =>
          rw [hz] at h
          simp only [cond_true] at h
          obtain ⟨rfl, rfl⟩ := Prod.mk.inj (Option.some.inj h)
          obtain ⟨h0, h1⟩ := hob
          obtain ⟨xs, ho, _⟩ := hs.ch id _ (get_mem hgH)
          have hv : vx = ρ id := (show R0 ρ F w (.own id) vx from hx).1
          rcases ho.2 with ⟨_, h2⟩ | ⟨b, cap, cur, h3, _⟩
          · omega
          · rw [h3] at hv
            subst hv
            exact ⟨.pointer (some ⟨b, k.toNat * sz + 0, none⟩), ⟨b, by rw [h3]; rfl, rfl⟩, hxf, fun w' => by simp [Instr.indexAt, asIntOf, run_und (show P.underlying t = some (.slice e) from hk), h0, h1, isz_sound hg hz, Addr.add_lit]⟩
      · rename_i hgH
        cases hz : isz g e 1 with
        | false => rw [hz] at h; simp at h
        | true =>
          rw [hz] at h
          simp only [cond_true] at h
          obtain ⟨rfl, rfl⟩ := Prod.mk.inj (Option.some.inj h)
          obtain ⟨h0, h1⟩ := hob
          obtain ⟨xs, ho, _⟩ := hs.ch id _ (get_mem hgH)
          have hv : vx = ρ id := (show R0 ρ F w (.own id) vx from hx).1
          rcases ho.2 with ⟨_, h2⟩ | ⟨b, cap, cur, h3, _⟩
          · omega
          · rw [h3] at hv
            subst hv
            exact ⟨.pointer (some ⟨b, k.toNat * 1 + 0, none⟩), ⟨b, by rw [h3]; rfl, rfl⟩, hxf, fun w' => by simp [Instr.indexAt, asIntOf, run_und (show P.underlying t = some (.slice e) from hk), h0, h1, isz_sound hg hz, Addr.add_lit]⟩
      · simp at h
    · -- array
      rename_i n e id off hkk
      rw [hkk] at hk
      split at h
      · rename_i sz n' f hgH
        cases hz : (isz g e sz && Nat.beq n n' && Nat.beq off 0) with
        | false => rw [hz] at h; simp at h
        | true =>
          rw [hz] at h
          simp only [cond_true] at h
          simp only [Bool.and_eq_true] at hz
          obtain ⟨⟨hz, hn⟩, hoff⟩ := hz
          have hn := Nat.eq_of_beq_eq_true hn
          have hoff := Nat.eq_of_beq_eq_true hoff
          subst hn hoff
          obtain ⟨rfl, rfl⟩ := Prod.mk.inj (Option.some.inj h)
          obtain ⟨h0, h1⟩ := hob
          obtain ⟨b, hb, hp⟩ := (show R0 ρ F w (.ptr id 0) vx from hx)
          subst hp
          exact ⟨.pointer (some ⟨b, k.toNat * sz + 0, none⟩), ⟨b, by rw [hb]; rfl, rfl⟩, hxf, fun w' => by simp [Instr.indexAt, Instr.sureAddr, asIntOf, run_und (show P.underlying t = some (.array n e) from hk), h0, h1, isz_sound hg hz, Addr.add_lit]⟩
      · simp at h
    · simp at h
  · simp at h

theorem field_at {fields : Array Field} {fs : List (Nat × TypeId)} (h : fields.toList.map (fun f => (f.offset, f.type)) = fs) {i off : Nat} {ty : TypeId} (hi : fs[i]? = some (off, ty)) : ∃ f, fields[i]? = some f ∧ f.offset = off ∧ f.type = ty := by
  subst h
  rw [List.getElem?_map, Option.map_eq_some_iff] at hi
  obtain ⟨f, h1, h2⟩ := hi
  simp only [Prod.mk.injEq] at h2
  exact ⟨f, by simpa using h1, h2.1, h2.2⟩

theorem fa_sound (hg : TysOK P g.tys) {t : TypeId} {x v : V} {vx : Value} {fld : Nat} {ob : List Prop} (h : faE g t x fld = some (v, ob)) (hx : R3 ρ F w x vx) (hxf : x.all3 (fresh m) = true) :
    ∃ r, R3 ρ F w v r ∧ v.all3 (fresh m) = true ∧ ∀ w', (Instr.fieldAt t vx fld).run P w' = .ok r w' := by
  unfold faE at h
  split at h
  · rename_i ti hl
    have hk := (lk_ok hg hl).und
    split at h
    · rename_i fs hkk
      rw [hkk] at hk
      obtain ⟨fields, hu, hfs⟩ := hk
      split at h
      · rename_i off ty hf
        obtain ⟨f, hf1, hf2, hf3⟩ := field_at hfs hf
        cases hz : isz g ty 0 with
        | true => rw [hz] at h; simp at h
        | false =>
          rw [hz] at h
          simp only [cond_false] at h
          split at h
          · simp at h
          · rename_i tf hlt
            have hsz : tf.size ≠ 0 := by
              intro e
              simp [isz, hlt, e] at hz
            have hrun : ∀ (b o : Nat) w', (Instr.fieldAt t (.pointer (some ⟨b, o, none⟩)) fld).run P w' = .ok (.pointer (some ⟨b, o + off, none⟩)) w' := by
              intro b o w'
              have hs2 := run_sizeOf (P := P) (lk_ok hg hlt) w'
              simp [Instr.fieldAt, run_und hu, hf1, Instr.sureAddr, fieldPlace, hf2, hf3, hs2, hsz, Addr.add_lit]
            split at h
            · rename_i id o
              obtain ⟨rfl, rfl⟩ := Prod.mk.inj (Option.some.inj h)
              obtain ⟨b, hb, hp⟩ := (show R0 ρ F w (.ptr id o) vx from hx)
              subst hp
              exact ⟨_, ⟨b, hb, rfl⟩, hxf, hrun b o⟩
            · rename_i id sz i o
              obtain ⟨rfl, rfl⟩ := Prod.mk.inj (Option.some.inj h)
              obtain ⟨b, hb, hp⟩ := (show R0 ρ F w (.vptr id sz i o) vx from hx)
              subst hp
              exact ⟨_, ⟨b, hb, by rw [← Nat.add_assoc]⟩, hxf, hrun b _⟩
            · rename_i ds
              obtain ⟨rfl, rfl⟩ := Prod.mk.inj (Option.some.inj h)
              obtain ⟨b, o, cs, hp, hF, hc⟩ := (show R0 ρ F w (.eptr ds) vx from hx)
              subst hp
              refine ⟨_, ⟨b, o + off, fun j => cs (off + j), rfl, hF, fun j d hd => ?_⟩, rfl, hrun b o⟩
              rw [List.getElem?_drop] at hd
              rw [Nat.add_assoc]
              exact hc _ _ hd
            · simp at h
      · simp at h
    · simp at h
  · simp at h

theorem asV_val {ti : TI} {t : TypeId} (hti : ti.OK P t) {us : List V} {v : V} (h : asV ti us = some v) {cs : List Value} {off : Nat} (hr : All2 (R1 ρ F w) us (cs.drop off)) (hf : us.all (V.all1 (fresh m)) = true) :
    ∃ r, R3 ρ F w v r ∧ v.all3 (fresh m) = true ∧ ∀ w', (part t cs.toArray off).run P w' = .ok r w' := by
  unfold asV at h
  cases hk : isAggK ti.kind with
  | true =>
    rw [hk] at h
    simp only [cond_true] at h
    cases hn : Nat.beq (us.take ti.size).length ti.size with
    | false => rw [hn] at h; simp at h
    | true =>
      rw [hn] at h
      simp only [cond_true, Option.some.injEq] at h
      subst h
      refine ⟨.agg ((cs.drop off).take ti.size).toArray, ⟨_, rfl, hr.take _⟩, ?_, fun w' => ?_⟩
      · simp only [V.all3, V.all2, List.all_eq_true] at *
        exact fun x hx => hf x (List.mem_of_mem_take hx)
      · simp only [part, Sem.run_bind, run_isAgg hti, Result.andThen, hk, if_true, run_sizeOf hti, Sem.run_pure]
        congr 2
        rw [List.extract_toArray]
        congr 1
        simp [List.extract_eq_take_drop]
  | false =>
    rw [hk] at h
    simp only [cond_false] at h
    cases us with
    | nil => simp at h
    | cons u us =>
      cases hcs : cs.drop off with
      | nil => rw [hcs] at hr; exact hr.elim
      | cons c rest =>
        rw [hcs] at hr
        simp only [Option.some.injEq] at h
        subst h
        have hu : R3 ρ F w u c := R3_of (R2_of hr.1)
        refine ⟨c, hu, ?_, fun w' => ?_⟩
        · simp only [List.all_cons, Bool.and_eq_true] at hf
          have h1 := hf.1
          have h0 := hr.1
          cases u <;> first | exact h1 | exact (show False from h0).elim
        · have : cs[off]? = some c := by
            have h2 : (cs.drop off)[0]? = some c := by rw [hcs]; rfl
            simpa using h2
          simp [part, run_isAgg hti, hk, this]

theorem fld_sound (hg : TysOK P g.tys) {t : TypeId} {x v : V} {vx : Value} {fld : Nat} {ob : List Prop} (h : fldE g t x fld = some (v, ob)) (hx : R3 ρ F w x vx) (hxf : x.all3 (fresh m) = true) :
    ∃ r, R3 ρ F w v r ∧ v.all3 (fresh m) = true ∧ ∀ w', (Instr.field t vx fld).run P w' = .ok r w' := by
  unfold fldE at h
  split at h
  · rename_i ti us hl
    have hk := (lk_ok hg hl).und
    split at h
    · rename_i fs hkk
      rw [hkk] at hk
      obtain ⟨fields, hu, hfs⟩ := hk
      split at h
      · rename_i off ty hf
        obtain ⟨f, hf1, hf2, hf3⟩ := field_at hfs hf
        split at h
        · rename_i ty' hlt
          split at h
          · rename_i v' hv
            obtain ⟨rfl, rfl⟩ := Prod.mk.inj (Option.some.inj h)
            obtain ⟨cs, rfl, hall⟩ := (show R2 ρ F w (.agg us) vx from hx)
            obtain ⟨r, h1, h2, h3⟩ := asV_val (m := m) (lk_ok hg hlt) hv (hall.drop off) (by
              simp only [V.all3, V.all2, List.all_eq_true] at hxf ⊢
              exact fun y hy => hxf y (List.mem_of_mem_drop hy))
            exact ⟨r, h1, h2, fun w' => by simp [Instr.field, run_und hu, hf1, asAgg, hf2, hf3, h3]⟩
          · simp at h
        · simp at h
      · simp at h
    · simp at h
  · simp at h
end
end Go.Sx
