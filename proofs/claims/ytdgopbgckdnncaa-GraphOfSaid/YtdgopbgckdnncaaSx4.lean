/-
  Sx, part 4: why the operations of part 3 yield what they yield.
-/
import Derived.Test.YtdgopbgckdnncaaSx3
set_option linter.unusedVariables false
set_option linter.unusedSimpArgs false
namespace Go.Sx
section
variable {P : Program} {w : World} {ρ : Nat → Value} {F : Nat → Prop} {g : Cfg} {m : Nat}

abbrev Agree (w w' : World) : Prop := ∀ k, k < w.heap.size → w'.heap[k]? = w.heap[k]?

theorem cell_agree {w w' : World} (h : Agree w w') {a : Addr} {v : Value} (hc : w.cell? a = some v) : w'.cell? a = some v :=
  (World.cell?_of_block (w := w) (h a.block (World.block_lt_of_cell? w a hc))).trans hc

theorem und_some {t : TypeId} {ti : TI} (h : ti.OK P t) : ∃ d, P.underlying t = some d := by
  have hk := h.und
  cases hh : ti.kind <;> rw [hh] at hk
  case struct fs => obtain ⟨f, h1, _⟩ := hk; exact ⟨_, h1⟩
  case other => obtain ⟨d, h1, _⟩ := hk; exact ⟨_, h1⟩
  all_goals exact ⟨_, hk⟩

theorem run_isAgg {t : TypeId} {ti : TI} (h : ti.OK P t) (w : World) : (isAgg t).run P w = .ok (isAggK ti.kind) w := by
  have hk := h.und
  unfold isAgg
  cases hh : ti.kind <;> rw [hh] at hk
  case struct fs => obtain ⟨f, h1, _⟩ := hk; simp only [Sem.run_bind, run_und h1, Result.andThen]; rfl
  case other =>
    obtain ⟨d, h1, h2⟩ := hk
    simp only [Sem.run_bind, run_und h1, Result.andThen]
    cases d <;> first | rfl | exact h2.elim
  all_goals (simp only [Sem.run_bind, run_und hk, Result.andThen]; rfl)

theorem run_sizeOf {t : TypeId} {ti : TI} (h : ti.OK P t) (w : World) : (sizeOf t).run P w = .ok ti.size w := by
  obtain ⟨i, z, h1, h2, _⟩ := h.info
  simp [sizeOf, typeInfo, h1, h2]

theorem isz_sound (hg : TysOK P g.tys) {e : TypeId} {sz : Nat} (h : isz g e sz = true) (w : World) : (sizeOf e).run P w = .ok sz w := by
  unfold isz at h
  cases hl : lk g e with
  | none => rw [hl] at h; simp at h
  | some te =>
    rw [hl] at h
    have := Nat.eq_of_beq_eq_true h
    rw [run_sizeOf (lk_ok hg hl), this]

theorem un_sound {ck : Bool} {op : UnOp} {u v : V} {x : Value} {ob : List Prop} (h : unE ck op u = some (v, ob)) (hob : AllP ob) (hx : R3 ρ F w u x) :
    ∃ r, R3 ρ F w v r ∧ v.all3 (fresh m) = true ∧ ∀ w', (Op.unary op x).run P w' = .ok r w' := by
  unfold unE at h
  split at h
  · cases (show RD F w _ _ from hx)
    split at h
    · obtain ⟨rfl, rfl⟩ := Prod.mk.inj (Option.some.inj h)
      exact ⟨_, RD.bool _, rfl, fun w' => rfl⟩
    · simp at h
  · cases (show RD F w _ _ from hx)
    rename_i k n
    split at h
    · obtain ⟨rfl, rfl⟩ : _ ∧ _ := ⟨congrArg Prod.fst (Option.some.inj h), congrArg Prod.snd (Option.some.inj h)⟩
      refine ⟨.int k (k.wrap (0 - n)), ?_, ?_, fun w' => by simp [Op.unary, Op.intArith]⟩
      · rw [num_sound hob]; exact RD.int _ _
      · rw [num_sound hob]; rfl
    · obtain ⟨rfl, rfl⟩ := Prod.mk.inj (Option.some.inj h)
      exact ⟨_, RD.int _ _, rfl, fun w' => by simp [Op.unary, Op.intBits, bitI]⟩
    · simp at h
  · simp at h

theorem idx_sound (hg : TysOK P g.tys) {t : TypeId} {x i v : V} {vx vi : Value} {ob : List Prop} (h : idxE g t x i = some (v, ob)) (hob : AllP ob) (hx : R3 ρ F w x vx) (hi : R3 ρ F w i vi) :
    ∃ r, R3 ρ F w v r ∧ v.all3 (fresh m) = true ∧ ∀ w', (Instr.index t vx vi).run P w' = .ok r w' := by
  unfold idxE at h
  split at h
  · rename_i ti s k n hl
    cases (show RD F w _ _ from hx); cases (show RD F w _ _ from hi)
    split at h
    · rename_i hk
      have hu : P.underlying t = some .string := by have := (lk_ok hg hl).und; rw [hk] at this; exact this
      obtain ⟨rfl, rfl⟩ := Prod.mk.inj (Option.some.inj h)
      obtain ⟨h0, h1⟩ := hob
      refine ⟨_, RD.int _ _, rfl, fun w' => ?_⟩
      have hlt : n.toNat < s.size := by omega
      have hlt' : n.toNat < s.data.toList.length := by simpa using hlt
      simp only [Instr.index, asIntOf, Sem.run_bind, run_und hu, Result.andThen, Sem.run_pure, h0, if_true]
      have e : s[n.toNat]? = some (s[n.toNat]) := getElem?_pos s n.toNat hlt
      rw [e]
      have e2 : s.data.toList.getD n.toNat 0 = s[n.toNat] := by
        rw [List.getD_eq_getElem?_getD, List.getElem?_eq_getElem hlt']; rfl
      simp only [sb, e2]
      rfl
    · simp at h
  · simp at h

theorem len_sound (hg : TysOK P g.tys) {C : Ctx} {s : St} {a : Act} (hs : SatW C s a w ρ F) {t : TypeId} {ty : TypeId} {x v : V} {vx : Value} {ob : List Prop} (h : lenE g s.H t x = some (v, ob)) (hx : R3 ρ F w x vx) :
    ∃ r, R3 ρ F w v r ∧ v.all3 (fresh m) = true ∧ ∀ w', (Builtin.len_ #[t] ty #[vx]).run P w' = .ok r w' := by
  have slc : ∀ {e a n c}, P.underlying t = some (.slice e) → vx = .slice a n c → ∃ r, R3 ρ F w (vi (n : Int)) r ∧ (vi (n : Int)).all3 (fresh m) = true ∧ ∀ w', (Builtin.len_ #[t] ty #[vx]).run P w' = .ok r w' := by
    intro e a n c hu hv
    subst hv
    exact ⟨_, RD.int _ _, rfl, fun w' => by simp [Builtin.len_, run_und hu, goInt]⟩
  unfold lenE at h
  split at h
  · simp at h
  · rename_i ti hl
    have hk := (lk_ok hg hl).und
    split at h
    · rename_i hkk
      rw [hkk] at hk
      cases (show RD F w _ _ from hx)
      obtain ⟨rfl, rfl⟩ := Prod.mk.inj (Option.some.inj h)
      exact ⟨_, RD.int _ _, rfl, fun w' => by simp [Builtin.len_, run_und (show P.underlying t = some .string from hk), goInt]⟩
    · rename_i hkk
      rw [hkk] at hk
      obtain ⟨rfl, rfl⟩ := Prod.mk.inj (Option.some.inj h)
      exact slc hk (show vx = _ from hx)
    · rename_i e hkk _
      rw [hkk] at hk
      split at h
      · rename_i sz n f hp
        obtain ⟨rfl, rfl⟩ := Prod.mk.inj (Option.some.inj h)
        unfold parts at hp
        split at hp
        · simp only [Option.some.injEq, Prod.mk.injEq] at hp
          obtain ⟨rfl, rfl, rfl⟩ := hp
          cases (show RD F w _ _ from hx)
          · exact slc hk rfl
          · exact slc hk rfl
        · rename_i id _
          split at hp
          · rename_i e' sz' n' f' hgH
            simp only [Option.some.injEq, Prod.mk.injEq] at hp
            obtain ⟨rfl, rfl, rfl⟩ := hp
            obtain ⟨xs, ho, _⟩ := hs.ch id _ (get_mem hgH)
            have hv : vx = ρ id := (show R0 ρ F w (.own id) vx from hx).1
            rcases ho.2 with ⟨h1, h2⟩ | ⟨b, cap, cur, h1, _⟩
            · subst h2; exact slc hk (hv.trans h1)
            · exact slc hk (hv.trans h1)
          · simp at hp
        · simp at hp
      · split at h
        · rename_i n hp
          obtain ⟨rfl, rfl⟩ := Prod.mk.inj (Option.some.inj h)
          unfold rowsN at hp
          split at hp
          · rename_i id _ _
            split at hp
            · rename_i hgH
              simp only [Option.some.injEq] at hp
              subst hp
              obtain ⟨xs, ho, _⟩ := hs.ch id _ (get_mem hgH)
              have hv : vx = ρ id := (show R0 ρ F w (.own id) vx from hx).1
              rcases ho.2 with ⟨h1, h2⟩ | ⟨b, cap, cur, h1, _⟩
              · subst h2; exact slc hk (hv.trans h1)
              · exact slc hk (hv.trans h1)
            · simp at hp
          · simp at hp
        · simp at h
    · rename_i n e hkk
      rw [hkk] at hk
      obtain ⟨rfl, rfl⟩ := Prod.mk.inj (Option.some.inj h)
      exact ⟨_, RD.int _ _, rfl, fun w' => by simp [Builtin.len_, run_und (show P.underlying t = some (.array n e) from hk), goInt]⟩
    · simp at h

theorem all_d (p : V → Bool) (hp : ∀ d, p (.d d) = true) : ∀ us : List D, (us.map V.d).all (V.all1 p) = true := by
  intro us; simp [V.all1, hp]

theorem asV_sound {ti : TI} {t : TypeId} (hti : ti.OK P t) {us : List V} {v : V} (h : asV ti us = some v) {cs : List Value} (hr : All2 (R1 ρ F w) us cs) (hf : us.all (V.all1 (fresh m)) = true) {b o : Nat}
    (hc : ∀ j x, cs[j]? = some x → w.cell? ⟨b, o + j, none⟩ = some x) :
    ∃ r, R3 ρ F w v r ∧ v.all3 (fresh m) = true ∧ ∀ w', Agree w w' → (loadVar t ⟨b, o, none⟩).run P w' = .ok r w' := by
  unfold asV at h
  cases hk : isAggK ti.kind with
  | true =>
    rw [hk] at h
    simp only [cond_true] at h
    cases hn : Nat.beq (us.take ti.size).length ti.size with
    | false => rw [hn] at h; simp at h
    | true =>
      rw [hn] at h
      simp only [cond_true, Option.some.injEq] at h
      subst h
      have hlen := Nat.eq_of_beq_eq_true hn
      have hcl : (cs.take ti.size).length = ti.size := by rw [← (hr.take ti.size).length]; exact hlen
      refine ⟨.agg (cs.take ti.size).toArray, ⟨_, rfl, hr.take _⟩, ?_, fun w' hw' => ?_⟩
      · simp only [V.all3, V.all2, List.all_eq_true] at *
        exact fun x hx => hf x (List.mem_of_mem_take hx)
      · have hl := run_loadCells_list (P := P) w' ⟨b, o, none⟩ (cs.take ti.size) (fun j x hx => by
          rw [Addr.add_lit]
          refine cell_agree hw' (hc j x ?_)
          rw [List.getElem?_take] at hx
          split at hx
          · exact hx
          · simp at hx)
        rw [hcl] at hl
        simp only [loadVar, Sem.run_bind, run_isAgg hti, Result.andThen, hk, if_true, run_sizeOf hti, hl]
        rfl
  | false =>
    rw [hk] at h
    simp only [cond_false] at h
    cases us with
    | nil => simp at h
    | cons u us =>
      cases cs with
      | nil => exact hr.elim
      | cons c cs =>
        simp only [Option.some.injEq] at h
        subst h
        have hu : R3 ρ F w u c := R3_of (R2_of hr.1)
        refine ⟨c, hu, ?_, fun w' hw' => ?_⟩
        · simp only [List.all_cons, Bool.and_eq_true] at hf
          have h1 := hf.1
          have h0 := hr.1
          cases u <;> first | exact h1 | exact (show False from h0).elim
        · have := cell_agree hw' (hc 0 c rfl)
          simp only [loadVar, Sem.run_bind, run_isAgg hti, Result.andThen, hk, Bool.false_eq_true, if_false, run_load]
          rw [show (⟨b, o, none⟩ : Addr) = ⟨b, o + 0, none⟩ from rfl, this]

theorem All2.drop_map {us : List D} {cs : Nat → Value} (h : ∀ j d, us[j]? = some d → RD F w d (cs j)) : All2 (R1 ρ F w) (us.map V.d) ((List.range us.length).map cs) := by
  induction us generalizing cs with
  | nil => trivial
  | cons u us ih =>
    simp only [List.map_cons, List.length_cons, List.range_succ_eq_map, List.map_map]
    refine ⟨h 0 u rfl, ?_⟩
    have := ih (cs := fun j => cs (j + 1)) (fun j d hd => h (j + 1) d (by simpa using hd))
    exact this

theorem ld_sound (hg : TysOK P g.tys) {C : Ctx} {s : St} {a : Act} (hs : SatW C s a w ρ F) {t : TypeId} {x v : V} {vx : Value} {ob : List Prop} (h : ldE g s.H t x = some (v, ob)) (hob : AllP ob) (hx : R3 ρ F w x vx) :
    ∃ r, R3 ρ F w v r ∧ v.all3 (fresh s.m) = true ∧ ∀ w', Agree w w' → (Instr.loadAt t vx).run P w' = .ok r w' := by
  have fin : ∀ {b o : Nat}, vx = .pointer (some ⟨b, o, none⟩) → (∃ r, R3 ρ F w v r ∧ v.all3 (fresh s.m) = true ∧ ∀ w', Agree w w' → (loadVar t ⟨b, o, none⟩).run P w' = .ok r w') →
      ∃ r, R3 ρ F w v r ∧ v.all3 (fresh s.m) = true ∧ ∀ w', Agree w w' → (Instr.loadAt t vx).run P w' = .ok r w' := by
    rintro b o rfl ⟨r, h1, h2, h3⟩
    exact ⟨r, h1, h2, fun w' hw' => by simp only [Instr.loadAt, Instr.sureAddr, Sem.run_bind, Sem.run_pure, Result.andThen]; exact h3 w' hw'⟩
  have elems : ∀ {id sz i o n : Nat} {f : Nat → List D} {xs : List Value} {b : Nat} {ti : TI}, ti.OK P t → asV ti (((f i).drop o).map .d) = some v → i < n → Elems F w sz n f xs →
      (∀ j y, xs[j]? = some y → w.cell? ⟨b, j, none⟩ = some y) → ∃ r, R3 ρ F w v r ∧ v.all3 (fresh s.m) = true ∧ ∀ w', Agree w w' → (loadVar t ⟨b, i * sz + o, none⟩).run P w' = .ok r w' := by
    intro id sz i o n f xs b ti hti ha hi he hc
    have h1 := (he i hi).2
    have hex : ∃ cs : Nat → Value, ∀ j d, ((f i).drop o)[j]? = some d → xs[i * sz + o + j]? = some (cs j) ∧ RD F w d (cs j) := by
      refine ⟨fun j => (xs[i * sz + o + j]?).getD undef, fun j d hd => ?_⟩
      rw [List.getElem?_drop] at hd
      obtain ⟨c, hc1, hc2⟩ := h1 (o + j) d hd
      rw [← Nat.add_assoc] at hc1
      simp only [hc1, Option.getD_some]
      exact ⟨trivial, hc2⟩
    obtain ⟨cs, hcs⟩ := hex
    refine asV_sound hti ha (All2.drop_map (ρ := ρ) fun j d hd => (hcs j d hd).2) (all_d _ (fun _ => rfl) _) (fun j x hx => ?_)
    rw [List.getElem?_map, Option.map_eq_some_iff] at hx
    obtain ⟨j', hj', rfl⟩ := hx
    have hlt : j < ((f i).drop o).length := by
      have := (List.getElem?_eq_some_iff.1 hj').1
      simpa using this
    have : j' = j := by
      rw [List.getElem?_range (by simpa using hlt)] at hj'
      exact (Option.some.inj hj').symm
    subst this
    exact hc _ _ (hcs j' _ (List.getElem?_eq_getElem hlt)).1
  unfold ldE at h
  split at h
  · simp at h
  · rename_i ti hl
    have hti := lk_ok hg hl
    split at h
    · -- eptr
      rename_i ds
      split at h
      · rename_i v' hv
        obtain ⟨rfl, rfl⟩ := Prod.mk.inj (Option.some.inj h)
        obtain ⟨b, o, cs, hp, _, hc⟩ := (show R0 ρ F w (.eptr ds) vx from hx)
        refine fin hp (asV_sound hti hv (All2.drop_map (ρ := ρ) fun j d hd => (hc j d hd).2) (all_d _ (fun _ => rfl) _) (fun j x hx => ?_))
        rw [List.getElem?_map, Option.map_eq_some_iff] at hx
        obtain ⟨j', hj', rfl⟩ := hx
        have hlt : j < ds.length := by simpa using (List.getElem?_eq_some_iff.1 hj').1
        have : j' = j := by
          rw [List.getElem?_range hlt] at hj'
          exact (Option.some.inj hj').symm
        subst this
        exact (hc j' _ (List.getElem?_eq_getElem hlt)).1
      · simp at h
    · -- ptr
      rename_i id o
      split at h
      · rename_i us hgH
        split at h
        · rename_i v' hv
          obtain ⟨rfl, rfl⟩ := Prod.mk.inj (Option.some.inj h)
          obtain ⟨b, hb, hp⟩ := (show R0 ρ F w (.ptr id o) vx from hx)
          obtain ⟨b', cs, T, hb', hheap, hall⟩ := hs.ch id _ (get_mem hgH)
          rw [hb] at hb'
          simp only [Value.pointer.injEq, Option.some.injEq, Addr.mk.injEq, and_true] at hb'
          subst hb'
          refine fin hp (asV_sound hti hv (hall.drop o) ?_ (fun j x hx => ?_))
          · have := (hs.freshH id _ (get_mem hgH)).2
            simp only [Ch.all, List.all_eq_true] at this ⊢
            exact fun y hy => this y (List.mem_of_mem_drop hy)
          · rw [List.getElem?_drop] at hx
            simp [World.cell?, hheap, hx]
        · simp at h
      · simp at h
    · -- vptr
      rename_i id sz i o
      split at h
      · rename_i e sz' n f hgH
        cases hsz : Nat.beq sz sz' with
        | false => rw [hsz] at h; simp at h
        | true =>
          rw [hsz] at h
          simp only [cond_true] at h
          have := Nat.eq_of_beq_eq_true hsz
          subst this
          split at h
          · rename_i v' hv
            obtain ⟨rfl, rfl⟩ := Prod.mk.inj (Option.some.inj h)
            obtain ⟨b, hb, hp⟩ := (show R0 ρ F w (.vptr id sz i o) vx from hx)
            obtain ⟨xs, ho, he⟩ := hs.ch id _ (get_mem hgH)
            refine fin hp (elems (id := id) hti hv hob he (fun j y hy => ?_))
            have := ho.cells (g := b) (by
              rcases ho.2 with ⟨h1, h2⟩ | ⟨g', cap, cur, h1, _⟩
              · rw [h1] at hb; simp [blk] at hb
              · rw [h1] at hb ⊢; simpa [blk, Value.ownBlock] using hb) j y hy
            rwa [Addr.add_lit, Nat.zero_add] at this
          · simp at h
      · rename_i sz' n f hgH
        cases hsz : Nat.beq sz sz' with
        | false => rw [hsz] at h; simp at h
        | true =>
          rw [hsz] at h
          simp only [cond_true] at h
          have := Nat.eq_of_beq_eq_true hsz
          subst this
          split at h
          · rename_i v' hv
            obtain ⟨rfl, rfl⟩ := Prod.mk.inj (Option.some.inj h)
            obtain ⟨b, hb, hp⟩ := (show R0 ρ F w (.vptr id sz i o) vx from hx)
            obtain ⟨b', cs, T, hb', hheap, _, he⟩ := hs.ch id _ (get_mem hgH)
            rw [hb'] at hb
            simp [blk] at hb
            subst hb
            exact fin hp (elems (id := id) hti hv hob he (fun j y hy => by simp [World.cell?, hheap, hy]))
          · simp at h
      · simp at h
    · simp at h
end
end Go.Sx
