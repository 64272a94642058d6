/-
  Sx, part 11: memory made: boxes, arrays, slices, appends, ranges.
-/
import Derived.Test.YtdgopbgckdnncaaSx10
set_option linter.unusedVariables false
set_option linter.unusedSimpArgs false
namespace Go.Sx
section
variable {C : Ctx} {s s' : St} {a : Act} {w w' : World} {ρ : Nat → Value} {F : Nat → Prop} {g : Cfg}

theorem upd_same (ρ : Nat → Value) (i : Nat) (x : Value) : upd ρ i x i = x := by simp [upd]
theorem upd_other (ρ : Nat → Value) {i j : Nat} (x : Value) (h : j ≠ i) : upd ρ i x j = ρ j := by simp [upd, h]

/-- A new chunk, and its value in a slot. -/
theorem SatW.make (h : SatW C s a w ρ F) {d : Nat} (hd : d < C.n) (hm : Mod none w w') {x : Value} (hb : ∀ b, blk x = some b → w.heap.size ≤ b) {c : Ch} (hc : ChOK (upd ρ s.m x) F w' s.m c) (hcf : c.all (fresh (s.m + 1)) = true)
    {v : V} (hv : R3 (upd ρ s.m x) F w' v x) (hf : v.all3 (fresh (s.m + 1)) = true) (hpl : ∀ b, bks (upd ρ s.m x) s.m c b → blk (upd ρ s.m x s.m) = some b := by exact fun _ e => e) : Sat C (newCh s d v c) (a.put (some d) x) w' :=
  ⟨_, _, (h.new hm hb hc hcf hpl).put hd hv hf⟩

theorem R1.new (h : ∀ k, F k → k < w.heap.size) (hm : Mod none w w') {x : Value} {i : Nat} {u : V} {v : Value} (hf : u.all1 (fresh i) = true) (hr : R1 ρ F w u v) : R1 (upd ρ i x) F w' u v := by
  have := R1.map (p := fresh i) (k := fun u => u) (fun u v hu hr => hr.keep (x := i) (ρ' := upd ρ i x) (fun j hj => upd_other ρ x hj) (fun _ => _root_.id) (fun k hk => hm.block k (h k hk) (by simp)) (fresh_names (Nat.le_refl _) hu)) hf hr
  rwa [map1_id] at this

theorem litV_R1 {v : V} {c : Value} (h : litV v c) : R1 ρ F w v c := by
  cases v with
  | d y => cases y <;> first | (rw [show c = _ from h]; constructor) | exact h.elim
  | nils => exact h
  | dead => exact h
  | _ => exact h.elim
theorem litV_fresh {v : V} {c : Value} {m : Nat} (h : litV v c) : v.all1 (fresh m) = true := by cases v <;> first | rfl | exact h.elim

theorem lit_all {us : List V} {cs : List Value} {m : Nat} (h : All2 litV us cs) : All2 (R1 ρ F w) us cs ∧ us.all (V.all1 (fresh m)) = true := by
  induction us generalizing cs with
  | nil => cases cs with
    | nil => exact ⟨trivial, rfl⟩
    | cons _ _ => exact h.elim
  | cons u us ih => cases cs with
    | nil => exact h.elim
    | cons c cs => exact ⟨⟨litV_R1 h.1, (ih h.2).1⟩, by simp only [List.all_cons, Bool.and_eq_true]; exact ⟨litV_fresh h.1, (ih h.2).2⟩⟩

theorem box_sound (h : SatW C s a w ρ F) {d : Nat} (hd : d < C.n) {x : Value} {us : List V} {T : TypeId} (hus : All2 (R1 ρ F w) us x.cells.toList) (hf : us.all (V.all1 (fresh s.m)) = true) :
    Sat C (newCh s d (.ptr s.m 0) (.box us)) (a.put (some d) (.pointer (some ⟨w.heap.size, 0, none⟩))) (w.alloc (.cells x.cells T)) := by
  refine h.make hd (Mod.alloc _ _) (fun b hb => by simp [blk] at hb; omega) (c := .box us) ⟨w.heap.size, x.cells.toList, T, upd_same _ _ _, by simpa using heap_alloc_new w (.cells x.cells T), ?_⟩ ?_ (v := .ptr s.m 0) ⟨w.heap.size, upd_same _ _ _, rfl⟩ ?_
  · have := hus.imp (g := fun u => u) (R' := R1 (upd ρ s.m (.pointer (some ⟨w.heap.size, 0, none⟩))) F (w.alloc (.cells x.cells T))) fun u c hu hr => R1.new h.lt (Mod.alloc _ _) ((List.all_eq_true.1 hf) u hu) hr
    simpa using this
  · simp only [Ch.all, List.all_eq_true] at hf ⊢
    exact fun u hu => all1_imp (fun v hv => fresh_mono (Nat.le_succ _) hv) (hf u hu)
  · show Nat.blt s.m (s.m + 1) = true
    simp

theorem dList_len : ∀ {us : List V} {ds : List D}, dList us = some ds → us.length = ds.length
  | [], ds, h => by simp [dList] at h; subst h; rfl
  | u :: us, ds, h => by
    simp only [dList] at h
    split at h
    · simp at h
    · split at h
      · simp at h
      · rename_i ds' hds'
        simp only [Option.some.injEq] at h
        subst h
        simp [dList_len hds']

theorem zero_run {P : Program} {t : TypeId} {ti : TI} (hti : ti.OK P t) (w : World) : ∃ z, (zeroValue t).run P w = .ok z w ∧ z.cells.size = ti.size ∧ All2 litV (match ti.kind with | .array n _ => (List.replicate n ti.zero).flatten | _ => ti.zero) z.cells.toList := by
  obtain ⟨i, z, h1, h2, h3, h4, h5, h6⟩ := hti.info
  exact ⟨z, by simp [zeroValue, typeInfo, h1, h4], h5, h6⟩

theorem asD_lit {v : V} {d : D} {c : Value} (h : asD v = some d) (hl : litV v c) : RD F w d c := asD_sound (ρ := fun _ => undef) h (litV_R1 hl)

theorem dList_lit {us : List V} {ds : List D} (h : dList us = some ds) : ∀ {cs : List Value}, All2 litV us cs → All2 (RD F w) ds cs := by
  intro cs hc
  exact dList_sound (ρ := fun _ => undef) h (hc.mono fun _ _ => litV_R1)

theorem dList_all {us : List V} {ds : List D} (hds : dList us = some ds) (n : Nat) {cs : List Value} (h : All2 litV (List.replicate n us).flatten cs) :
    ∀ i j dd, i < n → ds[j]? = some dd → j < ds.length → ∃ c, cs[i * ds.length + j]? = some c ∧ RD F w dd c := by
  have hlen := dList_len hds
  induction n generalizing cs with
  | zero => intro i j dd hi; omega
  | succ n ih =>
    intro i j dd hi hj hlt
    simp only [List.replicate_succ, List.flatten_cons] at h
    have h1 := h.take us.length
    have h2 := h.drop us.length
    simp only [List.take_left', List.drop_left'] at h1 h2
    cases i with
    | zero =>
      obtain ⟨c, hc, hr⟩ := (dList_lit (F := F) (w := w) hds h1).get hj
      refine ⟨c, ?_, hr⟩
      rw [List.getElem?_take] at hc
      simp only [Nat.zero_mul, Nat.zero_add]
      split at hc
      · exact hc
      · simp at hc
    | succ i =>
      obtain ⟨c, hc, hr⟩ := ih h2 i j dd (by omega) hj hlt
      refine ⟨c, ?_, hr⟩
      rw [List.getElem?_drop] at hc
      rw [← hc]
      congr 1
      rw [hlen, Nat.add_mul]; omega

theorem alloc_sound (hg : TysOK C.P g.tys) (hn : g.n = C.n) (h : SatW C s a w ρ F) {d : Nat} {t : TypeId} {ti : TI} (hl : lk g t = some ti) (hd : d < C.n) {ob : List Prop}
    (he : (match ti.kind with
        | .array n e => match dList ti.zero, lk g e with
          | some ds, some te => bif Nat.beq ds.length te.size then some (newCh s d (.ptr s.m 0) (.arr te.size n fun _ => ds), []) else none
          | _, _ => none
        | _ => some (newCh s d (.ptr s.m 0) (.box ti.zero), [])) = some (s', ob)) :
    ∃ x w', (Instr.alloc t true (.tuple #[])).run C.P w = .ok x w' ∧ Sat C s' (a.put (some d) x) w' := by
  obtain ⟨z, hz1, hz2, hz3⟩ := zero_run (lk_ok hg hl) w
  have hrun : (Instr.alloc t true (.tuple #[])).run C.P w = .ok (.pointer (some ⟨w.heap.size, 0, none⟩)) (w.alloc (.cells z.cells t)) := by
    simp [Instr.alloc, hz1, newVar, newRow, newObj, Sem.run]
  refine ⟨_, _, hrun, ?_⟩
  split at he
  · rename_i n e hk
    split at he
    · rename_i ds te hds hte
      cases hb : Nat.beq ds.length te.size with
      | false => rw [hb] at he; simp at he
      | true =>
        rw [hb] at he
        simp only [cond_true] at he
        have hb := Nat.eq_of_beq_eq_true hb
        obtain ⟨rfl, rfl⟩ := Prod.mk.inj (Option.some.inj he)
        simp only [hk] at hz3
        refine h.make hd (Mod.alloc _ _) (fun b hb => by simp [blk] at hb; omega) (c := .arr te.size n fun _ => ds) ⟨w.heap.size, z.cells.toList, t, upd_same _ _ _, by simpa using heap_alloc_new w (.cells z.cells t), ?_, ?_⟩ rfl (v := .ptr s.m 0) ⟨w.heap.size, upd_same _ _ _, rfl⟩ (by show Nat.blt s.m (s.m + 1) = true; simp)
        · have hzl : ti.zero.length = te.size := (dList_len hds).trans hb
          rw [← hz3.length]
          simp [List.length_flatten, hzl]
        · intro i hi
          refine ⟨hb, fun j dd hj => ?_⟩
          have hall := dList_all (F := F) (w := w.alloc (.cells z.cells t)) hds n hz3
          rw [hb] at hall
          exact hall i j dd hi hj (by rw [← hb]; exact (List.getElem?_eq_some_iff.1 hj).1)
    · simp at he
  · rename_i hk
    obtain ⟨rfl, rfl⟩ := Prod.mk.inj (Option.some.inj he)
    have hz4 : All2 litV ti.zero z.cells.toList := by
      revert hz3
      split
      · rename_i n e hk2; exact (hk n e hk2).elim
      · exact _root_.id
    exact box_sound h hd (lit_all (m := s.m) hz4).1 (lit_all (m := s.m) (ρ := ρ) (F := F) (w := w) hz4).2
end
end Go.Sx
