/-
  Sx, part 29: from what a statement's frame reads of an argument to the engine's data; data that are alike.
-/
import Derived.Test.YtdgopbgckdnncaaSx28
import Derived.ChangeArms
import Derived.Carry
import Derived.SizedLaws
set_option linter.unusedVariables false
set_option linter.unusedSimpArgs false
namespace Go.Sx

/-- What the cells of a type are. -/
inductive DTy where
  | bool
  | int (k : IntKind)
  | str
  | sl (b : Nat) (e : List DTy)

/-- Data of that kind. -/
inductive Conf1 : DTy → D → Prop
  | bool (b : Bool) : Conf1 .bool (.bool b)
  | int (k : IntKind) (n : Int) (h : (Lit.int k n).wf = true) : Conf1 (.int k) (.int k n)
  | str (s : ByteArray) (h : s.size ≤ maxLen) (hz : s.size ≤ reachBytes) : Conf1 .str (.str s)
  | sl (b : Nat) (e : List DTy) (n : Nat) (f : Nat → List D) (hn : n ≤ maxLen) (hz : n * b ≤ reachBytes) (hl : ∀ i, i < n → (f i).length = e.length)
      (h : ∀ (i j : Nat) (t : DTy) (d : D), i < n → e[j]? = some t → (f i)[j]? = some d → Conf1 t d) : Conf1 (.sl b e) (.sl e.length n f)
def Conf (τ : List DTy) (ds : List D) : Prop := ds.length = τ.length ∧ ∀ (j : Nat) (t : DTy) (d : D), τ[j]? = some t → ds[j]? = some d → Conf1 t d

/-- The cells of a type, read off the program. -/
def flatFs (go : TypeId → Option (List DTy)) (sz : TypeId → Nat) : Nat → List (Nat × TypeId) → Option (List DTy)
  | _, [] => some []
  | o, (off, ty) :: r => match go ty, flatFs go sz (o + sz ty) r with
    | some a, some b => bif Nat.beq off o && Nat.beq a.length (sz ty) then some (a ++ b) else none
    | _, _ => none
def flatTy (P : Program) : Nat → TypeId → Option (List DTy)
  | 0, _ => none
  | k + 1, t => match P.underlying t with
    | some .bool => some [.bool]
    | some (.int kd) => some [.int kd]
    | some .string => some [.str]
    | some (.slice e) => match flatTy P k e with
      | some τ => bif Nat.beq τ.length (P.cellsOf e) && Nat.ble 1 τ.length then some [.sl (P.bytesOf e) τ] else none
      | none => none
    | some (.struct fs) => match flatFs (flatTy P k) P.cellsOf 0 (fs.toList.map fun f => (f.offset, f.type)) with
      | some τ => bif Nat.beq τ.length (P.cellsOf t) then some τ else none
      | none => none
    | _ => none

section
variable {P : Program} {H : Type} {enc : TypeId × Value → H} {w : World} {spare : Nat → Bool} {held : Bool}
abbrev Old (w : World) : Nat → Prop := fun k => k < w.heap.size

theorem cells_get {a : Addr} {n : Nat} {cs : List Value} (h : w.cells? 0 a n = some cs) : cs.length = n ∧ ∀ j, j < n → w.cell? (a.add j) = cs[j]? := by
  unfold World.cells? at h
  rw [if_pos (Nat.zero_le _)] at h
  exact ⟨by simpa using mapM_some_length h, fun j hj => mapM_some_get h j j (by simp [hj])⟩

theorem cell_old {a : Addr} {v : Value} (h : w.cell? a = some v) : Old w a.block ∧ a.spot = none := by
  unfold World.cell? at h
  split at h
  · rename_i c _ _ hh
    refine ⟨(Array.getElem?_eq_some_iff.1 hh).1, ?_⟩
    cases hs : a.spot with
    | none => rfl
    | some _ => simp [hs] at h
  · simp at h

theorem all2_of_get {α β : Type} {R : α → β → Prop} : ∀ {as : List α} {bs : List β}, as.length = bs.length → (∀ (j : Nat) a b, as[j]? = some a → bs[j]? = some b → R a b) → All2 R as bs
  | [], [], _, _ => trivial
  | a :: as, b :: bs, hl, h => ⟨h 0 a b rfl rfl, all2_of_get (by simpa using hl) fun j x y hx hy => h (j + 1) x y (by simpa using hx) (by simpa using hy)⟩
  | [], _ :: _, hl, _ => by simp at hl
  | _ :: _, [], hl, _ => by simp at hl

def Opens (P : Program) (w : World) (t : TypeId) (τ : List DTy) (cs : List Value) : Prop := ∃ ds, Conf τ ds ∧ All2 (RD (Old w) w) ds cs

theorem conf_app {τ σ : List DTy} {as bs : List D} (h1 : Conf τ as) (h2 : Conf σ bs) : Conf (τ ++ σ) (as ++ bs) := by
  refine ⟨by simp [h1.1, h2.1], fun j t d ht hd => ?_⟩
  by_cases hj : j < τ.length
  · rw [List.getElem?_append_left hj] at ht
    rw [List.getElem?_append_left (by rw [h1.1]; exact hj)] at hd
    exact h1.2 j t d ht hd
  · rw [List.getElem?_append_right (by omega)] at ht
    rw [List.getElem?_append_right (by rw [h1.1]; omega), h1.1] at hd
    exact h2.2 _ t d ht hd

theorem fs_open (go : TypeId → Option (List DTy)) : ∀ (l : List (Nat × TypeId)) (o : Nat) (τ : List DTy) (cs : List Value), flatFs go P.cellsOf o l = some τ → o + τ.length = cs.length →
    (∀ f ∈ l, ∀ σ, go f.2 = some σ → Opens P w f.2 σ ((cs.drop f.1).take (P.cellsOf f.2))) → ∃ ds, Conf τ ds ∧ All2 (RD (Old w) w) ds (cs.drop o)
  | [], o, τ, cs, h, hl, _ => by
    simp only [flatFs, Option.some.injEq] at h
    subst h
    refine ⟨[], ⟨rfl, fun j t d ht => by simp at ht⟩, ?_⟩
    rw [List.drop_eq_nil_of_le (by simp at hl; omega)]
    trivial
  | (off, ty) :: r, o, τ, cs, h, hl, hop => by
    simp only [flatFs] at h
    split at h
    · rename_i a b h1 h2
      cases hb : (Nat.beq off o && Nat.beq a.length (P.cellsOf ty)) with
      | false => rw [hb] at h; simp at h
      | true =>
        rw [hb] at h
        simp only [cond_true, Option.some.injEq] at h
        subst h
        simp only [Bool.and_eq_true] at hb
        have e1 := Nat.eq_of_beq_eq_true hb.1
        have e2 := Nat.eq_of_beq_eq_true hb.2
        subst e1
        simp only [List.length_append] at hl
        obtain ⟨as, c1, r1⟩ := hop (off, ty) (by simp) a h1
        obtain ⟨bs, c2, r2⟩ := fs_open go r (off + P.cellsOf ty) b cs h2 (by omega) fun f hf => hop f (List.mem_cons_of_mem _ hf)
        refine ⟨as ++ bs, conf_app c1 c2, ?_⟩
        have := r1.app r2
        simp only at this
        rwa [show (cs.drop off).take (P.cellsOf ty) ++ cs.drop (off + P.cellsOf ty) = cs.drop off by rw [← List.drop_drop, List.take_append_drop]] at this
    · simp at h

theorem weightsAll_mem {P : Program} {e : TypeId} : ∀ {l : List (DataW H)} {d : DataW H}, d ∈ l → ∀ n ∈ d.weights P e, n ∈ DataW.weightsAll P e l
  | a :: l, d, hd, n, hn => by
    simp only [DataW.weightsAll, List.mem_append]
    rcases List.mem_cons.1 hd with rfl | hd
    · exact .inl hn
    · exact .inr (weightsAll_mem hd n hn)
  | [], _, hd, _, _ => by cases hd

theorem trod_opens : ∀ (k : Nat) (t : TypeId) (τ : List DTy) (fuel : Nat) (cs : List Value) (x : DataW H × List MemPlace), flatTy P k t = some τ → DataW.trod enc P w 0 spare held fuel t cs = some x → (∀ n ∈ DataW.weights P t x.1, n ≤ reachBytes) → Opens P w t τ cs
  | 0, t, τ, _, _, _, h, _, _ => by simp [flatTy] at h
  | k + 1, t, τ, fuel, cs, x, h, hx, hwt => by
    unfold flatTy at h
    split at h
    · rename_i hu
      obtain ⟨b, rfl, _⟩ := DataW.trod_bool hu hx
      simp only [Option.some.injEq] at h
      subst h
      exact ⟨[.bool b], ⟨rfl, fun j t d ht hd => by
        match j with
        | 0 => simp at ht hd; subst ht hd; exact .bool b
        | j + 1 => simp at ht⟩, .bool b, trivial⟩
    · rename_i kd hu
      obtain ⟨n, rfl, _, hw⟩ := DataW.trod_int hu hx
      simp only [Option.some.injEq] at h
      subst h
      exact ⟨[.int kd n], ⟨rfl, fun j t d ht hd => by
        match j with
        | 0 => simp at ht hd; subst ht hd; exact .int kd n hw
        | j + 1 => simp at ht⟩, .int kd n, trivial⟩
    · rename_i hu
      obtain ⟨s, rfl, hxe, hw⟩ := DataW.trod_string hu hx
      have hz : s.size ≤ reachBytes := by
        have h0 := hwt s.data.toList.length (by
          rw [hxe]
          show _ ∈ DataW.weights P t (.lit (.string s.data.toList))
          rw [DataW.weights]
          exact List.mem_singleton.2 rfl)
        rw [Array.length_toList] at h0
        exact h0
      simp only [Option.some.injEq] at h
      subst h
      exact ⟨[.str s], ⟨rfl, fun j t d ht hd => by
        match j with
        | 0 => simp at ht hd; subst ht hd; exact .str s hw hz
        | j + 1 => simp at ht⟩, .str s, trivial⟩
    · rename_i e hu
      split at h
      · rename_i σ hσ
        cases hb : (Nat.beq σ.length (P.cellsOf e) && Nat.ble 1 σ.length) with
        | false => rw [hb] at h; simp at h
        | true =>
          rw [hb] at h
          simp only [cond_true, Option.some.injEq] at h
          subst h
          simp only [Bool.and_eq_true] at hb
          have hsz := Nat.eq_of_beq_eq_true hb.1
          have hpos : 1 ≤ σ.length := by simpa using hb.2
          have one : ∀ d : D, Conf1 (.sl (P.bytesOf e) σ) d → Conf [.sl (P.bytesOf e) σ] [d] := fun d hd => ⟨rfl, fun j t d' ht hd' => by
            match j with
            | 0 => simp at ht hd'; subst ht hd'; exact hd
            | j + 1 => simp at ht⟩
          rcases DataW.trod_slice hu hx with ⟨rfl, _⟩ | ⟨a, len, cap, elems, rest, n, rfl, rfl, hxe, _, hl, hm, hlen, hel, _, _⟩
          · exact ⟨[.sl σ.length 0 fun _ => []], one _ (.sl _ σ 0 _ (Nat.zero_le _) (by simp) (fun i hi => absurd hi (Nat.not_lt_zero _)) (fun i j t d hi => absurd hi (Nat.not_lt_zero _))), .emp _ _ _ _, trivial⟩
          · have hin : ∀ y ∈ elems, ∀ n ∈ DataW.weights P e y.1, n ≤ reachBytes := fun y hy n hn => hwt n (by
              rw [hxe]
              show _ ∈ DataW.weights P t (.slice (elems.map (·.1)) (rest.map (·.1)))
              simp only [DataW.weights, hu, List.mem_cons, List.mem_append]
              exact .inr (.inl (weightsAll_mem (List.mem_map_of_mem hy) n hn)))
            have hz : len * P.bytesOf e ≤ reachBytes := by
              have h0 := hwt (((elems.map (·.1)).length + (rest.map (·.1)).length) * P.bytesOf e) (by
                rw [hxe]
                show _ ∈ DataW.weights P t (.slice (elems.map (·.1)) (rest.map (·.1)))
                simp only [DataW.weights, hu, List.mem_cons]
                exact .inl trivial)
              refine Nat.le_trans (Nat.mul_le_mul_right _ ?_) h0
              simp only [List.length_map]
              omega
            -- each element
            have each : ∀ i, i < len → ∃ (cs' : List Value) (ds : List D), cs'.length = σ.length ∧ (∀ j, j < σ.length → w.cell? ((a.add (i * σ.length)).add j) = cs'[j]?) ∧ Conf σ ds ∧ All2 (RD (Old w) w) ds cs' := fun i hi => by
              have h1 := hel i hi
              obtain ⟨y, hy⟩ : ∃ y, elems[i]? = some y := ⟨_, List.getElem?_eq_getElem (by omega)⟩
              rw [hy, Option.bind_eq_some_iff] at h1
              obtain ⟨cs', h2, h3⟩ := h1
              obtain ⟨h4, h5⟩ := cells_get h2
              obtain ⟨ds, h6, h7⟩ := trod_opens k e σ n cs' y hσ h3 (hin y (List.mem_of_getElem? hy))
              rw [← hsz] at h4 h5
              exact ⟨cs', ds, h4, h5, h6, h7⟩
            by_cases h0 : len = 0
            · subst h0
              exact ⟨[.sl σ.length 0 fun _ => []], one _ (.sl _ σ 0 _ (Nat.zero_le _) (by simp) (fun i hi => absurd hi (Nat.not_lt_zero _)) (fun i j t d hi => absurd hi (Nat.not_lt_zero _))), .emp _ _ _ _, trivial⟩
            · let ff : Nat → List D := fun i => if h : i < len then Classical.choose (Classical.choose_spec (each i h)) else []
              let cc : Nat → List Value := fun i => if h : i < len then Classical.choose (each i h) else []
              have prop : ∀ i, i < len → (cc i).length = σ.length ∧ (∀ j, j < σ.length → w.cell? ((a.add (i * σ.length)).add j) = (cc i)[j]?) ∧ Conf σ (ff i) ∧ All2 (RD (Old w) w) (ff i) (cc i) := fun i hi => by
                have e1 : ff i = Classical.choose (Classical.choose_spec (each i hi)) := by simp only [ff, hi, dite_true]
                have e2 : cc i = Classical.choose (each i hi) := by simp only [cc, hi, dite_true]
                rw [e1, e2]
                exact Classical.choose_spec (Classical.choose_spec (each i hi))
              have hsp : Old w a.block ∧ a.spot = none := by
                obtain ⟨p1, p2, _⟩ := prop 0 (by omega)
                have hc := p2 0 (by omega)
                rw [List.getElem?_eq_getElem (by omega)] at hc
                have := cell_old hc
                simpa [Addr.add] using this
              obtain ⟨b, o, sp⟩ := a
              simp only at hsp
              obtain ⟨hb', rfl⟩ := hsp
              refine ⟨[.sl σ.length len ff], one _ (.sl _ σ len ff (by omega) hz (fun i hi => (prop i hi).2.2.1.1) (fun i j t d hi ht hd => (prop i hi).2.2.1.2 j t d ht hd)), ?_, trivial⟩
              refine .sl σ.length len ff b o cap (fun i j => ((cc i)[j]?).getD undef) hb' hl (fun i j hi hj => ?_) (fun i hi => (prop i hi).2.2.1.1) (fun i j d hi hd => ?_)
              · obtain ⟨p1, p2, _⟩ := prop i hi
                have hc := p2 j hj
                rw [Addr.add_lit, Addr.add_lit] at hc
                rw [← Nat.add_assoc, hc, List.getElem?_eq_getElem (by omega)]
                rfl
              · obtain ⟨p1, p2, p3, p4⟩ := prop i hi
                obtain ⟨c, c1, c2⟩ := p4.get hd
                rw [c1]
                exact c2
      · simp at h
    · rename_i fs hu
      split at h
      · rename_i σ hσ
        cases hb : Nat.beq σ.length (P.cellsOf t) with
        | false => rw [hb] at h; simp at h
        | true =>
          rw [hb] at h
          simp only [cond_true, Option.some.injEq] at h
          subst h
          have hsz := Nat.eq_of_beq_eq_true hb
          obtain ⟨xs, n, rfl, hxe, hlen, _, hfs⟩ := DataW.trod_struct hu hx
          have := fs_open (P := P) (w := w) (flatTy P k) (fs.toList.map fun f => (f.offset, f.type)) 0 σ cs hσ (by omega) (fun f hf σ' hσ' => by
            obtain ⟨f0, hf0, rfl⟩ := List.mem_map.1 hf
            obtain ⟨i, hi⟩ := List.getElem?_of_mem hf0
            have h1 := hfs i f0 (by simpa using hi)
            have hlt : i < xs.length := by
              have := (List.getElem?_eq_some_iff.1 hi).1
              simp at this
              omega
            rw [List.getElem?_eq_getElem hlt] at h1
            exact trod_opens k f0.type σ' n _ _ hσ' h1 (fun m hm => hwt m (by
              rw [hxe]
              show _ ∈ DataW.weights P t (.agg (xs.map (·.1)))
              simp only [DataW.weights, hu]
              exact DataW.weights_mem_each (j := i) (by simpa using congrArg (Option.map Field.type) hi) (by simp [List.getElem?_eq_getElem hlt]) m hm)))
          rw [List.drop_zero] at this
          exact this
      · simp at h
    · simp at h

theorem okWide_one {t : TypeId} {r : Reach} {base : Nat} {v : Value} (h : Value.okWide P w r base t v) (hu : P.underlying t = some .bool ∨ (∃ k, P.underlying t = some (.int k)) ∨ P.underlying t = some .string ∨ ∃ e, P.underlying t = some (.slice e)) : v.cells = #[v] := by
  unfold Value.okWide at h
  have go : Cell.okWide P w r base t v → v.cells = #[v] := fun h => by
    unfold Cell.okWide at h
    rcases hu with hu | ⟨k, hu⟩ | hu | ⟨e, hu⟩ <;> rw [hu] at h <;> simp only at h <;> unfold Cell.ok at h <;> rw [hu] at h <;> cases v <;> first | rfl | exact h.elim | (simp at h)
  rcases hu with hu | ⟨k, hu⟩ | hu | ⟨e, hu⟩ <;> rw [hu] at h <;> exact go h

/-- AN ARGUMENT OF ONE CELL, opened. -/
theorem open_cell {t : TypeId} {r : Reach} {base : Nat} {v : Value} {d : DataW H} {ps : List MemPlace} {σ : DTy} (k : Nat) (hok : Value.okWide P w r base t v) (h : DataW.Trod enc P w 0 spare held t v d ps)
    (hu : P.underlying t = some .bool ∨ (∃ k, P.underlying t = some (.int k)) ∨ P.underlying t = some .string ∨ ∃ e, P.underlying t = some (.slice e)) (hf : flatTy P k t = some [σ]) (hwt : ∀ n ∈ DataW.weights P t d, n ≤ reachBytes) : ∃ x, Conf1 σ x ∧ RD (Old w) w x v := by
  obtain ⟨fuel, h⟩ := h
  rw [okWide_one hok hu] at h
  obtain ⟨ds, hc, hr⟩ := trod_opens k t [σ] fuel _ _ hf h hwt
  match ds, hr with
  | [x], hr => exact ⟨x, hc.2 0 σ x rfl rfl, hr.1⟩
  | [], hr => exact hr.elim
  | _ :: _ :: _, hr => exact hr.2.elim

/-- An argument that is a struct, opened. -/
theorem open_struct {t : TypeId} {r : Reach} {base : Nat} {v : Value} {d : DataW H} {ps : List MemPlace} {τ : List DTy} {fs : Array Field} (k : Nat) (hok : Value.okWide P w r base t v) (h : DataW.Trod enc P w 0 spare held t v d ps)
    (hu : P.underlying t = some (.struct fs)) (hf : flatTy P k t = some τ) (hwt : ∀ n ∈ DataW.weights P t d, n ≤ reachBytes) : ∃ (cs : List Value) (ds : List D), v = .agg cs.toArray ∧ Conf τ ds ∧ All2 (RD (Old w) w) ds cs := by
  unfold Value.okWide at hok
  rw [hu] at hok
  obtain ⟨cs, rfl, _, _⟩ := hok
  obtain ⟨fuel, h⟩ := h
  obtain ⟨ds, hc, hr⟩ := trod_opens k t τ fuel _ _ hf h hwt
  exact ⟨cs.toList, ds, by simp, hc, hr⟩
end

theorem DEq.rfl' (d : D) : DEq d d := by
  cases d with
  | int k n => show bif kbeq k k then n = n else False; simp [kbeq]
  | bool b => exact rfl
  | str s => exact rfl
  | sl z n f => exact ⟨rfl, fun _ => rfl, fun _ _ => rfl⟩
theorem veq_d {d d' : D} (h : d = d') : VEq (.d d) (.d d') := by subst h; exact DEq.rfl' d

/-- Data that read alike. -/
inductive DQ : D → D → Prop
  | refl (d : D) : DQ d d
  | emp (z z' : Nat) (f f' : Nat → List D) : DQ (.sl z 0 f) (.sl z' 0 f')
  | sl (z n : Nat) (f f' : Nat → List D) (hl : ∀ i, i < n → (f i).length = (f' i).length) (h : ∀ (i j : Nat) (d d' : D), i < n → (f i)[j]? = some d → (f' i)[j]? = some d' → DQ d d') : DQ (.sl z n f) (.sl z n f')

theorem DQ.sound {F : Nat → Prop} {w : World} {d d' : D} (h : DQ d d') : ∀ {v : Value}, RD F w d v → RD F w d' v := by
  induction h with
  | refl d => exact fun h => h
  | emp z z' f f' => intro v hr; cases hr <;> exact .emp _ _ _ _
  | sl z n f f' hl _ ih =>
    intro v hr
    cases hr with
    | emp => exact .emp _ _ _ _
    | sl _ _ _ b o cap cs hF hn hc hlen hrr =>
      refine .sl _ _ _ b o cap cs hF hn hc (fun i hi => by rw [← hl i hi]; exact hlen i hi) (fun i j d' hi hd' => ?_)
      have hj : j < (f i).length := by rw [hl i hi]; exact (List.getElem?_eq_some_iff.1 hd').1
      exact ih i j _ d' hi (List.getElem?_eq_getElem hj) hd' (hrr i j _ hi (List.getElem?_eq_getElem hj))

/-- A slice whose elements are of one cell. -/
theorem conf_one {b : Nat} {σ : DTy} {x : D} (h : Conf1 (.sl b [σ]) x) : ∃ (n : Nat) (g : Nat → D), DQ x (.sl 1 n fun i => [g i]) ∧ (n ≤ maxLen ∧ n * b ≤ reachBytes) ∧ ∀ i, i < n → Conf1 σ (g i) := by
  cases h with
  | sl _ _ n f hn hz hl hc =>
    have one : ∀ i, i < n → ∃ d, f i = [d] := fun i hi => by
      have := hl i hi
      match hf : f i with
      | [d] => exact ⟨d, rfl⟩
      | [] => rw [hf] at this; cases this
      | _ :: _ :: _ => rw [hf] at this; simp at this
    refine ⟨n, fun i => (f i).headD (.bool false), .sl 1 n f _ (fun i hi => by rw [hl i hi]; rfl) (fun i j d d' hi hd hd' => ?_), ⟨hn, hz⟩, fun i hi => ?_⟩
    · obtain ⟨y, hy⟩ := one i hi
      dsimp only at hd'
      rw [hy] at hd hd'
      match j with
      | 0 => simp at hd hd'; subst hd hd'; exact .refl _
      | j + 1 => simp at hd
    · obtain ⟨y, hy⟩ := one i hi
      show Conf1 σ ((f i).headD (.bool false))
      rw [hy]
      exact hc i 0 σ y hi rfl (by rw [hy]; rfl)

theorem DQ.trans {a b : D} (h : DQ a b) : ∀ {c : D}, DQ b c → DQ a c := by
  induction h with
  | refl d => exact fun h => h
  | emp z z' f f' =>
    intro c hc
    cases hc with
    | refl => exact .emp _ _ _ _
    | emp => exact .emp _ _ _ _
    | sl _ _ _ f'' => exact .emp _ _ _ _
  | sl z n f f' hl h ih =>
    intro c hc
    cases hc with
    | refl => exact .sl z n f f' hl h
    | emp => exact .emp _ _ _ _
    | sl _ _ _ f'' hl' h' =>
      refine .sl z n f f'' (fun i hi => (hl i hi).trans (hl' i hi)) fun i j d d'' hi hd hd'' => ?_
      have hj : j < (f' i).length := by rw [← hl i hi]; exact (List.getElem?_eq_some_iff.1 hd).1
      exact ih i j d _ hi hd (List.getElem?_eq_getElem hj) (h' i j _ d'' hi (List.getElem?_eq_getElem hj) hd'')

/-! ### lists of numbers, lists of these -/
def dInts (l : List Int) : D := .sl 1 l.length fun j => [.int .i64 (l.getD j 0)]
def dRows (to : List (List Int)) : D := .sl 1 to.length fun i => [dInts (to.getD i [])]

theorem conf_int {k : IntKind} {x : D} (h : Conf1 (.int k) x) : ∃ n, x = .int k n ∧ (Lit.int k n).wf = true := by
  cases h with
  | int _ n h => exact ⟨n, rfl, h⟩
theorem conf_ints {b : Nat} {x : D} (h : Conf1 (.sl b [.int .i64]) x) : ∃ l : List Int, DQ x (dInts l) ∧ (l.length ≤ maxLen ∧ l.length * b ≤ reachBytes) ∧ ∀ y ∈ l, (Lit.int .i64 y).wf = true := by
  obtain ⟨n, g, hq, hn, hg⟩ := conf_one h
  let num : D → Int := fun | .int _ n => n | _ => 0
  have hnum : ∀ i, i < n → g i = .int .i64 (num (g i)) ∧ (Lit.int .i64 (num (g i))).wf = true := fun i hi => by
    obtain ⟨m, e, hw⟩ := conf_int (hg i hi)
    rw [e]
    exact ⟨rfl, hw⟩
  refine ⟨(List.range n).map fun i => num (g i), hq.trans ?_, by simpa using hn, fun y hy => ?_⟩
  · unfold dInts
    rw [show ((List.range n).map fun i => num (g i)).length = n by simp]
    refine .sl 1 n _ _ (fun i hi => rfl) fun i j d d' hi hd hd' => ?_
    match j with
    | 0 =>
      simp only [List.getElem?_cons_zero, Option.some.injEq] at hd hd'
      subst hd hd'
      rw [(hnum i hi).1]
      simp [List.getD_eq_getElem?_getD, hi]
      exact .refl _
    | j + 1 => simp at hd
  · obtain ⟨i, hi, rfl⟩ := List.mem_map.1 hy
    exact (hnum i (List.mem_range.1 hi)).2
theorem conf_rows {b b' : Nat} {x : D} (h : Conf1 (.sl b [.sl b' [.int .i64]]) x) : ∃ to : List (List Int), DQ x (dRows to) ∧ (to.length ≤ maxLen ∧ to.length * b ≤ reachBytes) ∧ ∀ l ∈ to, (l.length ≤ maxLen ∧ l.length * b' ≤ reachBytes) ∧ ∀ y ∈ l, (Lit.int .i64 y).wf = true := by
  obtain ⟨n, g, hq, hn, hg⟩ := conf_one h
  let row : Nat → List Int := fun i => if h : i < n then Classical.choose (conf_ints (hg i h)) else []
  have hrow : ∀ i, i < n → DQ (g i) (dInts (row i)) ∧ ((row i).length ≤ maxLen ∧ (row i).length * b' ≤ reachBytes) ∧ ∀ y ∈ row i, (Lit.int .i64 y).wf = true := fun i hi => by
    have e : row i = Classical.choose (conf_ints (hg i hi)) := by simp only [row, hi, dite_true]
    rw [e]
    exact Classical.choose_spec (conf_ints (hg i hi))
  refine ⟨(List.range n).map row, hq.trans ?_, by simpa using hn, fun l hl => ?_⟩
  · unfold dRows
    rw [show ((List.range n).map row).length = n by simp]
    refine .sl 1 n _ _ (fun i hi => rfl) fun i j d d' hi hd hd' => ?_
    match j with
    | 0 =>
      simp only [List.getElem?_cons_zero, Option.some.injEq] at hd hd'
      subst hd hd'
      simp only [List.getD_eq_getElem?_getD, List.getElem?_map, List.getElem?_range hi, Option.map_some, Option.getD_some]
      exact (hrow i hi).1
    | j + 1 => simp at hd
  · obtain ⟨i, hi, rfl⟩ := List.mem_map.1 hl
    exact (hrow i (List.mem_range.1 hi)).2
end Go.Sx
