/-
  Sx, part 10: why part 9 is right.
-/
import Derived.Test.YtdgopbgckdnncaaSx9
set_option linter.unusedVariables false
set_option linter.unusedSimpArgs false
namespace Go.Sx
section
variable {C : Ctx} {s s' : St} {a : Act} {w w' : World} {ρ : Nat → Value} {F : Nat → Prop} {g : Cfg}

theorem R0.world {F' : Nat → Prop} (hF : ∀ k, F k → F' k) (hw : ∀ k, F k → w'.heap[k]? = w.heap[k]?) {u : V} {v : Value} (h : R0 ρ F w u v) : R0 ρ F' w' u v := by
  cases u with
  | d d => exact RD.mono hF hw h
  | eptr ds =>
    obtain ⟨b, o, cs, h1, h2, h3⟩ := h
    refine ⟨b, o, cs, h1, hF _ h2, fun j d hd => ⟨?_, RD.mono hF hw (h3 j d hd).2⟩⟩
    rw [← (h3 j d hd).1]
    exact World.cell?_of_block (w := w) (hw b h2)
  | _ => exact h
theorem all1_true (v : V) : v.all1 (fun _ => true) = true := by cases v <;> simp [V.all1]
theorem all2_true (v : V) : v.all2 (fun _ => true) = true := by
  cases v with
  | agg us => simp only [V.all2, List.all_eq_true]; exact fun x _ => all1_true x
  | fn f c => exact all1_true (.fn f c)
  | _ => rfl
theorem all3_true (v : V) : v.all3 (fun _ => true) = true := by
  cases v with
  | tup us => simp only [V.all3, List.all_eq_true]; exact fun x _ => all2_true x
  | agg us => exact all2_true (.agg us)
  | fn f c => exact all2_true (.fn f c)
  | _ => rfl
theorem R1.world {F' : Nat → Prop} (hF : ∀ k, F k → F' k) (hw : ∀ k, F k → w'.heap[k]? = w.heap[k]?) {u : V} {v : Value} (h : R1 ρ F w u v) : R1 ρ F' w' u v := by
  have := R1.map (p := fun _ => true) (k := fun u => u) (fun u v _ hr => R0.world hF hw hr) (all1_true u) h
  rwa [map1_id] at this
theorem R3.world {F' : Nat → Prop} (hF : ∀ k, F k → F' k) (hw : ∀ k, F k → w'.heap[k]? = w.heap[k]?) {u : V} {v : Value} (h : R3 ρ F w u v) : R3 ρ F' w' u v := by
  have := R3.map (p := fun _ => true) (k := fun u => u) (fun u v _ hr => R0.world hF hw hr) (all3_true u) h
  rwa [map3_id] at this
theorem All2.mono {α β : Type} {R R' : α → β → Prop} : ∀ {as : List α} {bs : List β}, (∀ a b, R a b → R' a b) → All2 R as bs → All2 R' as bs
  | [], [], _, _ => trivial
  | _ :: _, _ :: _, h, ⟨h1, h2⟩ => ⟨h _ _ h1, All2.mono h h2⟩
  | [], _ :: _, _, h => h.elim
  | _ :: _, [], _, h => h.elim
theorem pc_nil (t : Array Value) : pcA t [] := fun e he => by cases he

theorem cells_one {v : Value} (h : v.oneCell' = true) : v.cells = #[v] := by cases v <;> first | rfl | cases h

theorem cellsOf_sound {v : V} {x : Value} {us : List V} {m : Nat} (h : cellsOf v = some us) (hr : R3 ρ F w v x) (hf : v.all3 (fresh m) = true) : All2 (R1 ρ F w) us x.cells.toList ∧ us.all (V.all1 (fresh m)) = true := by
  cases v with
  | agg vs =>
    simp only [cellsOf, Option.some.injEq] at h
    subst h
    obtain ⟨cs, rfl, hc⟩ := (show R2 ρ F w (.agg vs) x from hr)
    exact ⟨by simpa [Value.cells] using hc, hf⟩
  | tup _ => simp [cellsOf] at h
  | g _ _ => simp [cellsOf] at h
  | fn f c =>
    simp only [cellsOf, Option.some.injEq] at h
    subst h
    have h1 : R1 ρ F w (.fn f c) x := hr
    rw [cells_one (R1.one h1)]
    exact ⟨⟨h1, trivial⟩, by simp only [List.all_cons, List.all_nil, Bool.and_true]; exact hf⟩
  | d y =>
    simp only [cellsOf, Option.some.injEq] at h
    subst h
    have h1 : R1 ρ F w (.d y) x := hr
    rw [cells_one (R1.one h1)]
    exact ⟨⟨h1, trivial⟩, by simp only [List.all_cons, List.all_nil, Bool.and_true]; exact hf⟩
  | nils =>
    simp only [cellsOf, Option.some.injEq] at h
    subst h
    have h1 : R1 ρ F w .nils x := hr
    rw [cells_one (R1.one h1)]
    exact ⟨⟨h1, trivial⟩, by simp only [List.all_cons, List.all_nil, Bool.and_true]; exact hf⟩
  | ptr y z =>
    simp only [cellsOf, Option.some.injEq] at h
    subst h
    have h1 : R1 ρ F w (.ptr y z) x := hr
    rw [cells_one (R1.one h1)]
    exact ⟨⟨h1, trivial⟩, by simp only [List.all_cons, List.all_nil, Bool.and_true]; exact hf⟩
  | own y =>
    simp only [cellsOf, Option.some.injEq] at h
    subst h
    have h1 : R1 ρ F w (.own y) x := hr
    rw [cells_one (R1.one h1)]
    exact ⟨⟨h1, trivial⟩, by simp only [List.all_cons, List.all_nil, Bool.and_true]; exact hf⟩
  | vptr y z i j =>
    simp only [cellsOf, Option.some.injEq] at h
    subst h
    have h1 : R1 ρ F w (.vptr y z i j) x := hr
    rw [cells_one (R1.one h1)]
    exact ⟨⟨h1, trivial⟩, by simp only [List.all_cons, List.all_nil, Bool.and_true]; exact hf⟩
  | eptr y =>
    simp only [cellsOf, Option.some.injEq] at h
    subst h
    have h1 : R1 ρ F w (.eptr y) x := hr
    rw [cells_one (R1.one h1)]
    exact ⟨⟨h1, trivial⟩, by simp only [List.all_cons, List.all_nil, Bool.and_true]; exact hf⟩
  | dead =>
    simp only [cellsOf, Option.some.injEq] at h
    subst h
    have h1 : R1 ρ F w .dead x := hr
    rw [cells_one (R1.one h1)]
    exact ⟨⟨h1, trivial⟩, by simp only [List.all_cons, List.all_nil, Bool.and_true]; exact hf⟩

theorem asD_sound {v : V} {d : D} {x : Value} (h : asD v = some d) (hr : R1 ρ F w v x) : RD F w d x := by
  cases v <;> simp only [asD, Option.some.injEq, reduceCtorEq] at h
  · subst h; exact hr
  · subst h; rw [show x = .slice none 0 0 from hr]; exact .emp _ _ _ _

theorem dList_sound : ∀ {us : List V} {ds : List D} {cs : List Value}, dList us = some ds → All2 (R1 ρ F w) us cs → All2 (RD F w) ds cs
  | [], ds, [], h, _ => by simp [dList] at h; subst h; trivial
  | u :: us, ds, c :: cs, h, ⟨h1, h2⟩ => by
    simp only [dList] at h
    split at h
    · simp at h
    · rename_i d hd
      split at h
      · simp at h
      · rename_i ds' hds
        simp only [Option.some.injEq] at h
        subst h
        exact ⟨asD_sound hd h1, dList_sound hds h2⟩
  | [], _, _ :: _, _, h => h.elim
  | _ :: _, _, [], _, h => h.elim

theorem setL_get {α : Type} : ∀ {us cs r : List α} {o : Nat}, setL us o cs = some r → r.length = us.length ∧ o + cs.length ≤ max us.length o ∧ ∀ k, r[k]? = if o ≤ k ∧ k < o + cs.length then cs[k - o]? else us[k]?
  | us, [], r, o, h => by
    have : r = us := by cases us <;> simp [setL] at h <;> simp [h]
    subst this
    exact ⟨rfl, by simp; omega, fun k => by rw [if_neg (by simp only [List.length_nil]; omega)]⟩
  | u :: us, c :: cs, r, 0, h => by
    simp only [setL] at h
    split at h
    · simp at h
    · rename_i r' hr'
      simp only [Option.some.injEq] at h
      subst h
      obtain ⟨h1, h2, h3⟩ := setL_get hr'
      refine ⟨by simp [h1], by simp at h2 ⊢; omega, fun k => ?_⟩
      cases k with
      | zero => simp
      | succ k =>
        simp only [List.getElem?_cons_succ, h3 k, List.length_cons, Nat.zero_le, true_and, Nat.sub_zero]
        by_cases hk : k < cs.length
        · rw [if_pos (by omega), if_pos (by omega)]
        · rw [if_neg (by omega), if_neg (by omega)]
  | u :: us, c :: cs, r, o + 1, h => by
    simp only [setL] at h
    split at h
    · simp at h
    · rename_i r' hr'
      simp only [Option.some.injEq] at h
      subst h
      obtain ⟨h1, h2, h3⟩ := setL_get hr'
      refine ⟨by simp [h1], by simp at h2 ⊢; omega, fun k => ?_⟩
      cases k with
      | zero => simp
      | succ k =>
        simp only [List.getElem?_cons_succ, h3 k]
        by_cases hk : o ≤ k ∧ k < o + (c :: cs).length
        · rw [if_pos hk, if_pos (by omega)]; congr 1; omega
        · rw [if_neg hk, if_neg (by omega)]
  | [], c :: cs, r, o, h => by cases o <;> simp [setL] at h

theorem setL_some {α : Type} : ∀ {us cs : List α} {o : Nat}, o + cs.length ≤ us.length → ∃ r, setL us o cs = some r
  | us, [], o, _ => ⟨us, by cases us <;> rfl⟩
  | u :: us, c :: cs, 0, h => by
    obtain ⟨r, hr⟩ := setL_some (us := us) (cs := cs) (o := 0) (by simp at h ⊢; omega)
    exact ⟨c :: r, by simp [setL, hr]⟩
  | u :: us, c :: cs, o + 1, h => by
    obtain ⟨r, hr⟩ := setL_some (us := us) (cs := c :: cs) (o := o) (by simp at h ⊢; omega)
    exact ⟨u :: r, by simp [setL, hr]⟩
  | [], c :: cs, o, h => by simp at h

theorem setL_len {α : Type} {us cs r : List α} {o : Nat} (h : setL us o cs = some r) (hc : cs ≠ []) : o + cs.length ≤ us.length := by
  have h2 := (setL_get h).2.1
  have : 0 < cs.length := List.length_pos_iff.2 hc
  omega

theorem All2.of_get {α β : Type} {R : α → β → Prop} : ∀ {as : List α} {bs : List β}, as.length = bs.length → (∀ (i : Nat) (a : α) (b : β), as[i]? = some a → bs[i]? = some b → R a b) → All2 R as bs
  | [], [], _, _ => trivial
  | a :: as, b :: bs, h, hr => ⟨hr 0 a b rfl rfl, All2.of_get (by simpa using h) fun i a b ha hb => hr (i + 1) a b (by simpa using ha) (by simpa using hb)⟩
  | [], _ :: _, h, _ => by simp at h
  | _ :: _, [], h, _ => by simp at h

theorem setL_all2 {α β : Type} {R : α → β → Prop} {us cs us' : List α} {xs ys : List β} {o : Nat} (h : setL us o cs = some us') (h1 : All2 R us xs) (h2 : All2 R cs ys) : All2 R us' (xs.take o ++ ys ++ xs.drop (o + ys.length)) := by
  obtain ⟨l1, l2, l3⟩ := setL_get h
  have e1 := h1.length
  have e2 := h2.length
  by_cases hc : cs = []
  · subst hc
    have : us' = us := by cases us <;> simp [setL] at h <;> simp [h]
    subst this
    have : ys = [] := List.eq_nil_of_length_eq_zero (by rw [← e2]; rfl)
    subst this
    simpa using h1
  have hle := setL_len h hc
  refine All2.of_get (by simp [l1]; omega) fun i x y hx hy => ?_
  rw [l3 i] at hx
  rw [List.append_assoc] at hy
  by_cases hi : i < o
  · rw [if_neg (by omega)] at hx
    rw [List.getElem?_append_left (by simp; omega), List.getElem?_take, if_pos hi] at hy
    obtain ⟨b, hb, hr⟩ := h1.get hx
    rw [hb] at hy; exact Option.some.inj hy ▸ hr
  · rw [List.getElem?_append_right (by simp; omega)] at hy
    have et : (xs.take o).length = o := by simp; omega
    rw [et] at hy
    by_cases hi2 : i < o + cs.length
    · rw [if_pos ⟨by omega, hi2⟩] at hx
      rw [List.getElem?_append_left (by omega)] at hy
      obtain ⟨b, hb, hr⟩ := h2.get hx
      rw [hb] at hy; exact Option.some.inj hy ▸ hr
    · rw [if_neg (by omega)] at hx
      rw [List.getElem?_append_right (by omega), List.getElem?_drop] at hy
      rw [show o + ys.length + (i - o - ys.length) = i by omega] at hy
      obtain ⟨b, hb, hr⟩ := h1.get hx
      rw [hb] at hy; exact Option.some.inj hy ▸ hr

theorem all_setL {us cs us' : List V} {o : Nat} {p : V → Bool} (h : setL us o cs = some us') (h1 : us.all p = true) (h2 : cs.all p = true) : us'.all p = true := by
  rw [List.all_eq_true] at *
  intro x hx
  obtain ⟨i, hi⟩ := List.getElem?_of_mem hx
  rw [(setL_get h).2.2 i] at hi
  split at hi
  · exact h2 x (List.mem_of_getElem? hi)
  · exact h1 x (List.mem_of_getElem? hi)

theorem splice_get {α : Type} {xs ys : List α} {o : Nat} (h : o + ys.length ≤ xs.length) (p : Nat) : (xs.take o ++ ys ++ xs.drop (o + ys.length))[p]? = if o ≤ p ∧ p < o + ys.length then ys[p - o]? else xs[p]? := by
  rw [List.append_assoc]
  have et : (xs.take o).length = o := by simp; omega
  by_cases h1 : p < o
  · rw [if_neg (by omega), List.getElem?_append_left (by omega), List.getElem?_take, if_pos h1]
  · rw [List.getElem?_append_right (by omega), et]
    by_cases h2 : p < o + ys.length
    · rw [if_pos ⟨by omega, h2⟩, List.getElem?_append_left (by omega)]
    · rw [if_neg (by omega), List.getElem?_append_right (by omega), List.getElem?_drop]
      congr 1; omega
theorem splice_len {α : Type} {xs ys : List α} {o : Nat} (h : o + ys.length ≤ xs.length) : (xs.take o ++ ys ++ xs.drop (o + ys.length)).length = xs.length := by
  simp only [List.length_append, List.length_take, List.length_drop]; omega
theorem splice_take {α : Type} {xs ys : List α} {o N : Nat} (h : o + ys.length ≤ N) (hN : N ≤ xs.length) : (xs.take o ++ ys ++ xs.drop (o + ys.length)).take N = (xs.take N).take o ++ ys ++ (xs.take N).drop (o + ys.length) := by
  apply List.ext_getElem?
  intro p
  rw [List.getElem?_take, splice_get (by omega), splice_get (by simp; omega), List.getElem?_take]
  by_cases hp : p < N
  · simp [hp]
  · rw [if_neg hp, if_neg (by omega), if_neg hp]

theorem All2.one {us : List V} {cs : List Value} (h : All2 (R1 ρ F w) us cs) : ∀ c ∈ cs, c.oneCell' = true := by
  induction us generalizing cs with
  | nil => cases cs with
    | nil => simp
    | cons _ _ => exact h.elim
  | cons u us ih =>
    cases cs with
    | nil => exact h.elim
    | cons c cs =>
      intro x hx
      rcases List.mem_cons.1 hx with rfl | hx
      · exact R1.one h.1
      · exact ih h.2 x hx

theorem store_run {P : Program} {t : TypeId} {ti : TI} (hti : ti.OK P t) {b o : Nat} {cs : List Value} {T : TypeId} {x : Value} (hx : x.cells.toList.length = ti.size) (h1 : ∀ c ∈ x.cells.toList, c.oneCell' = true)
    (hh : w.heap[b]? = some (.cells cs.toArray T (0, 0))) (hle : o + ti.size ≤ cs.length) :
    (Instr.storeAt t (.pointer (some ⟨b, o, none⟩)) x).run P w = .ok () (w.setRow b (cs.take o ++ x.cells.toList ++ cs.drop (o + x.cells.toList.length)).toArray) := by
  have hsz : x.cells.size = ti.size := by simpa using hx
  have := run_storeCells_at P b o T x.cells.toList 0 cs.toArray w hh (by simpa [hsz] using hle) h1
  simp only [Nat.add_zero] at this
  simp only [Instr.storeAt, Instr.sureAddr, storeVar, Sem.run_bind, Sem.run_pure, Result.andThen, run_sizeOf hti, hsz, ne_eq, not_true_eq_false, if_false]
  exact this

theorem mod_setRow {b : Nat} {cs : Array Value} (h : b < w.heap.size) : Mod (some b) w (w.setRow b cs) :=
  ⟨rfl, rfl, rfl, by simp [World.setRow], fun k _ hk => setRow_other w b k cs (fun e => hk (by rw [e]))⟩

/-- An element of an array or an owned slice is written. -/
theorem elems_put {sz n i o : Nat} {f : Nat → List D} {xs ys : List Value} {ds : List D} (he : Elems F w sz n f xs) (hi : i < n) (ho : o + ds.length ≤ sz) (hd : All2 (RD F w) ds ys) (hxs : n * sz ≤ xs.length) :
    Elems F w sz n (put2 f i o ds) (xs.take (i * sz + o) ++ ys ++ xs.drop (i * sz + o + ys.length)) := by
  have elen := hd.length
  have hisz : i * sz + sz ≤ n * sz := by
    have := Nat.mul_le_mul_right sz (show i + 1 ≤ n by omega)
    rwa [Nat.add_mul, Nat.one_mul] at this
  have hget : ∀ p, (xs.take (i * sz + o) ++ ys ++ xs.drop (i * sz + o + ys.length))[p]? = if i * sz + o ≤ p ∧ p < i * sz + o + ys.length then ys[p - (i * sz + o)]? else xs[p]? := by
    intro p
    rw [List.append_assoc]
    have et : (xs.take (i * sz + o)).length = i * sz + o := by simp; omega
    by_cases h1 : p < i * sz + o
    · rw [if_neg (by omega), List.getElem?_append_left (by omega), List.getElem?_take, if_pos h1]
    · rw [List.getElem?_append_right (by omega), et]
      by_cases h2 : p < i * sz + o + ys.length
      · rw [if_pos ⟨by omega, h2⟩, List.getElem?_append_left (by omega)]
      · rw [if_neg (by omega), List.getElem?_append_right (by omega), List.getElem?_drop]
        congr 1; omega
  intro k hk
  obtain ⟨h1, h2⟩ := he k hk
  obtain ⟨l, hl⟩ := setL_some (us := f k) (cs := ds) (o := o) (by rw [h1]; exact ho)
  have hp : put2 f i o ds k = zipIte (k = i) l (f k) := by simp [put2, hl]
  rw [hp]
  obtain ⟨l1, _, l3⟩ := setL_get hl
  by_cases hki : k = i
  · subst hki
    rw [zipIte_pos rfl]
    refine ⟨l1.trans h1, fun j d hj => ?_⟩
    rw [l3 j] at hj
    rw [hget]
    by_cases hjo : o ≤ j ∧ j < o + ds.length
    · rw [if_pos hjo] at hj
      obtain ⟨c, hc, hr⟩ := hd.get hj
      refine ⟨c, ?_, hr⟩
      rw [if_pos (by omega), ← hc]
      congr 1; omega
    · rw [if_neg hjo] at hj
      obtain ⟨c, hc, hr⟩ := h2 j d hj
      refine ⟨c, ?_, hr⟩
      rw [if_neg (by omega)]; exact hc
  · rw [zipIte_neg hki]
    refine ⟨h1, fun j d hj => ?_⟩
    obtain ⟨c, hc, hr⟩ := h2 j d hj
    refine ⟨c, ?_, hr⟩
    have hj' : j < sz := by
      have := (List.getElem?_eq_some_iff.1 hj).1
      omega
    rw [hget, if_neg ?_]
    · exact hc
    · rintro ⟨p1, p2⟩
      rcases Nat.lt_or_gt_of_ne hki with hlt | hgt
      · have := Nat.mul_le_mul_right sz (show k + 1 ≤ i by omega)
        rw [Nat.add_mul, Nat.one_mul] at this
        omega
      · have := Nat.mul_le_mul_right sz (show i + 1 ≤ k by omega)
        rw [Nat.add_mul, Nat.one_mul] at this
        omega

theorem st_sound (hg : TysOK C.P g.tys) (h : SatW C s a w ρ F) {t : TypeId} {p v : V} {vp x : Value} {ob : List Prop} (he : stE g s t p v = some (s', ob)) (hob : AllP ob) (hp : R3 ρ F w p vp) (hv : R3 ρ F w v x) (hvf : v.all3 (fresh s.m) = true) :
    ∃ w', (Instr.storeAt t vp x).run C.P w = .ok () w' ∧ SatW C s' a w' ρ F := by
  unfold stE at he
  split at he
  · rename_i ti cs hl hcs
    have hti := lk_ok hg hl
    obtain ⟨hall, hfr⟩ := cellsOf_sound hcs hv hvf
    cases hsz : Nat.beq cs.length ti.size with
    | false => rw [hsz] at he; simp at he
    | true =>
      rw [hsz] at he
      simp only [cond_true] at he
      have hsz := Nat.eq_of_beq_eq_true hsz
      have hxl : x.cells.toList.length = ti.size := by rw [← hall.length]; exact hsz
      split at he
      · rename_i id o
        split at he
        · rename_i us hgH
          split at he
          · rename_i us' hset
            obtain ⟨rfl, rfl⟩ := Prod.mk.inj (Option.some.inj he)
            obtain ⟨b, hb, rfl⟩ := (show R0 ρ F w (.ptr id o) vp from hp)
            obtain ⟨b', ys, T, hb', hheap, hus⟩ := h.ch id _ (get_mem hgH)
            rw [hb] at hb'
            simp only [Value.pointer.injEq, Option.some.injEq, Addr.mk.injEq, and_true] at hb'
            subst hb'
            have hblt : b < w.heap.size := (Array.getElem?_eq_some_iff.1 hheap).1
            by_cases hc0 : cs = []
            · subst hc0
              have hle : ti.size = 0 := by rw [← hsz]; rfl
              have hx0 : x.cells.toList = [] := List.eq_nil_of_length_eq_zero (by rw [hxl, hle])
              refine ⟨w, ?_, ?_⟩
              · have hs0 : x.cells.size = 0 := by simpa [hle] using hxl
                simp [Instr.storeAt, Instr.sureAddr, storeVar, run_sizeOf hti, hs0, hle, hx0, storeCells]
              · have : us' = us := by cases us <;> simp [setL] at hset <;> simp [hset]
                subst this
                exact h.touch (get_mem hgH) ⟨rfl, rfl, rfl, Nat.le_refl _, fun _ _ _ => rfl⟩ ⟨b, ys, T, hb, hheap, hus⟩ (h.freshH _ _ (get_mem hgH)).2
            · have hle := setL_len hset hc0
              refine ⟨_, store_run hti hxl hall.one hheap (by rw [← hus.length, ← hsz]; exact hle), ?_⟩
              have hm : Mod (blk (ρ id)) w (w.setRow b (ys.take o ++ x.cells.toList ++ ys.drop (o + x.cells.toList.length)).toArray) := by rw [hb]; exact mod_setRow hblt
              have hwF : ∀ k, F k → (w.setRow b (ys.take o ++ x.cells.toList ++ ys.drop (o + x.cells.toList.length)).toArray).heap[k]? = w.heap[k]? := fun k hk => hm.block k (h.lt k hk) (fun e => h.out id _ k (get_mem hgH) e.symm hk)
              refine h.touch (get_mem hgH) hm ⟨b, _, T, hb, setRow_heap w b _ _ T (0, 0) hheap, ?_⟩ ?_
              · simpa using (setL_all2 hset hus hall).mono fun u v hr => hr.world (fun _ => _root_.id) hwF
              · exact all_setL hset (h.freshH _ _ (get_mem hgH)).2 hfr
          · simp at he
        · simp at he
      · rename_i id sz i o
        split at he
        · rename_i e sz' n f ds hgH hds
          cases hz : Nat.beq sz sz' with
          | false => rw [hz] at he; simp at he
          | true =>
            rw [hz] at he
            simp only [cond_true] at he
            have := Nat.eq_of_beq_eq_true hz
            subst this
            obtain ⟨rfl, rfl⟩ := Prod.mk.inj (Option.some.inj he)
            obtain ⟨hi, ho⟩ := hob
            obtain ⟨b, hb, rfl⟩ := (show R0 ρ F w (.vptr id sz i o) vp from hp)
            obtain ⟨xs, hown, hel⟩ := h.ch id _ (get_mem hgH)
            have hd := dList_sound hds hall
            have hdl : ds.length = ti.size := by rw [hd.length]; exact hxl
            have hisz : i * sz + sz ≤ n * sz := by
              have := Nat.mul_le_mul_right sz (show i + 1 ≤ n by omega)
              rwa [Nat.add_mul, Nat.one_mul] at this
            rcases hown.2 with ⟨h1, h2⟩ | ⟨b', cap, cur, h1, h2, hheap, hnc, hcm, hcs, htk⟩
            · omega
            · have hbb : b' = b := by rw [h1] at hb; simpa [blk] using hb
              subst hbb
              have hcl : cur.toList.length = cur.size := Array.length_toList
              have hncs : n * sz ≤ cur.size := by rw [hcs]; exact Nat.mul_le_mul_right _ hnc
              have hheap' : w.heap[b']? = some (.cells cur.toList.toArray e (0, 0)) := by simpa using hheap
              refine ⟨_, store_run hti hxl hall.one hheap' (by simp only [Array.length_toList]; omega), ?_⟩
              have hm : Mod (blk (ρ id)) w (w.setRow b' (cur.toList.take (i * sz + o) ++ x.cells.toList ++ cur.toList.drop (i * sz + o + x.cells.toList.length)).toArray) := by
                rw [h1]; exact mod_setRow (Array.getElem?_eq_some_iff.1 hheap).1
              have hwF : ∀ k, F k → (w.setRow b' (cur.toList.take (i * sz + o) ++ x.cells.toList ++ cur.toList.drop (i * sz + o + x.cells.toList.length)).toArray).heap[k]? = w.heap[k]? := fun k hk => hm.block k (h.lt k hk) (fun e => h.out id _ k (get_mem hgH) e.symm hk)
              refine h.touch (get_mem hgH) hm ⟨xs.take (i * sz + o) ++ x.cells.toList ++ xs.drop (i * sz + o + x.cells.toList.length), ⟨?_, .inr ⟨b', cap, _, h1, h2, setRow_heap w b' _ _ e (0, 0) hheap, hnc, hcm, ?_, ?_⟩⟩, ?_⟩ rfl
              · rw [splice_len (by rw [hown.1]; omega)]; exact hown.1
              · rw [List.size_toArray, splice_len (by omega), hcl]; exact hcs
              · rw [← htk, List.toList_toArray]
                exact splice_take (by omega) (by omega)
              · exact elems_put (hel.keep (fun _ => _root_.id) hwF) hi ho (hd.mono fun d v hr => RD.mono (fun _ => _root_.id) hwF hr) (by rw [hown.1]; exact Nat.le_refl _)
        · rename_i sz' n f ds hgH hds
          cases hz : Nat.beq sz sz' with
          | false => rw [hz] at he; simp at he
          | true =>
            rw [hz] at he
            simp only [cond_true] at he
            have := Nat.eq_of_beq_eq_true hz
            subst this
            obtain ⟨rfl, rfl⟩ := Prod.mk.inj (Option.some.inj he)
            obtain ⟨hi, ho⟩ := hob
            obtain ⟨b, hb, rfl⟩ := (show R0 ρ F w (.vptr id sz i o) vp from hp)
            obtain ⟨b', xs, T, h1, hheap, hlen, hel⟩ := h.ch id _ (get_mem hgH)
            have hd := dList_sound hds hall
            have hdl : ds.length = ti.size := by rw [hd.length]; exact hxl
            have hisz : i * sz + sz ≤ n * sz := by
              have := Nat.mul_le_mul_right sz (show i + 1 ≤ n by omega)
              rwa [Nat.add_mul, Nat.one_mul] at this
            have hbb : b' = b := by rw [h1] at hb; simpa [blk] using hb
            subst hbb
            refine ⟨_, store_run hti hxl hall.one hheap (by omega), ?_⟩
            have hm : Mod (blk (ρ id)) w (w.setRow b' (xs.take (i * sz + o) ++ x.cells.toList ++ xs.drop (i * sz + o + x.cells.toList.length)).toArray) := by
              rw [h1]; exact mod_setRow (Array.getElem?_eq_some_iff.1 hheap).1
            have hwF : ∀ k, F k → (w.setRow b' (xs.take (i * sz + o) ++ x.cells.toList ++ xs.drop (i * sz + o + x.cells.toList.length)).toArray).heap[k]? = w.heap[k]? := fun k hk => hm.block k (h.lt k hk) (fun e => h.out id _ k (get_mem hgH) e.symm hk)
            refine h.touch (get_mem hgH) hm ⟨b', _, T, h1, setRow_heap w b' _ _ T (0, 0) hheap, ?_, ?_⟩ rfl
            · rw [splice_len (by rw [hlen]; omega)]; exact hlen
            · exact elems_put (hel.keep (fun _ => _root_.id) hwF) hi ho (hd.mono fun d v hr => RD.mono (fun _ => _root_.id) hwF hr) (by rw [hlen]; exact Nat.le_refl _)
        · simp at he
      · simp at he
  · simp at he
end
end Go.Sx
