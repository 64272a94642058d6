/-
  Sx, part 12: slices made, appended to; ALL OPERATIONS THAT TURN MEMORY.
-/
import Derived.Test.YtdgopbgckdnncaaSx11
set_option linter.unusedVariables false
set_option linter.unusedSimpArgs false
namespace Go.Sx
section
variable {C : Ctx} {s s' : St} {a : Act} {w w' : World} {ρ : Nat → Value} {F : Nat → Prop} {g : Cfg}

theorem seg_get (off : Nat) : ∀ (l : List Value) (k : Nat) (cs : Array Value), off + k + l.length ≤ cs.size →
    ((l.zipIdx k).foldl (fun (cs : Array Value) (p : Value × Nat) => cs.setIfInBounds (off + p.2) p.1) cs).size = cs.size ∧
    ∀ p, ((l.zipIdx k).foldl (fun (cs : Array Value) (p : Value × Nat) => cs.setIfInBounds (off + p.2) p.1) cs)[p]? = if off + k ≤ p ∧ p < off + k + l.length then l[p - (off + k)]? else cs[p]?
  | [], k, cs, h => by
    refine ⟨rfl, fun p => ?_⟩
    rw [if_neg (by simp only [List.length_nil]; omega)]
    rfl
  | c :: l, k, cs, h => by
    obtain ⟨h1, h2⟩ := seg_get off l (k + 1) (cs.setIfInBounds (off + k) c) (by simp at h ⊢; omega)
    simp only [List.zipIdx_cons, List.foldl_cons]
    refine ⟨by rw [h1]; simp, fun p => ?_⟩
    rw [h2 p]
    by_cases hp : p = off + k
    · subst hp
      rw [if_neg (by omega), if_pos (by simp)]
      have : off + k < cs.size := by simp at h; omega
      simp [this]
    · by_cases hp2 : off + k ≤ p ∧ p < off + k + (c :: l).length
      · rw [if_pos hp2, if_pos (by simp at hp2 ⊢; omega)]
        obtain ⟨q, hq⟩ : ∃ q, p - (off + k) = q + 1 := ⟨p - (off + k) - 1, by omega⟩
        rw [hq, List.getElem?_cons_succ]
        congr 1; omega
      · rw [if_neg hp2, if_neg (by simp at hp2 ⊢; omega)]
        rw [Array.getElem?_setIfInBounds, if_neg (by omega)]

/-- Rows of data in an array of cells. -/
def Rows (F : Nat → Prop) (w : World) (sz : Nat) (xs : List (List D)) (cells : Array Value) : Prop :=
  cells.size = xs.length * sz ∧ ∀ i ds, xs[i]? = some ds → ds.length = sz ∧ ∀ j d, ds[j]? = some d → ∃ c, cells[i * sz + j]? = some c ∧ RD F w d c

theorem fill_sound {sz : Nat} : ∀ {qs : List (Nat × List D)} {pv : List (Nat × Value)} {xs xs' : List (List D)} {cells : Array Value}, fillD sz xs qs = some xs' →
    All2 (fun (p : Nat × List D) (q : Nat × Value) => p.1 = q.1 ∧ All2 (RD F w) p.2 q.2.cells.toList) qs pv → Rows F w sz xs cells →
    ∃ cells', Instr.fill (fun i => some (i * sz, sz)) cells pv = some cells' ∧ Rows F w sz xs' cells' ∧ xs'.length = xs.length
  | [], [], xs, xs', cells, h, _, hr => by simp [fillD] at h; subst h; exact ⟨cells, rfl, hr, rfl⟩
  | (i, ds) :: qs, (i', v) :: pv, xs, xs', cells, h, ⟨⟨h1, h2⟩, h3⟩, hr => by
    simp only at h1 h2
    subst h1
    simp only [fillD] at h
    cases hc : (Nat.beq ds.length sz && Nat.blt i xs.length) with
    | false => rw [hc] at h; simp at h
    | true =>
      rw [hc] at h
      simp only [cond_true] at h
      simp only [Bool.and_eq_true] at hc
      have hds := Nat.eq_of_beq_eq_true hc.1
      have hi : i < xs.length := by simpa using hc.2
      have hvs : v.cells.size = sz := by have := h2.length; rw [hds] at this; simpa using this.symm
      have hle : i * sz + sz ≤ cells.size := by
        rw [hr.1]
        have := Nat.mul_le_mul_right sz (show i + 1 ≤ xs.length by omega)
        rwa [Nat.add_mul, Nat.one_mul] at this
      obtain ⟨g1, g2⟩ := seg_get (i * sz) v.cells.toList 0 cells (by simp only [Array.length_toList]; omega)
      simp only [Nat.add_zero, Array.length_toList, hvs] at g1 g2
      have hfold : v.cells.zipIdx.foldl (fun cs (c, j) => cs.setIfInBounds (i * sz + j) c) cells = (v.cells.toList.zipIdx 0).foldl (fun (cs : Array Value) (p : Value × Nat) => cs.setIfInBounds (i * sz + p.2) p.1) cells := by
        rw [← Array.foldl_toList, Array.toList_zipIdx]
      have hr' : Rows F w sz (xs.set i ds) (v.cells.zipIdx.foldl (fun cs (c, j) => cs.setIfInBounds (i * sz + j) c) cells) := by
        rw [hfold]
        refine ⟨by rw [g1, hr.1]; simp, fun k es hk => ?_⟩
        rw [List.getElem?_set] at hk
        by_cases hki : i = k
        · subst hki
          simp only [if_true, hi] at hk
          simp only [Option.some.injEq] at hk
          subst hk
          refine ⟨hds, fun j d hj => ?_⟩
          obtain ⟨c, hc1, hc2⟩ := h2.get hj
          have hj' : j < sz := by rw [← hds]; exact (List.getElem?_eq_some_iff.1 hj).1
          refine ⟨c, ?_, hc2⟩
          rw [g2, if_pos ⟨by omega, by omega⟩, ← hc1]
          congr 1; omega
        · rw [if_neg hki] at hk
          obtain ⟨k1, k2⟩ := hr.2 k es hk
          refine ⟨k1, fun j d hj => ?_⟩
          obtain ⟨c, hc1, hc2⟩ := k2 j d hj
          have hj' : j < sz := by rw [← k1]; exact (List.getElem?_eq_some_iff.1 hj).1
          refine ⟨c, ?_, hc2⟩
          rw [g2, if_neg ?_]
          · exact hc1
          · rintro ⟨p1, p2⟩
            rcases Nat.lt_or_gt_of_ne hki with hlt | hgt
            · have := Nat.mul_le_mul_right sz (show i + 1 ≤ k by omega)
              rw [Nat.add_mul, Nat.one_mul] at this
              omega
            · have := Nat.mul_le_mul_right sz (show k + 1 ≤ i by omega)
              rw [Nat.add_mul, Nat.one_mul] at this
              omega
      obtain ⟨c', e1, e2, e3⟩ := fill_sound h h3 hr'
      refine ⟨c', ?_, e2, by rw [e3]; simp⟩
      simp only [Instr.fill, hvs]
      rw [if_neg (by simp; omega)]
      exact e1
  | [], _ :: _, _, _, _, _, h, _ => h.elim
  | _ :: _, [], _, _, _, _, h, _ => h.elim

theorem evp_sound (h : SatW C s a w ρ F) : ∀ {ps : List (Nat × Operand)} {qs : List (Nat × List D)}, evp s.L ps = some qs →
    All2 (fun (p : Nat × List D) (q : Nat × Value) => p.1 = q.1 ∧ All2 (RD F w) p.2 q.2.cells.toList) qs (ps.map fun (i, x) => (i, a.eval x))
  | [], qs, he => by simp [evp] at he; subst he; trivial
  | (i, x) :: ps, qs, he => by
    simp only [evp] at he
    split at he
    · simp at he
    · rename_i v hv
      split at he
      · simp at he
      · rename_i us hus
        split at he
        · simp at he
        · rename_i ds hds
          split at he
          · simp at he
          · rename_i q hq
            simp only [Option.some.injEq] at he
            subst he
            obtain ⟨h1, h2⟩ := ev_sound h (pc_nil _) hv
            exact ⟨⟨rfl, dList_sound hds (cellsOf_sound hus h1 h2).1⟩, evp_sound h hq⟩

theorem tab_get (xs : List (List D)) {i : Nat} (hi : i < xs.length) : xs[i]? = some (tab xs i) := by
  unfold tab
  split
  · rename_i x; simp at hi; subst hi; rfl
  · simp [List.getElem?_eq_getElem hi]

theorem rows_elems {sz : Nat} {xs : List (List D)} {cells : Array Value} (h : Rows F w sz xs cells) : Elems F w sz xs.length (tab xs) cells.toList := by
  intro i hi
  obtain ⟨h1, h2⟩ := h.2 i _ (tab_get xs hi)
  exact ⟨h1, fun j d hj => let ⟨c, e1, e2⟩ := h2 j d hj; ⟨c, by simpa using e1, e2⟩⟩

theorem sliceE_sound {P : Program} (hg : TysOK P g.tys) {t e : TypeId} {te : TI} (h : sliceE g t = some (e, te)) : P.underlying t = some (.slice e) ∧ te.OK P e ∧ ∀ w, ∃ z, (zeroValue e).run P w = .ok z w ∧ z.cells.size = te.size ∧ All2 litV te.zero z.cells.toList := by
  unfold sliceE at h
  split at h
  · rename_i ti hl
    split at h
    · rename_i e' hk
      split at h
      · rename_i te' hte
        split at h
        · simp at h
        · rename_i hna
          simp only [Option.some.injEq, Prod.mk.injEq] at h
          obtain ⟨rfl, rfl⟩ := h
          have := (lk_ok hg hl).und
          rw [hk] at this
          refine ⟨this, lk_ok hg hte, fun w => ?_⟩
          obtain ⟨z, hz1, hz2, hz3⟩ := zero_run (lk_ok hg hte) w
          refine ⟨z, hz1, hz2, ?_⟩
          revert hz3
          split
          · rename_i n e' hk2; exact (hna n e' hk2).elim
          · exact _root_.id
      · simp at h
    · simp at h
  · simp at h

/-- A new row of cells, owned. -/
theorem SatW.row (h : SatW C s a w ρ F) {d : Nat} (hd : d < C.n) (hm : Mod none w w') {x : Value} {e : TypeId} {sz n : Nat} {f : Nat → List D} {xs : List Value} (hb : ∀ b, blk x = some b → w.heap.size ≤ b)
    (hx : ∃ ad l c, x = .slice ad l c) (hown : w'.ownsRow 0 e sz x n xs) (hel : Elems F w' sz n f xs) : Sat C (newCh s d (.own s.m) (.vec e sz n f)) (a.put (some d) x) w' :=
  h.make hd hm hb (c := .vec e sz n f) ⟨xs, by rw [upd_same]; exact hown, hel⟩ rfl (v := .own s.m) ⟨(upd_same ρ s.m x).symm, by rw [upd_same]; exact hx⟩ (by show Nat.blt s.m (s.m + 1) = true; simp)

theorem zeros_rows {zs : List D} {z : Array Value} {sz n : Nat} (hz : All2 (RD F w) zs z.toList) (hsz : z.size = sz) (cells : Array Value) (hc : cells.size = n * sz) (hcell : ∀ k, k < n * sz → cells[k]? = z[k % sz]?) : Rows F w sz (List.replicate n zs) cells := by
  have hl : zs.length = sz := by rw [hz.length]; simpa using hsz
  refine ⟨by simpa using hc, fun i ds hi => ?_⟩
  rw [List.getElem?_replicate] at hi
  split at hi
  · rename_i hin
    simp only [Option.some.injEq] at hi
    subst hi
    refine ⟨hl, fun j d hj => ?_⟩
    have hj' : j < sz := by rw [← hl]; exact (List.getElem?_eq_some_iff.1 hj).1
    obtain ⟨c, h1, h2⟩ := hz.get hj
    refine ⟨c, ?_, h2⟩
    have hlt : i * sz + j < n * sz := by
      have := Nat.mul_le_mul_right sz (show i + 1 ≤ n by omega)
      rw [Nat.add_mul, Nat.one_mul] at this
      omega
    rw [hcell _ hlt, Nat.mul_comm, Nat.mul_add_mod, Nat.mod_eq_of_lt hj', ← h1]
    simp
  · simp at hi

theorem bs_sound (hg : TysOK C.P g.tys) (h : SatW C s a w ρ F) {d : Nat} (hd : d < C.n) {t : TypeId} {e : TypeId} {te : TI} (hs : sliceE g t = some (e, te)) {len : Nat} {ps : Array (Nat × Operand)} {qs : List (Nat × List D)} (hq : evp s.L ps.toList = some qs)
    {zs : List D} (hzs : dList te.zero = some zs) {xs : List (List D)} (hf : fillD te.size (List.replicate len zs) qs = some xs) (hbig : len * te.size ≤ 16777216) (hlen : len ≤ 16777216) (hzl : zs.length = te.size) :
    ∃ x w', (Instr.buildSlice t len (ps.map fun (i, x) => (i, a.eval x))).run C.P w = .ok x w' ∧ Sat C (newCh s d (.own s.m) (.vec e te.size len (tab xs))) (a.put (some d) x) w' := by
  obtain ⟨hu, hte, hz⟩ := sliceE_sound hg hs
  obtain ⟨z, hz1, hz2, hz3⟩ := hz w
  have hz4 : All2 (RD F w) zs z.cells.toList := dList_lit hzs hz3
  obtain ⟨zero, hzero, hrows⟩ : ∃ zero : Array Value, ((len * te.size = 0 → zero = #[]) ∧ (¬ len * te.size = 0 → zero = z.cells)) ∧ Rows F w te.size (List.replicate len zs) ((Array.range (len * te.size)).map (zero[· % zero.size]!)) := by
    by_cases h0 : len * te.size = 0
    · refine ⟨#[], ⟨fun _ => rfl, fun h => (h h0).elim⟩, by simp [h0], fun i ds hi => ?_⟩
      rw [List.getElem?_replicate] at hi
      split at hi
      · rename_i hin
        simp only [Option.some.injEq] at hi
        subst hi
        refine ⟨hzl, fun j d hj => ?_⟩
        have := (List.getElem?_eq_some_iff.1 hj).1
        rcases Nat.mul_eq_zero.1 h0 with h0 | h0 <;> omega
      · simp at hi
    · refine ⟨z.cells, ⟨fun h => (h0 h).elim, fun _ => rfl⟩, zeros_rows hz4 hz2 _ (by simp) (fun k hk => ?_)⟩
      have hpos : 0 < te.size := Nat.pos_of_ne_zero fun e => h0 (by rw [e]; rfl)
      have hlt : k % te.size < z.cells.size := by rw [hz2]; exact Nat.mod_lt _ hpos
      rw [Array.getElem?_map, Array.getElem?_range, if_pos hk, getElem?_pos z.cells _ hlt]
      simp only [Option.map_some, hz2]
      rw [getElem!_pos z.cells _ hlt]
  obtain ⟨cells', hf1, hf2, hf3⟩ := fill_sound hf (evp_sound h hq) hrows
  have hxl : xs.length = len := by rw [hf3]; simp
  have hnb : ¬ len * te.size > 2 ^ 24 := by omega
  refine ⟨.slice (some ⟨w.heap.size, 0, none⟩) len len, w.alloc (.cells cells' e), ?_, ?_⟩
  · simp only [Instr.buildSlice, Sem.run_bind, run_und hu, Result.andThen, run_sizeOf hte, hnb, if_false]
    by_cases h0 : len * te.size = 0
    · obtain rfl := hzero.1 h0
      simp only [h0, if_true, Sem.run_bind, Sem.run_pure, Result.andThen]
      rw [h0] at hf1
      simp only [Array.toList_map, hf1]
      simp [newRow, newObj, Sem.run]
    · obtain rfl := hzero.2 h0
      simp only [h0, if_false, Sem.run_bind, hz1, Sem.run_pure, Result.andThen]
      simp only [Array.toList_map, hf1]
      simp [newRow, newObj, Sem.run]
  · subst hxl
    refine h.row hd (Mod.alloc _ _) (fun b hb => by simp [blk] at hb; omega) ⟨_, _, _, rfl⟩ (World.ownsRow_lit w cells' xs.length (Nat.zero_le _) (by simp only [maxLen]; omega) hf2.1) ?_
    exact (rows_elems hf2).keep (fun _ => _root_.id) (fun k hk => (Mod.alloc w _).block k (h.lt k hk) (by simp))

theorem mk_sound (hg : TysOK C.P g.tys) (h : SatW C s a w ρ F) {d : Nat} (hd : d < C.n) {t : TypeId} {e : TypeId} {te : TI} (hs : sliceE g t = some (e, te)) {zs : List D} (hzs : dList te.zero = some zs) (hzl : zs.length = te.size) {kl kc : IntKind} {l c : Int}
    (h0 : 0 ≤ l) (h1 : l ≤ c) (h2 : c.toNat * te.bytes ≤ big) (h3 : c.toNat ≤ big) :
    ∃ x w', (Instr.makeSlice t (.int kl l) (.int kc c)).run C.P w = .ok x w' ∧ Sat C (newCh s d (.own s.m) (.vec e te.size l.toNat fun _ => zs)) (a.put (some d) x) w' := by
  obtain ⟨hu, hte, hz⟩ := sliceE_sound hg hs
  obtain ⟨z, hz1, hz2, hz3⟩ := hz w
  obtain ⟨i, z', i1, i2, i3, i4, i5, i6⟩ := hte.info
  have hzz : z' = z := by
    have : (zeroValue e).run C.P w = .ok z' w := by simp [zeroValue, typeInfo, i1, i4]
    rw [this] at hz1
    simpa using hz1
  subst hzz
  unfold big at h2 h3
  have hb : (i.bytes : Int) * c ≤ 281474976710656 := by
    rw [i3]
    have e1 : c = ((c.toNat : Nat) : Int) := by omega
    rw [e1, Int.mul_comm]
    have : ((c.toNat * te.bytes : Nat) : Int) ≤ 281474976710656 := by omega
    rw [Int.natCast_mul] at this
    exact this
  have hr := run_make (P := C.P) w t e i z' hu i1 i4 kl kc l c h0 h1 hb (by omega)
  refine ⟨_, _, hr, ?_⟩
  have hmc : ∀ k, k < c.toNat * te.size → (madeCells z'.cells (c.toNat * te.size))[k]? = z'.cells[k % te.size]? := by
    intro k hk
    have hpos : 0 < te.size := by
      rcases Nat.eq_zero_or_pos te.size with e0 | hp
      · rw [e0] at hk; omega
      · exact hp
    have hlt : k % te.size < z'.cells.size := by rw [i5]; exact Nat.mod_lt _ hpos
    simp only [madeCells]
    rw [Array.getElem?_map, Array.getElem?_range, if_pos hk, getElem?_pos z'.cells _ hlt]
    simp only [Option.map_some, i5]
    rw [getElem!_pos z'.cells _ hlt]
  have hsize : (madeCells z'.cells (c.toNat * te.size)).size = c.toNat * te.size := by
    simp [madeCells]
  have hz4 : All2 (RD F w) zs z'.cells.toList := dList_lit hzs hz3
  have hrows := zeros_rows (n := c.toNat) hz4 i5 (madeCells z'.cells (c.toNat * te.size)) hsize hmc
  rw [i2]
  have hle : l.toNat ≤ c.toNat := by omega
  have hle2 : l.toNat * te.size ≤ c.toNat * te.size := Nat.mul_le_mul_right _ hle
  refine h.row (xs := ((madeCells z'.cells (c.toNat * te.size)).toList.take (l.toNat * te.size))) hd (Mod.alloc _ _) (fun b hb => by simp [blk] at hb; omega) ⟨_, _, _, rfl⟩ ⟨?_, .inr ⟨w.heap.size, c.toNat, _, rfl, Nat.zero_le _, heap_alloc_new w _, hle, by simp only [maxLen]; omega, hsize, rfl⟩⟩ ?_
  · rw [List.length_take, Array.length_toList, hsize]; omega
  · intro k hk
    have hk2 : (List.replicate c.toNat zs)[k]? = some zs := by rw [List.getElem?_replicate, if_pos (by omega)]
    obtain ⟨r1, r2⟩ := hrows.2 k zs hk2
    refine ⟨r1, fun j dd hj => ?_⟩
    obtain ⟨cc, c1, c2⟩ := r2 j dd hj
    have hj' : j < te.size := by rw [← r1]; exact (List.getElem?_eq_some_iff.1 hj).1
    refine ⟨cc, ?_, RD.mono (fun _ => _root_.id) (fun k hk => (Mod.alloc w _).block k (h.lt k hk) (by simp)) c2⟩
    have hlt : k * te.size + j < l.toNat * te.size := by
      have := Nat.mul_le_mul_right te.size (show k + 1 ≤ l.toNat by omega)
      rw [Nat.add_mul, Nat.one_mul] at this
      omega
    rw [List.getElem?_take, if_pos hlt]
    simpa using c1

theorem mk_rows (hg : TysOK C.P g.tys) (h : SatW C s a w ρ F) {d : Nat} (hd : d < C.n) {t : TypeId} {e e' : TypeId} {te : TI} (sz : Nat) (hs : sliceE g t = some (e, te)) (hsl : isSl te = some e') (hzl : te.size = 1) {kl kc : IntKind} {l c : Int}
    (h0 : 0 ≤ l) (h1 : l ≤ c) (h2 : c.toNat * te.bytes ≤ big) (h3 : c.toNat ≤ big) :
    ∃ x w', (Instr.makeSlice t (.int kl l) (.int kc c)).run C.P w = .ok x w' ∧ Sat C (newCh s d (.own s.m) (.rows e e' sz l.toNat none (fun _ => .slice none 0 0) (fun _ => 0) fun _ _ => [])) (a.put (some d) x) w' := by
  obtain ⟨hu, hte, hz⟩ := sliceE_sound hg hs
  obtain ⟨z, hz1, hz2, hz3⟩ := hz w
  obtain ⟨i, z', i1, i2, i3, i4, i5, i6⟩ := hte.info
  have hzz : z' = z := by
    have : (zeroValue e).run C.P w = .ok z' w := by simp [zeroValue, typeInfo, i1, i4]
    rw [this] at hz1
    simpa using hz1
  subst hzz
  unfold big at h2 h3
  have hb : (i.bytes : Int) * c ≤ 281474976710656 := by
    rw [i3]
    have e1 : c = ((c.toNat : Nat) : Int) := by omega
    rw [e1, Int.mul_comm]
    have : ((c.toNat * te.bytes : Nat) : Int) ≤ 281474976710656 := by omega
    rw [Int.natCast_mul] at this
    exact this
  have hr := run_make (P := C.P) w t e i z' hu i1 i4 kl kc l c h0 h1 hb (by omega)
  refine ⟨_, _, hr, ?_⟩
  have hnil : z'.cells.toList = [.slice none 0 0] := by
    unfold isSl at hsl
    split at hsl
    · rename_i hk0 hz0
      rw [hk0, hz0] at i6
      match hcs : z'.cells.toList, i6 with
      | [x], i6 => rw [show x = _ from i6.1]
      | [], i6 => exact i6.elim
      | _ :: _ :: _, i6 => exact i6.2.elim
    · cases hsl
  have hcell : ∀ k, k < c.toNat * te.size → (madeCells z'.cells (c.toNat * te.size))[k]? = some (.slice none 0 0) := by
    intro k hk
    simp only [madeCells]
    rw [Array.getElem?_map, Array.getElem?_range, if_pos hk]
    have h0c : z'.cells = #[.slice none 0 0] := by rw [← Array.toArray_toList (xs := z'.cells), hnil]
    simp only [Option.map_some, h0c]
    simp [Nat.mod_one]
  have hsize : (madeCells z'.cells (c.toNat * te.size)).size = c.toNat * te.size := by
    simp [madeCells]
  rw [i2]
  have hle : l.toNat ≤ c.toNat := by omega
  have hle2 : l.toNat * te.size ≤ c.toNat * te.size := Nat.mul_le_mul_right _ hle
  have hbk : ∀ b, blk (.slice (some ⟨w.heap.size, 0, none⟩) l.toNat c.toNat) = some b → w.heap.size ≤ b := fun b hb => by simp [blk] at hb; omega
  refine h.make hd (Mod.alloc _ _) hbk (c := .rows e e' sz l.toNat none (fun _ => .slice none 0 0) (fun _ => 0) fun _ _ => []) ⟨((madeCells z'.cells (c.toNat * te.size)).toList.take (l.toNat * te.size)), ?_, fun i hi _ => ⟨?_, [], ⟨by simp, .inl ⟨rfl, rfl⟩⟩, fun k hk => absurd hk (Nat.not_lt_zero _)⟩, fun i b _ _ hb => by simp [blk] at hb, fun i j b _ _ _ _ _ hb => by simp [blk] at hb⟩ rfl (v := .own s.m) ⟨(upd_same ρ s.m _).symm, by rw [upd_same]; exact ⟨_, _, _, rfl⟩⟩ (by show Nat.blt s.m (s.m + 1) = true; simp) ?_
  · rw [upd_same]
    refine ⟨?_, .inr ⟨w.heap.size, c.toNat, _, rfl, Nat.zero_le _, heap_alloc_new w _, hle, by simp only [maxLen]; omega, by rw [hsize, hzl], by rw [hzl]⟩⟩
    rw [List.length_take, Array.length_toList, hsize, hzl]; omega
  · rw [List.getElem?_take, if_pos (by rw [hzl]; omega)]
    have := hcell i (by rw [hzl]; omega)
    simpa using this
  · intro b hb
    rcases hb with hb | ⟨k, _, _, hb⟩
    · exact hb
    · simp [blk] at hb
end
end Go.Sx
