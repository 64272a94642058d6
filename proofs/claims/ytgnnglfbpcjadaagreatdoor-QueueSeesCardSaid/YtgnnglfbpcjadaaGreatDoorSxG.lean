/- Texts put together: Sx40, Sx41, Sx42, Sx43, Sx44, Sx45, Sx46, Sx47, Sx48. -/
import Derived.Test.YtgnnglfbpcjadaaGreatDoorSxF
import Derived.Recover
import Derived.Shelf.Strings.Builder1
import Derived.Shelf.Strings.OnBuilder

/-
  Sx, part 40: a table is asked, and the run goes on in each case.
-/
set_option linter.unusedVariables false
set_option linter.unusedSimpArgs false
namespace Go.Sx

/-- The zero value of a type. -/
def zeroV (te : TI) : Option V :=
  match te.kind with
  | .struct _ _ => some (.agg te.zero)
  | .array _ _ => none
  | _ => match te.zero with
    | [z] => some z
    | _ => none
def lookInfo (g : Cfg) (s : St) (o : Oper) : Option (Nat × List (Key × V) × Key × V × Bool) :=
  match o.guard, o.dst, o.op with
  | none, some d, .lookup t m k c => match ev s.L [] m, ev s.L [] k, lk g t with
    | some (.own id), some kv, some ti => match ti.kind, get s.H id with
      | .map kt et, some (.tbl es) => match lk g kt, lk g et with
        | some tk, some te => match keyOf tk.kind kv, zeroV te with
          | some key, some z => bif keysOK key es && Nat.blt d g.n then some (d, es, key, z, c) else none
          | _, _ => none
        | _, _ => none
      | _, _ => none
    | _, _, _ => none
  | _, _, _ => none

/-- Each case: the keys one by one, and none of them. -/
def lkGoals (k : Key) (G : V → Bool → Prop) (z : V) : List (Key × V) → Prop
  | [] => G z false
  | (a, v) :: r => (keyEq k a → G v true) ∧ (¬ keyEq k a → lkGoals k G z r)
theorem lkGoals_at {k : Key} {G : V → Bool → Prop} {z : V} : ∀ {es : List (Key × V)}, lkGoals k G z es → G ((tblAt k es).getD z) (tblAt k es).isSome
  | [], h => h
  | (a, v) :: r, h => by
    unfold tblAt
    by_cases hk : keyEq k a
    · rw [if_pos hk]; exact h.1 hk
    · rw [if_neg hk]; exact lkGoals_at (h.2 hk)
theorem zeroV_sound {P : Program} {t : TypeId} {te : TI} {z : V} (h : zeroV te = some z) (hti : te.OK P t) (ρ : Nat → Value) (F : Nat → Prop) (w : World) (m : Nat) : ∃ zv, (zeroValue t).run P w = .ok zv w ∧ R2 ρ F w z zv ∧ z.all2 (fresh m) = true := by
  obtain ⟨zv, z1, z2, z3⟩ := zero_run7 hti w
  have hinfo : ∃ i, P.info? t = some i ∧ i.zero = some zv := by
    obtain ⟨i, zz, i1, _, _, i4, _⟩ := hti.info
    have : zv = zz := by
      have := z1
      simp [zeroValue, typeInfo, i1, i4] at this
      exact this.symm
    subst this
    exact ⟨i, i1, i4⟩
  obtain ⟨i, i1, i2⟩ := hinfo
  refine ⟨zv, z1, ?_⟩
  unfold zeroV at h
  split at h
  · rename_i fs ks hk
    simp only [Option.some.injEq] at h
    subst h
    obtain ⟨cs, rfl⟩ := hti.two i zv i1 i2 (by rw [hk]; rfl)
    rw [hk] at z3
    obtain ⟨l1, l2⟩ := lit_allR (ρ := ρ) (F := F) (w := w) (m := m) z3
    exact ⟨⟨cs.toList, by simp, l1⟩, l2⟩
  · cases h
  · rename_i hn1 hn2
    split at h
    · rename_i z' hz
      simp only [Option.some.injEq] at h
      subst h
      have hf : te.kind.flat = true := by
        cases hkk : te.kind <;> first | rfl | exact absurd hkk (hn1 _ _) | exact absurd hkk (hn2 _ _)
      have z5 := hti.one i zv i1 i2 hf
      have z6 : All2 litV [z'] zv.cells.toList := by
        rw [← hz]
        revert z3 hf
        cases te.kind <;> first | exact fun h _ => Bool.noConfusion h | exact fun _ h => Bool.noConfusion h | exact fun h _ => h
      rw [cells_one z5] at z6
      have zl := z6.1
      have r1 : R1 ρ F w z' zv := lit_R1 zl
      have r2 : z'.all1 (fresh m) = true := lit_fr zl
      exact ⟨R2_of r1, by cases z' <;> first | exact r2 | exact (show False from r1).elim⟩
    · cases h
def lkV (c : Bool) (v : V) (b : Bool) : V := if c then .tup [v, .d (.bool b)] else v
theorem Cr.look {P : Pg} {g : Cfg} {C : Ctx} (x : Cr P g C) {s s' : St} {K K' : List Item} {Φ : Exit → St → Prop} {ob : List Prop} {all : Array Oper} {o : Oper} {rest : List Oper} {d : Nat} {es : List (Key × V)} {key : Key} {z : V} {c : Bool} (h : run g 1000 K s [] = .op ob all o rest K' s') (ho : AllP ob)
    (hi : lookInfo g s' o = some (d, es, key, z, c)) (k : lkGoals key (fun v b => Go C (.ops all rest :: K') { s' with L := put s'.L d (lkV c v b) } Φ) z es) : Go C K s Φ := by
  refine st x.ty x.n x.fix h ⟨ho, ?_⟩
  have k := lkGoals_at k
  rintro a w ⟨ρ, F, hs⟩
  have hg := x.ty
  unfold lookInfo at hi
  split at hi
  · rename_i d' t m kk c' hgd hd hop
    split at hi
    · rename_i id kv ti hm hk hti
      split at hi
      · rename_i kt et es' hkind hget
        split at hi
        · rename_i tk te htk hte
          split at hi
          · rename_i key' z' hk1 hz0
            cases hb : (keysOK key' es' && Nat.blt d' g.n) with
            | false => rw [hb] at hi; simp at hi
            | true =>
              rw [hb] at hi
              simp only [cond_true, Option.some.injEq, Prod.mk.injEq] at hi
              obtain ⟨rfl, rfl, rfl, rfl, rfl⟩ := hi
              simp only [Bool.and_eq_true] at hb
              obtain ⟨b1, b2⟩ := hb
              have hu := (lk_ok hg hti).und
              rw [hkind] at hu
              have hm1 := (ev_sound hs (pc_nil _) hm).1
              have hk2 := (ev_sound hs (pc_nil _) hk).1
              generalize hem : a.eval m = vm at hm1
              generalize hek : a.eval kk = vk at hk2
              obtain ⟨rfl, huk⟩ := keyOf_sound hk1 hk2 (lk_ok hg htk) rfl
              obtain ⟨rfl, _⟩ := (show R0 ρ F w (.own id) vm from hm1)
              obtain ⟨b, arr, clock, e1, e2, e3⟩ := hs.ch _ _ (get_mem hget)
              have hfr := (hs.freshH _ _ (get_mem hget)).2
              simp only [Ch.all, List.all_eq_true] at hfr
              obtain ⟨zv, z1, zl, zf⟩ := zeroV_sound hz0 (lk_ok hg hte) ρ F w s'.m
              have val : ∃ r : Option (Nat × Value), Instr.findNow (keyDesc key') (keyVal key') arr.toList 0 = some r ∧ r.isSome = (tblAt key' es').isSome ∧ R2 ρ F w ((tblAt key' es').getD z') (gotV r zv) ∧ ((tblAt key' es').getD z').all2 (fresh s'.m) = true := by
                rcases findNow_tbl (ρ := ρ) (F := F) (w := w) key' 0 b1 e3 with ⟨f1, f2⟩ | ⟨v', j, y, f1, f2, f3⟩
                · rw [f1]
                  exact ⟨none, f2, rfl, zl, zf⟩
                · rw [f1]
                  obtain ⟨a', h'⟩ := tblAt_mem f1
                  exact ⟨some (j, y), f2, rfl, f3, hfr _ h'⟩
              obtain ⟨r, r1, r0, r2, r3⟩ := val
              have hrun := look_run hu key' huk e2 r1 z1 c'
              show wqList C.rd C.P all (den C (conc C Φ) K') (o :: rest) a w
              refine wqList_plain hgd fun N hN => ?_
              generalize hres : (if c' then Value.tuple #[gotV r zv, .bool r.isSome] else gotV r zv) = res at hrun
              have hex : (execOp a.eval o).run C.P w = .ok (.value res) w := by
                unfold execOp
                rw [hop]
                simp only [hem, hek]
                refine run_v ?_
                rw [e1]
                exact hrun
              refine wqO_of hex trivial ?_
              refine hN _ _ ?_
              rw [hd]
              generalize (tblAt key' es').getD z' = u at r2 r3 k
              generalize (tblAt key' es').isSome = f at r0 k
              rw [r0] at hres
              have hR : R3 ρ F w (lkV c' u f) res ∧ (lkV c' u f).all3 (fresh s'.m) = true := by
                subst hres
                cases c' with
                | true => exact ⟨⟨[_, _], rfl, r2, RD.bool _, trivial⟩, by show ([u, .d (.bool f)].all (V.all2 (fresh s'.m))) = true; simp only [List.all_cons, List.all_nil, Bool.and_eq_true]; exact ⟨r3, rfl, trivial⟩⟩
                | false => exact ⟨R3_of r2, by
                    cases u <;> first | exact r3 | exact (show False from r2).elim⟩
              exact k _ _ ⟨ρ, F, hs.put (by rw [← x.n]; simpa using b2) hR.1 hR.2⟩
          · simp at hi
        · simp at hi
      · simp at hi
    · simp at hi
  · simp at hi

/-- A nil slice in a box is an owned one of no elements. -/
theorem Go.ownB {C : Ctx} {s : St} {K : List Item} {Φ : Exit → St → Prop} (id j : Nat) (e : TypeId) (sz : Nat) (f : Nat → List D) {us : List V} (h : get s.H id = some (.box us)) (hu : us[j]? = some .nils)
    (k : Go C K ⟨s.L, (id, .box (us.set j (.own s.m))) :: delH id ((s.m, .vec e sz 0 f) :: s.H), s.m + 1⟩ Φ) : Go C K s Φ := by
  rintro a w ⟨ρ, F, hs⟩
  have hm0 : Mod none w w := ⟨rfl, rfl, rfl, Nat.le_refl _, fun _ _ _ => rfl⟩
  have hmem := get_mem h
  have hlt := (hs.freshH _ _ hmem).1
  have h1 := hs.new hm0 (x := .slice none 0 0) (fun b hb => by simp [blk] at hb) (c := .vec e sz 0 f) ⟨[], by rw [upd_same]; exact ⟨by simp, .inl ⟨rfl, rfl⟩⟩, fun i hi => absurd hi (Nat.not_lt_zero _)⟩ rfl
  have hmem1 : (id, Ch.box us) ∈ ((s.m, Ch.vec e sz 0 f) :: s.H) := List.mem_cons_of_mem _ hmem
  obtain ⟨b, cs, T, e1, e2, e3⟩ := h1.ch id _ hmem1
  obtain ⟨c, c1, c2⟩ := e3.get hu
  have c2 : c = .slice none 0 0 := c2
  have hset : cs.set j c = cs := by
    obtain ⟨hj, hc⟩ := List.getElem?_eq_some_iff.1 c1
    rw [← hc]; simp
  have hown : R1 (upd ρ s.m (.slice none 0 0)) F w (.own s.m) c := ⟨by rw [upd_same]; exact c2, by rw [upd_same]; exact .inl ⟨_, _, _, rfl⟩⟩
  have hfr := (h1.freshH id _ hmem1).2
  simp only [Ch.all, List.all_eq_true] at hfr
  have h2 := h1.touch hmem1 (c' := .box (us.set j (.own s.m))) ⟨rfl, rfl, rfl, Nat.le_refl _, fun _ _ _ => rfl⟩ ⟨b, cs, T, e1, e2, by have := e3.set (i := j) hown; rwa [hset] at this⟩ (by
    simp only [Ch.all, List.all_eq_true]
    intro v hv
    rcases List.mem_or_eq_of_mem_set hv with hv | rfl
    · exact hfr v hv
    · show Nat.blt s.m (s.m + 1) = true; simp)
  exact k a w ⟨_, F, h2⟩
end Go.Sx

/-
  Sx, part 41: package-level tables whose cells are known for good.
-/
set_option linter.unusedVariables false
set_option linter.unusedSimpArgs false
namespace Go.Sx

/-- The table gl has N cells, which read as tab says. -/
def GlobAt (E : List (Nat × Nat × (Nat → Value))) (gl N : Nat) (tab : Nat → D) : Prop := ∃ f, (gl, N, f) ∈ E ∧ ∀ j, j < N → litV (.d (tab j)) (f j)

theorem litV_RD {F : Nat → Prop} {w : World} {d : D} {v : Value} (h : litV (.d d) v) : RD F w d v := by
  cases d with
  | int k n => rw [show v = _ from h]; exact .int _ _
  | bool b => rw [show v = _ from h]; exact .bool _
  | str s => rw [show v = _ from h]; exact .str _
  | nf => rw [show v = _ from h]; exact .nf
  | ni => rw [show v = _ from h]; exact .ni
  | np => rw [show v = _ from h]; exact .np
  | sl _ _ _ => exact h.elim
  | ifc _ _ => exact h.elim

def globInfo (g : Cfg) (s : St) (all : Array Oper) (o : Oper) : Option (Nat × Nat × Int × Nat × List (Nat × Bool)) :=
  match o.guard, o.dst, o.op with
  | some (j, u), some d, .indexAddr t (.global gl) ix => match gpath s.L all j u with
    | some q => match ev s.L q ix, lk g t with
      | some (.d (.int _ n)), some ti => match ti.kind with
        | .array N e => bif isz g e 1 && Nat.blt d g.n && !(q.any fun e => Nat.beq e.1 d) then some (gl, N, n, d, q) else none
        | _ => none
      | _, _ => none
    | none => none
  | _, _, _ => none

/-- A cell of a table, under a guard. -/
theorem Cr.globG {P : Pg} {g : Cfg} {C : Ctx} (x : Cr P g C) {s s' : St} {K K' : List Item} {Φ : Exit → St → Prop} {ob : List Prop} (tab : Nat → D) {all : Array Oper} {o : Oper} {rest : List Oper} {gl N d : Nat} {n : Int} {q : List (Nat × Bool)} (h : run g 1000 K s [] = .op ob all o rest K' s') (ho : AllP ob)
    (hi : globInfo g s' all o = some (gl, N, n, d, q)) (hE : GlobAt P.env gl N tab) (hb : imp s'.L q (0 ≤ n ∧ n < (N : Int))) (k : Go C (.ops all rest :: K') { s' with L := put s'.L d (.g q (.eptr [tab n.toNat])) } Φ) : Go C K s Φ := by
  refine st x.ty x.n x.fix h ⟨ho, ?_⟩
  rintro a w ⟨ρ, F, hs⟩
  have hg := x.ty
  unfold globInfo at hi
  split at hi
  · rename_i j u d' t gl' ix hgd hd hop
    split at hi
    · rename_i q' hq
      split at hi
      · rename_i kk n' ti hix hti
        split at hi
        · rename_i N' e hkind
          cases hc : (isz g e 1 && Nat.blt d' g.n && !(q'.any fun e => Nat.beq e.1 d')) with
          | false => rw [hc] at hi; simp at hi
          | true =>
            rw [hc] at hi
            simp only [cond_true, Option.some.injEq, Prod.mk.injEq] at hi
            obtain ⟨rfl, rfl, rfl, rfl, rfl⟩ := hi
            simp only [Bool.and_eq_true, Bool.not_eq_true'] at hc
            obtain ⟨⟨b0, b1⟩, b2⟩ := hc
            have hgs := gpath_sound hs hq
            have hwant : Region.wanted o (yielded all a.tmps) = true ↔ pcA a.tmps q' := by rw [← hgs]; simp [Region.wanted, hgd]
            show wqList C.rd C.P all (den C (conc C Φ) K') (o :: rest) a w
            refine wqList_step fun M hM => ?_
            cases hw : Region.wanted o (yielded all a.tmps) with
            | true =>
              have hpc := hwant.1 hw
              obtain ⟨h0, h1⟩ := imp_sound hs hpc hb
              obtain ⟨f, hf, hlit⟩ := hE
              have henv : EnvOK P.env F w := by have := hs.env; rwa [show C.env = P.env from congrArg Pg.env x.prog] at this
              obtain ⟨hF, hcell, _⟩ := henv _ _ _ hf
              have hiv := (ev_sound hs hpc hix).1
              generalize hex : a.eval ix = vx at hiv
              cases (show RD F w _ _ from hiv)
              have hu := (lk_ok hg hti).und
              rw [hkind] at hu
              have hrun : (execOp a.eval o).run C.P w = .ok (.value (.pointer (some ⟨gl', n'.toNat, none⟩))) w := by
                unfold execOp
                rw [hop]
                refine run_v ?_
                simp [Act.eval, hex] at hex ⊢
                simp [hex, Instr.indexAt, Instr.sureAddr, asIntOf, run_und (show C.P.underlying t = some (.array N' e) from hu), h0, h1, isz_sound hg b0, Addr.add_lit]
              simp only [if_true]
              refine wqO_of hrun trivial ?_
              refine hM _ _ ?_
              rw [hd]
              refine k _ _ ⟨ρ, F, hs.putS (by rw [← x.n]; simpa using b1) ⟨fun _ => ⟨gl', n'.toNat, fun _ => f n'.toNat, rfl, hF, fun i dd hi => ?_⟩, fun hno => (hno ((pcA_put b2).2 hpc)).elim⟩ rfl⟩
              cases i with
              | succ i => simp at hi
              | zero =>
                simp only [List.getElem?_cons_zero, Option.some.injEq] at hi
                subst hi
                exact ⟨hcell n'.toNat (by omega), litV_RD (hlit n'.toNat (by omega))⟩
            | false =>
              simp only [Bool.false_eq_true, if_false]
              have hpc : ¬ pcA a.tmps q' := fun hc => by rw [hwant.2 hc] at hw; cases hw
              refine hM _ _ ?_
              rw [hd]
              exact k _ _ ⟨ρ, F, hs.putS (by rw [← x.n]; simpa using b1) ⟨fun hc => (hpc ((pcA_put b2).1 hc)).elim, fun _ => rfl⟩ rfl⟩
        · simp at hi
      · simp at hi
    · simp at hi
  · simp at hi
end Go.Sx

/-
  Sx, part 42: frames in which some of the owned chunks may move.
-/
set_option linter.unusedVariables false
set_option linter.unusedSimpArgs false
namespace Go.Sx
section
variable {C : Ctx} {s : St} {a : Act} {w : World} {ρ : Nat → Value} {F : Nat → Prop}
/-- The context of a part that owns the chunks `is` alone, of which those from k on may move. -/
def Ctx.subk (C : Ctx) (s : St) (is : List Nat) (w : World) (ρ : Nat → Value) (F : Nat → Prop) (k : Nat) : Ctx := { C with w0 := w, E := blocksOf ρ s.H is, F0 := F, ρ0 := ρ, fix := k }

theorem SatW.framek (h : SatW C s a w ρ F) (is : List Nat) {k : Nat} (hk : k ≤ s.m) : SatW (C.subk s is w ρ F k) ⟨s.L, onlyIn is s.H, s.m⟩ a w ρ F where
  size := h.size
  defers := h.defers
  slot := h.slot
  ch i c hi := h.ch i c (onlyIn_mem hi).1
  sep i j ci cj b hi hj := h.sep i j ci cj b (onlyIn_mem hi).1 (onlyIn_mem hj).1
  out i c b hi := h.out i c b (onlyIn_mem hi).1
  freshL := h.freshL
  freshH i c hi := h.freshH i c (onlyIn_mem hi).1
  lt := h.lt
  mine i c b hi e := .inr ⟨i, c, (onlyIn_mem hi).2, (onlyIn_mem hi).1, e⟩
  sub k hk := .inl hk
  base k hk := hk
  fixd := ⟨hk, fun _ _ => rfl⟩
  keep := ⟨rfl, rfl, rfl, Nat.le_refl _, fun _ _ _ => rfl⟩
  env := h.env

theorem SatW.unframek (h : SatW C s a w ρ F) {is : List Nat} {k : Nat} (hfk : C.fix ≤ k) (hlow : ∀ i c, (i, c) ∈ delAll is s.H → i < k ∧ c.all (fresh k) = true) {s1 : St} {a1 : Act} {w1 : World} {ρ1 : Nat → Value} {F1 : Nat → Prop} (h1 : SatW (C.subk s is w ρ F k) s1 a1 w1 ρ1 F1) :
    SatW C ⟨s1.L, app3 s1.H (delAll is s.H), s1.m⟩ a1 w1 ρ1 F1 := by
  have hm : k ≤ s1.m := h1.fixd.1
  have hρ : ∀ i, i < k → ρ1 i = ρ i := h1.fixd.2
  have hE : ∀ b, blocksOf ρ s.H is b → C.w0.heap.size ≤ b ∨ C.E b := fun b ⟨i, c, _, hi, e⟩ => h.mine i c b hi e
  have hFw : ∀ k, F k → w1.heap[k]? = w.heap[k]? := fun k hk => h1.keep.block k (h.lt k hk) fun ⟨i, c, _, hi, e⟩ => h.out i c k hi e hk
  have hrest : ∀ {i c b}, (i, c) ∈ delAll is s.H → bks ρ i c b → b < w.heap.size ∧ ¬ blocksOf ρ s.H is b := fun {i c b} hi e => by
    obtain ⟨hi, hni⟩ := delAll_mem hi
    refine ⟨(h.ch i c hi).lt e, fun ⟨j, d, hj, hjd, e2⟩ => h.sep i j c d b hi hjd (fun e3 => hni (by rw [e3]; exact inL_iff.1 hj)) e e2⟩
  have split : ∀ {i c}, (i, c) ∈ app3 s1.H (delAll is s.H) → (i, c) ∈ s1.H ∨ (i, c) ∈ delAll is s.H := fun {i c} hi => by rw [app3_eq] at hi; exact List.mem_append.1 hi
  have hbk : ∀ {i c b}, (i, c) ∈ delAll is s.H → (bks ρ1 i c b ↔ bks ρ i c b) := fun {i c b} hi => by
    rw [bks_congr (hρ i (hlow i c hi).1)]
  exact
    { size := h1.size, defers := h1.defers, slot := h1.slot, freshL := h1.freshL, lt := h1.lt, env := h1.env
      ch := fun i c hi => by
        rcases split hi with hi | hi
        · exact h1.ch i c hi
        · obtain ⟨hi2, hni⟩ := delAll_mem hi
          have := ChOK.keep (x := 0) (p := fresh k) (k := fun u => u) (ρ' := ρ1) (F' := F1) (w' := w1) (fun u v hu hr => by
            have := R0.killIn (xs := []) (m := k) (ρ' := ρ1) (F' := F1) (w' := w1) (fun i hi _ => hρ i hi) (fun k hk => h1.base k hk) hFw hu hr
            rwa [show killIn [] u = u by cases u <;> rfl] at this) (fun k hk => h1.base k hk) hFw (hρ i (hlow i c hi).1) (fun b e => by
              obtain ⟨e1, e2⟩ := hrest hi e
              exact h1.keep.block b e1 e2) (hlow i c hi).2 (h.ch i c hi2)
          rwa [chmap_id] at this
      sep := fun i j ci cj b hi hj hij e => by
        have cross : ∀ {i j ci cj b}, (i, ci) ∈ s1.H → (j, cj) ∈ delAll is s.H → bks ρ1 i ci b → ¬ bks ρ1 j cj b := fun {i j ci cj b} hi hj e e2 => by
          obtain ⟨e3, e4⟩ := hrest hj ((hbk hj).1 e2)
          rcases h1.mine i ci b hi e with h5 | h5
          · exact absurd (show w.heap.size ≤ b from h5) (by omega)
          · exact e4 h5
        rcases split hi with hi | hi <;> rcases split hj with hj | hj
        · exact h1.sep i j ci cj b hi hj hij e
        · exact cross hi hj e
        · exact fun e2 => cross hj hi e2 e
        · exact fun e2 => h.sep i j ci cj b (delAll_mem hi).1 (delAll_mem hj).1 hij ((hbk hi).1 e) ((hbk hj).1 e2)
      out := fun i c b hi e => by
        rcases split hi with hi | hi
        · exact h1.out i c b hi e
        · intro hF
          have e0 := (hbk hi).1 e
          obtain ⟨e3, e4⟩ := hrest hi e0
          rcases h1.sub b hF with h5 | h5 | h5
          · exact h.out i c b (delAll_mem hi).1 e0 h5
          · exact absurd (show w.heap.size ≤ b from h5) (by omega)
          · exact e4 h5
      freshH := fun i c hi => by
        rcases split hi with hi | hi
        · exact h1.freshH i c hi
        · obtain ⟨h5, h6⟩ := hlow i c hi
          exact ⟨Nat.lt_of_lt_of_le h5 hm, chall_imp (fun u hu => fresh_mono hm hu) h6⟩
      mine := fun i c b hi e => by
        rcases split hi with hi | hi
        · rcases h1.mine i c b hi e with h5 | h5
          · exact .inl (Nat.le_trans h.keep.size h5)
          · exact hE b h5
        · exact h.mine i c b (delAll_mem hi).1 ((hbk hi).1 e)
      sub := fun k hk => by
        rcases h1.sub k hk with h5 | h5 | h5
        · exact h.sub k h5
        · exact .inr (.inl (Nat.le_trans h.keep.size h5))
        · exact .inr (hE k h5)
      base := fun k hk => h1.base k (h.base k hk)
      fixd := ⟨Nat.le_trans hfk hm, fun i hi => by rw [hρ i (Nat.lt_of_lt_of_le hi hfk)]; exact h.fixd.2 i hi⟩
      keep := ⟨h1.keep.os.trans h.keep.os, h1.keep.tape.trans h.keep.tape, h1.keep.output.trans h.keep.output, Nat.le_trans h.keep.size h1.keep.size, fun k hk hne => by
        refine (h1.keep.block k (Nat.lt_of_lt_of_le hk h.keep.size) fun hb => ?_).trans (h.keep.block k hk hne)
        rcases hE k hb with h5 | h5
        · omega
        · exact hne h5⟩ }
end
end Go.Sx

/-
  Sx, part 43: drawn statements in which something that only reads is free even against the tail.
-/
set_option linter.unusedVariables false
set_option linter.unusedSimpArgs false
namespace Go.Sx
section
variable {P : Program} {ops : Array Oper} {md : Region.Mode} {Q : Exit → Act → World → Prop} {T : List Nat} {S S0 : World → Prop}

theorem wpAnyH_of_P {g : Nat} {L : Array Bool → Act → World → Prop} (hSS : ∀ w, S w → S0 w) (hL : ∀ listed a w, L listed a w → wpAnyH P md ops Q S0 g listed a w) :
    ∀ (f : Nat) (listed : Array Bool) (a : Act) (w : World), wpAnyP P md ops Q S T L f listed a w → wpAnyH P md ops Q S0 (f + g) listed a w
  | 0, listed, a, w, h => by rw [Nat.zero_add]; exact hL _ _ _ h
  | f + 1, listed, a, w, h => by
    rw [show f + 1 + g = (f + g) + 1 by omega]
    exact ⟨fun h0 => absurd h0 h.1, fun i hi => wpOp_mono (fun a' w' h' => ⟨hSS _ h'.1, wpAnyH_of_P hSS hL f _ a' w' h'.2⟩) (h.2 i hi).2⟩

theorem seqH_sound : ∀ (T : List Nat) (listed : Array Bool) (a : Act) (w : World), seqL md ops T listed = true → wpChain P ops Q S0 (fun a w => Q .normal a w) T a w → wpAnyH P md ops Q S0 T.length listed a w
  | [], listed, a, w, h, hc => ⟨by simpa [seqL] using h, hc⟩
  | i :: r, listed, a, w, h, hc => by
    simp only [seqL, Bool.and_eq_true, decide_eq_true_eq] at h
    refine ⟨fun h1 => (by rw [h.1] at h1; cases h1), fun k hk => ?_⟩
    rw [h.1] at hk
    obtain rfl := List.mem_singleton.1 hk
    exact wpOp_mono (fun a' w' h' => ⟨h'.1, seqH_sound r _ a' w' h.2 h'.2⟩) hc

theorem planH_sound (hs : Region.noSelect ops = true) (hQ : ∀ c (o : Oper) v a w, o ∈ ops.toList → Q (.panic c) (a.put o.dst v) w → Q (.panic c) a w) {f : Nat} {k : Array Bool → Bool} {R : Act → Prop} {w : World} (hw : S0 w)
    (hk : ∀ listed a, Inv md ops T listed → k listed = true → R a → wpAnyH P md ops Q S0 f listed a w) :
    ∀ (A : List Nat) (listed : Array Bool) (a : Act), Inv md ops T listed → planQ md ops T A listed k = true → ReadsIf P ops S0 R (pickL ops.toList A) a → wpAnyH P md ops Q S0 (A.length + f) listed a w
  | [], listed, a, inv, hp, h => by rw [List.length_nil, Nat.zero_add]; exact hk _ _ inv hp h
  | i :: r, listed, a, inv, hp, h => by
    simp only [planQ, Bool.and_eq_true] at hp
    obtain ⟨o, ho, hr, hf, hiT⟩ := stepB_some hp.1
    rw [pick_cons (by simpa using ho)] at h
    obtain ⟨v, hy, hK⟩ := h
    rw [show (i :: r).length + f = (r.length + f) + 1 by simp; omega]
    exact wpAnyH_take ho hs hf (by simpa using hr) (fun c a w => hQ c o _ a w (op_mem ho)) hy hw (planH_sound hs hQ hw hk r _ _ (inv.set hr hiT) hp.2 hK)

def planD2 (md : Region.Mode) (ops : Array Oper) (A B E T : List Nat) : Bool :=
  Region.noSelect ops && Nat.beq (A.length + B.length + E.length + T.length) ops.size && !T.isEmpty && sinkL md ops (headOf T) (app3 B E) && chainL md ops T &&
  planQ md ops T A (Array.replicate ops.size false) fun l => planQ md ops T B l fun l => seqP md ops T E l

theorem wp_region_draw2 {id : Nat} {a : Act} {w : World} {A B E T : List Nat} (hm : P.follows .mixedOrders = true) (hp : planD2 .any ops A B E T = true) (hQ : ∀ c (o : Oper) v a w, o ∈ ops.toList → Q (.panic c) (a.put o.dst v) w → Q (.panic c) a w)
    (hS0 : S0 { w with drawn := w.drawn + 1 }) (hS : S { w with drawn := w.drawn + 1 }) (hSS : ∀ w, S w → S0 w)
    (h : ReadsIf P ops S0 (fun a1 => ReadsIf P ops S (fun a2 => wpChain P ops Q S (fun a w => wpChain P ops Q S0 (fun a w => Q .normal a w) T a w) E a2 { w with drawn := w.drawn + 1 }) (pickL ops.toList B) a1) (pickL ops.toList A) a) : (Code.region id ops true).wp P Q a w := by
  simp only [planD2, Bool.and_eq_true] at hp
  obtain ⟨⟨⟨⟨⟨hs, hsz⟩, hT⟩, hsk⟩, hch⟩, hpl⟩ := hp
  refine wp_region_any hm (wpAny_of_held (S := S0) _ _ _ _ ?_)
  have inv0 : Inv .any ops T (Array.replicate ops.size false) := ⟨by simp, fun j oj _ hl => (by rw [getD_replicate_false] at hl; cases hl), fun t _ => getD_replicate_false _ _⟩
  have hsz := Nat.eq_of_beq_eq_true hsz
  have e : A.length + (B.length + E.length + T.length) = ops.size := by omega
  have key : wpAnyH P .any ops Q S0 (A.length + (B.length + E.length + T.length)) (Array.replicate ops.size false) a { w with drawn := w.drawn + 1 } := ?_
  · rw [e] at key; exact key
  refine planH_sound (T := T) hs hQ hS0 (fun listed a inv hk hl => ?_) A _ a inv0 hpl h
  have hB := planS_sound (md := .any) hs hsk hch hQ hS B listed a (fun i hi => (by rw [app3_eq]; exact List.mem_append_left _ hi)) inv hk hl
  exact wpAnyH_of_P (g := T.length) hSS (fun l a' w' hL => seqH_sound T l a' w' hL.1 hL.2) _ _ _ _ hB
end

/-- One operation, in a context of its own. -/
theorem one_op {C1 : Ctx} {Q : Exit → Act → World → Prop} {ops : Array Oper} {i : Nat} {J : St → Prop} {Φ1 : Exit → St → Prop} {s1 : St} {a : Act} {w : World} {R : Act → World → Prop}
    (hgo : Go C1 [.ops ops (pickL ops.toList [i]), .back J] s1 Φ1) (hs : Sat C1 s1 a w) (hJ : ∀ s a w, Sat C1 s a w → J s → R a w) (hp : ∀ c s a w, Sat C1 s a w → Φ1 (.panic c) s → Q (.panic c) a w) (hog : ∀ s, ¬ Φ1 .outgrown s) : wpOp C1.P ops Q i R a w := by
  have h5 : wpList C1.P ops (den C1 (conc C1 Φ1) [.back J]) (pickL ops.toList [i]) a w := (show wqList C1.rd C1.P ops (den C1 (conc C1 Φ1) [.back J]) (pickL ops.toList [i]) a w from hgo a w hs).1
  have hK : ∀ a w, den C1 (conc C1 Φ1) [.back J] .normal a w → R a w := fun a w ⟨s, h1, h2⟩ => hJ s a w h1 h2
  have hpp : ∀ c a w, den C1 (conc C1 Φ1) [.back J] (.panic c) a w → Q (.panic c) a w := fun c a w ⟨s, h1, h2⟩ => hp c s a w h1 h2
  have hoo : ∀ a w, ¬ den C1 (conc C1 Φ1) [.back J] .outgrown a w := fun a w ⟨s, _, h2⟩ => hog s h2
  unfold wpOp
  cases ho : ops[i]? with
  | none =>
    simp only [pickL, Array.getElem?_toList, ho] at h5
    exact hK _ _ h5
  | some o =>
    simp only [pickL, Array.getElem?_toList, ho] at h5
    unfold wpList at h5
    simp only
    split at h5
    · rename_i hw
      rw [if_pos hw]
      rcases h5 with h5 | ⟨_, a4, w4, h6⟩
      · exact .inl (Oper.upon_exits (fun a w h => hK a w h) hpp hoo h5)
      · exact absurd h6 (hoo a4 w4)
    · rename_i hw
      rw [if_neg hw]
      exact hK _ _ h5

/-- The tail, one operation after the other, in the context that does not own the frame. -/
def tailGo (C C2 : Ctx) (ops : Array Oper) (K : List Item) (Φ : Exit → St → Prop) (rest0 : List (Nat × Ch)) : List Nat → St → Prop
  | [], s => Go C K ⟨s.L, app3 s.H rest0, s.m⟩ Φ
  | i :: r, s => Go C2 [.ops ops (pickL ops.toList [i]), .back (tailGo C C2 ops K Φ rest0 r)] s (FrP Φ rest0)
def chain2 (C C1 C2 : Ctx) (ops : Array Oper) (T : List Nat) (K : List Item) (Φ : Exit → St → Prop) (rest0 rest1 : List (Nat × Ch)) : List Nat → St → Prop
  | [], s => tailGo C C2 ops K Φ rest0 T ⟨s.L, app3 s.H rest1, s.m⟩
  | i :: r, s => Go C1 [.ops ops (pickL ops.toList [i]), .back (chain2 C C1 C2 ops T K Φ rest0 rest1 r)] s (FrP (FrP Φ rest0) rest1)

theorem reads_mono {P : Program} {ops : Array Oper} {S : World → Prop} {R R' : Act → Prop} (hR : ∀ a, R a → R' a) : ∀ (l : List Oper) (a : Act), ReadsIf P ops S R l a → ReadsIf P ops S R' l a
  | [], a, h => hR a h
  | _ :: r, a, ⟨v, h1, h2⟩ => ⟨v, h1, reads_mono hR r _ h2⟩

theorem Cx.draw2 {P : Pg} {g : Cfg} {C : Ctx} (x : Cx P g C) {s s' : St} {K K' : List Item} {Φ : Exit → St → Prop} {ob : List Prop} (is0 : List Nat) (k0 : Nat) (is A B E T : List Nat) {id : Nat} {ops : Array Oper} (h : run g 1000 K s [] = .code ob (.region id ops true) K' s') (ho : AllP ob) (hm : P.P.follows .mixedOrders = true) (hB : planD2 .any ops A B E T = true) (hΦ : QuietP ops Φ)
    (hfr : (Nat.ble k0 s'.m && Nat.ble g.fix k0 && (delAll is0 s'.H).all fun e => Nat.blt e.1 k0 && e.2.all (fresh k0)) = true)
    {obA : List Prop} {sA : St} (hqA : qrun g ops 1000 (pickL ops.toList A) ⟨s'.L, delAll is0 s'.H, s'.m⟩ [] = .done obA sA) (hoA : AllP obA)
    {obB : List Prop} {sB : St} (hqB : qrun g ops 1000 (pickL ops.toList B) ⟨sA.L, delAll is s'.H, s'.m⟩ [] = .done obB sB) (hoB : AllP obB)
    (k : ∀ C1 C2, Cx P { g with fix := s'.m } C1 → Cx P { g with fix := k0 } C2 → chain2 C C1 C2 ops T K' Φ (delAll is0 s'.H) (delAll is (onlyIn is0 s'.H)) E ⟨sB.L, onlyIn is (onlyIn is0 s'.H), s'.m⟩) : Go C K s Φ := by
  refine st x.ty x.n x.fix h ⟨ho, ?_⟩
  rintro a w ⟨ρ, F, hs⟩
  have hd : Mod none w { w with drawn := w.drawn + 1 } := ⟨rfl, rfl, rfl, Nat.le_refl _, fun _ _ _ => rfl⟩
  have hs1 := hs.mod hd
  generalize hw1 : ({ w with drawn := w.drawn + 1 } : World) = w1 at hs1
  simp only [Bool.and_eq_true, List.all_eq_true] at hfr
  obtain ⟨⟨f1, f2⟩, f3⟩ := hfr
  have f1 : k0 ≤ s'.m := by simpa using f1
  have f2 : C.fix ≤ k0 := by rw [← x.fix]; simpa using f2
  have hlow : ∀ i c, (i, c) ∈ delAll is0 s'.H → i < k0 ∧ c.all (fresh k0) = true := fun i c hi => by
    have := f3 (i, c) hi
    simpa using this
  let S0 : World → Prop := fun w' => ∀ k, k < w1.heap.size → ¬ blocksOf ρ s'.H is0 k → w'.heap[k]? = w1.heap[k]?
  let S : World → Prop := fun w' => ∀ k, k < w1.heap.size → ¬ blocksOf ρ (onlyIn is0 s'.H) is k → w'.heap[k]? = w1.heap[k]?
  have hSS : ∀ w', S w' → S0 w' := fun w' hw' k hk hb => hw' k hk fun ⟨i, c, h1, h2, h3⟩ => hb ⟨i, c, (onlyIn_mem h2).2, (onlyIn_mem h2).1, h3⟩
  obtain ⟨_, _, hrA⟩ := qrun_reads (F := F) x.ty x.n (S := S0) (fun w' hw' k hk hlt => hw' k hlt hk) 1000 _ _ _ hqA hoA
  obtain ⟨_, _, hrB⟩ := qrun_reads (F := F) (ρ := ρ) (w := w1) x.ty x.n (S := S) (is := is) (H0 := s'.H) (fun w' hw' k hk hlt => hw' k hlt fun ⟨i, c, h1, h2, h3⟩ => hk ⟨i, c, h1, (onlyIn_mem h2).1, h3⟩) 1000 _ _ _ hqB hoB
  refine x.ofWp ?_
  have hP : C.P.follows .mixedOrders = true := x.progP.symm ▸ hm
  refine wp_region_draw2 (S := S) (S0 := S0) hP hB (fun c o v a w ho hq => den_quiet hΦ K' c ho v a w hq) (by rw [hw1]; exact fun k _ _ => rfl) (by rw [hw1]; exact fun k _ _ => rfl) hSS ?_
  rw [hw1]
  refine reads_mono (fun a1 h1 => reads_mono (fun a2 h2 => ?_) _ a1 (hrB a1 h1)) _ a (hrA a hs1)
  -- the contexts
  let C2 := C.subk s' is0 w1 ρ F k0
  let s2 : St := ⟨sB.L, onlyIn is0 s'.H, s'.m⟩
  have h2f : SatW C2 s2 a2 w1 ρ F := h2.framek (s := ⟨sB.L, s'.H, s'.m⟩) is0 f1
  let C1 := C2.sub s2 is w1 ρ F
  have hx1 : Cx P { g with fix := s'.m } C1 := ⟨⟨x.prog, x.n, rfl, x.tys⟩, x.rd⟩
  have hx2 : Cx P { g with fix := k0 } C2 := ⟨⟨x.prog, x.n, rfl, x.tys⟩, x.rd⟩
  have back2 : ∀ {s3 a3 w3 ρ3 F3}, SatW C2 s3 a3 w3 ρ3 F3 → SatW C ⟨s3.L, app3 s3.H (delAll is0 s'.H), s3.m⟩ a3 w3 ρ3 F3 := fun h3 => h2.unframek (s := ⟨sB.L, s'.H, s'.m⟩) f2 hlow h3
  have back1 : ∀ {s3 a3 w3 ρ3 F3}, SatW C1 s3 a3 w3 ρ3 F3 → SatW C2 ⟨s3.L, app3 s3.H (delAll is (onlyIn is0 s'.H)), s3.m⟩ a3 w3 ρ3 F3 := fun h3 => h2f.unframe (s := s2) h3
  have tail : ∀ (T : List Nat) (s3 : St) (a3 : Act) (w3 : World), Sat C2 s3 a3 w3 → tailGo C C2 ops K' Φ (delAll is0 s'.H) T s3 → wpChain C.P ops (den C (conc C Φ) K') S0 (fun a w => den C (conc C Φ) K' .normal a w) T a3 w3 := by
    intro T
    induction T with
    | nil => rintro s3 a3 w3 ⟨ρ3, F3, h3⟩ hgo; exact hgo a3 w3 ⟨ρ3, F3, back2 h3⟩
    | cons i r ih =>
      intro s3 a3 w3 h3 hgo
      refine one_op (C1 := C2) hgo h3 (fun s4 a4 w4 h4 hj => ⟨?_, ih s4 a4 w4 h4 hj⟩) (fun c s4 a4 w4 h4 hp => ?_) (fun s4 hp => by obtain ⟨⟨c, hc⟩, _⟩ := hp; cases hc)
      · obtain ⟨ρ4, F4, h4⟩ := h4
        exact fun k hk hb => h4.keep.block k hk hb
      · obtain ⟨ρ4, F4, h4⟩ := h4
        obtain ⟨_, hl, hphi⟩ := hp
        rw [den_pan]
        have h6 := back2 h4
        exact ⟨_, ⟨ρ4, F4, h6⟩, hphi⟩
  have key : ∀ (E : List Nat) (s3 : St) (a3 : Act) (w3 : World), Sat C1 s3 a3 w3 → chain2 C C1 C2 ops T K' Φ (delAll is0 s'.H) (delAll is (onlyIn is0 s'.H)) E s3 → wpChain C.P ops (den C (conc C Φ) K') S (fun a w => wpChain C.P ops (den C (conc C Φ) K') S0 (fun a w => den C (conc C Φ) K' .normal a w) T a w) E a3 w3 := by
    intro E
    induction E with
    | nil => rintro s3 a3 w3 ⟨ρ3, F3, h3⟩ hgo; exact tail T _ a3 w3 ⟨ρ3, F3, back1 h3⟩ hgo
    | cons i r ih =>
      intro s3 a3 w3 h3 hgo
      refine one_op (C1 := C1) hgo h3 (fun s4 a4 w4 h4 hj => ⟨?_, ih s4 a4 w4 h4 hj⟩) (fun c s4 a4 w4 h4 hp => ?_) (fun s4 hp => by obtain ⟨⟨c, hc⟩, _⟩ := hp; cases hc)
      · obtain ⟨ρ4, F4, h4⟩ := h4
        exact fun k hk hb => h4.keep.block k hk hb
      · obtain ⟨ρ4, F4, h4⟩ := h4
        obtain ⟨_, hl, _, _, hphi⟩ := hp
        rw [den_pan]
        have h6 := back2 (back1 h4)
        exact ⟨_, ⟨ρ4, F4, h6⟩, hphi⟩
  exact key E _ a2 w1 ⟨ρ, F, h2f.frame (s := s2) is⟩ (k C1 C2 hx1 hx2)
end Go.Sx

/-
  Sx, part 44: functions that defer a closure which recovers.
-/
set_option linter.unusedVariables false
set_option linter.unusedSimpArgs false
namespace Go.Sx

/-- How the frame below stands when what was deferred is called. -/
inductive Md where
  | back
  | pan (t : TypeId) (ns : List (IntKind × Int))
def Md.mode : Md → FrameMode
  | .back => .returning
  | .pan t ns => .panicking (dieC t ns)
def Md.done : Md → FrameMode
  | .back => .returning
  | .pan t ns => .panicking [{ v := dieV t ns, recovered := true }]
def Md.got : Md → D
  | .back => .ni
  | .pan t ns => .ifc t ns
def Md.gotV : Md → Value
  | .back => .nilIface
  | .pan t ns => dieV t ns
def Md.ends : Md → Exit → Prop
  | .back, e => e = .normal ∨ e = .ret
  | .pan t ns, e => e = .panic (dieC t ns)
theorem Md.got_ok {F : Nat → Prop} {w : World} : ∀ md : Md, RD F w md.got md.gotV
  | .back => .ni
  | .pan t ns => .ifc t ns
theorem Md.settled : ∀ md : Md, settle md.done = .returning
  | .back => rfl
  | .pan t ns => rfl
theorem Md.ne_run : ∀ md : Md, md.mode ≠ .run
  | .back => by simp [Md.mode]
  | .pan t ns => by simp [Md.mode]
theorem Md.recovers (md : Md) (c : Frame) (cs : List Frame) (h : c.mode = md.mode) : (match recoverD (c :: cs) with | some (v, cs') => v = md.gotV ∧ cs' = { c with mode := md.done } :: cs | none => md.gotV = .nilIface ∧ c :: cs = { c with mode := md.done } :: cs) := by
  cases md with
  | back =>
    have h : c.mode = .returning := h
    simp only [recoverD, h]
    exact ⟨rfl, by cases c; simp_all [Md.done]⟩
  | pan t ns =>
    have h : c.mode = .panicking (dieC t ns) := h
    simp only [recoverD, h, dieC]
    exact ⟨rfl, rfl⟩

/-- **A CONTRACT OF WHAT IS DEFERRED**: called while the frame below stands so, it leaves H'. -/
def Later (P : Pg) (f : FuncId) (args : List V) (H : List Ch) (md : Md) (H' : List Ch) : Prop :=
  Callable P.P f ∧ freshAll args H H.length = true ∧ freshAll [.tup []] H' H'.length = true ∧ H.length ≤ H'.length ∧
  ∀ (w : World) (F : Nat → Prop) (ρ : Nat → Value) (vals : List Value), (∀ k, F k → k < w.heap.size) → EnvOK P.env F w → Holds ρ F w H → All2 (R3 ρ F w) args vals →
    CallsD P.P f vals.toArray md.mode w fun e u w' => u = md.done ∧ Post w F ρ H.length H (.tup []) H' e w'

def ctx0 (P : Pg) (g : Cfg) (w : World) (F : Nat → Prop) (ρ : Nat → Value) (H : List Ch) (ds : List Deferred) : Ctx := { P := P.P, env := P.env, n := g.n, w0 := w, E := ownB ρ H, F0 := F, ρ0 := ρ, fix := g.fix, defs := ds }

section
variable {P : Pg} {g : Cfg} {fn : Func} {args : List V} {H H' : List Ch} {w : World} {F : Nat → Prop} {ρ : Nat → Value} {vals : List Value}
theorem enter_sat (hF : ∀ k, F k → k < w.heap.size) (hE : EnvOK P.env F w) (hH : Holds ρ F w H) (hargs : All2 (R3 ρ F w) args vals) (hn : g.n = fn.ntmps) (hlen : Nat.ble args.length g.n = true) (hfr : freshAll args H H.length = true) (hfx : Nat.ble g.fix H.length = true) :
    SatW (ctx0 P g w F ρ H []) ⟨ixV 0 args, ixC 0 H, H.length⟩ { tmps := vals.toArray ++ Array.replicate (fn.ntmps - vals.toArray.size) undef, defers := [] } w ρ F := by
  have hfx' : g.fix ≤ H.length := by simpa using hfx
  have hlen' : args.length ≤ g.n := by simpa using hlen
  have hvl := hargs.length
  simp only [freshAll, Bool.and_eq_true, List.all_eq_true] at hfr
  refine { size := ?_, defers := .start rfl, slot := ?_, ch := ?_, sep := ?_, out := ?_, freshL := ?_, freshH := ?_, lt := hF, mine := ?_, sub := fun k hk => .inl hk, base := fun _ hk => hk, fixd := ⟨hfx', fun _ _ => rfl⟩, keep := ⟨rfl, rfl, rfl, Nat.le_refl _, fun _ _ _ => rfl⟩, env := hE }
  · simp only [Array.size_append, List.size_toArray, Array.size_replicate]
    show _ = g.n
    omega
  · intro t v hv
    obtain ⟨_, hv⟩ := mem_ixV hv
    obtain ⟨x, hx, hr⟩ := hargs.get hv
    refine ⟨x, ?_, RS_of hr⟩
    simp only [Nat.sub_zero] at hx
    have : t < vals.length := (List.getElem?_eq_some_iff.1 hx).1
    rw [Array.getElem?_append_left (by simpa using this)]
    simpa using hx
  · intro i c hc
    obtain ⟨_, hc⟩ := mem_ixC hc
    exact hH.ch i c (by simpa using hc)
  · intro i j ci cj b hi hj hij e
    obtain ⟨_, hi⟩ := mem_ixC hi
    obtain ⟨_, hj⟩ := mem_ixC hj
    exact fun e2 => hH.sep i j b (by simpa using (List.getElem?_eq_some_iff.1 hi).1) (by simpa using (List.getElem?_eq_some_iff.1 hj).1) hij (bks_plain (hfr.2 ci (List.mem_of_getElem? hi)).2 e) (bks_plain (hfr.2 cj (List.mem_of_getElem? hj)).2 e2)
  · intro i ci b hi e
    obtain ⟨_, hi⟩ := mem_ixC hi
    exact hH.out i b (by simpa using (List.getElem?_eq_some_iff.1 hi).1) (bks_plain (hfr.2 ci (List.mem_of_getElem? hi)).2 e)
  · intro t v hv
    obtain ⟨_, hv⟩ := mem_ixV hv
    obtain ⟨x, hx, hr⟩ := hargs.get hv
    have := hfr.1 v (List.mem_of_getElem? hv)
    cases v <;> first | exact this | exact (show False from hr).elim
  · intro i ci hi
    obtain ⟨_, hi⟩ := mem_ixC hi
    exact ⟨by simpa using (List.getElem?_eq_some_iff.1 hi).1, (hfr.2 ci (List.mem_of_getElem? hi)).1⟩
  · intro i ci b hi e
    obtain ⟨_, hi⟩ := mem_ixC hi
    exact .inr ⟨i, by simpa using (List.getElem?_eq_some_iff.1 hi).1, bks_plain (hfr.2 ci (List.mem_of_getElem? hi)).2 e⟩

theorem ret_post {rs : List ResultVar} {ids : List Nat} {r : V} {ds : List Deferred} (hg : TysOK P.P g.tys) (hrs : fn.results = rs.toArray) (hfr' : freshAll [r] H' H'.length = true) {s' : St} {a' : Act} {w' : World} {ρ' : Nat → Value} {F' : Nat → Prop} (h' : SatW (ctx0 P g w F ρ H ds) s' a' w' ρ' F') {e : Exit} (hret : Ret g rs ids r H' e s') :
    ∃ y, (results fn a'.tmps).run P.P w' = .ok y w' ∧ Post w F ρ g.fix H r H' (.returned y) w' := by
  obtain ⟨_, hr, hH', hok⟩ := hret
  cases hres : resV g s' rs with
  | none => rw [hres] at hr; exact hr.elim
  | some r0 =>
    rw [hres] at hr
    obtain ⟨y, h1, h2⟩ := res_sound (C := ctx0 P g w F ρ H ds) hg h' hrs hres
    simp only [okIds, Bool.and_eq_true] at hok
    obtain ⟨⟨o1, o2⟩, o3⟩ := hok
    have o1 := Nat.eq_of_beq_eq_true o1
    have hy := VEq_sound hr h1
    simp only [freshAll, Bool.and_eq_true, List.all_eq_true] at hfr'
    have hrho : ∀ i, i < H'.length → ρ' (nth ids i) = (fun i => ρ' (nth ids i)) i := fun _ _ => rfl
    have hex : ∀ i, i < H'.length → ∃ c, H'[i]? = some c ∧ ∃ c0, (nth ids i, c0) ∈ s'.H ∧ ChEq c0 (c.map (ren0 ids)) := fun i hi => by
      obtain ⟨c0, k1, k2⟩ := rnH_mem o1 hH' (List.getElem?_eq_getElem hi)
      exact ⟨_, List.getElem?_eq_getElem hi, c0, k1, k2⟩
    refine ⟨y, h2, y, fun i => ρ' (nth ids i), F', rfl, h'.keep, ?_, fun k hk => ?_, h'.lt, h'.sub, ?_, ?_, ?_⟩
    · intro i hi
      show ρ' (nth ids i) = ρ i
      rw [idB_sound o3 i hi, Nat.zero_add]
      exact h'.fixd.2 i hi
    · exact h'.base k hk
    · exact R3.unren hrho (hfr'.1 r (by simp)) hy
    · refine ⟨fun i c hc => ?_, fun i j b hi hj hij e => ?_, fun i b hi e => ?_⟩
      · have hi := (List.getElem?_eq_some_iff.1 hc).1
        obtain ⟨c', hc', c0, k1, k2⟩ := hex i hi
        rw [hc] at hc'
        obtain rfl := Option.some.inj hc'
        exact ChOK.unren hrho hi (hfr'.2 c (List.mem_of_getElem? hc)).1 (ChEq_sound k2 (h'.ch _ _ k1))
      · obtain ⟨_, _, c0, k1, _⟩ := hex i hi
        obtain ⟨_, _, c1, k3, _⟩ := hex j hj
        exact fun e2 => h'.sep _ _ c0 c1 b k1 k3 (nodupB_sound o2 i j (by omega) (by omega) hij) (bks_main e) (bks_main e2)
      · obtain ⟨_, _, c0, k1, _⟩ := hex i hi
        exact h'.out _ c0 b k1 (bks_main e)
    · intro i b hi e
      obtain ⟨_, _, c0, k1, _⟩ := hex i hi
      exact h'.mine _ c0 b k1 (bks_main e)
end

/-- How such a contract is proved. -/
theorem Later.mk {P : Pg} (g : Cfg) (htys : TysOK P.P g.tys) (ids : List Nat) {f : FuncId} {fn : Func} {id d1 d2 : Nat} {o1 o2 : Oper} {rest : Code} {args : List V} {H H' : List Ch} {md : Md}
    (hf : P.P.funcs[f]? = some fn) (hb : fn.body = some (.seq (.region id #[o1, o2] false) rest)) (hname : (fn.name == "runtime.NumGoroutine") = false) (hn : g.n = fn.ntmps) (hrs : fn.results = #[])
    (g1 : o1.guard = none) (p1 : o1.op = .call { callee := .builtin .recover, args := #[], argTypes := #[] }) (q1 : o1.dst = some d1) (g2 : o2.guard = none) (p2 : o2.op = .assign (.tmp d1)) (q2 : o2.dst = some d2)
    (hfix : g.fix = H.length)
    (hok : (Nat.ble args.length g.n && freshAll args H H.length && freshAll [.tup []] H' H'.length && Nat.ble H.length H'.length && Nat.blt d1 g.n && Nat.blt d2 g.n) = true)
    (hgo : ∀ (C : Ctx), Cx P g C → Go C [.code rest] ⟨put (put (ixL args) d1 (.d md.got)) d2 (.d md.got), ixH H, lenL H⟩ (Ret g [] ids (.tup []) H')) : Later P f args H md H' := by
  simp only [Bool.and_eq_true] at hok
  obtain ⟨⟨⟨⟨⟨k1, k2⟩, k3⟩, k4⟩, k5⟩, k6⟩ := hok
  refine ⟨⟨fn, hf, by rw [hb]; rfl, hname⟩, k2, k3, by simpa using k4, fun w F ρ vals hF hE hH hargs => ?_⟩
  have h0 := enter_sat (fn := fn) hF hE hH hargs hn k1 k2 (by simp [hfix])
  refine callsD_of_wpS hf hb fun c₀ cs hu => ?_
  generalize hA : ({ tmps := vals.toArray ++ Array.replicate (fn.ntmps - vals.toArray.size) undef, defers := [] } : Act) = a0 at h0
  have k5 : d1 < g.n := by simpa using k5
  have k6 : d2 < g.n := by simpa using k6
  have hs1 := h0.put (d := d1) (v := .d md.got) (x := md.gotV) k5 (show R3 ρ F w (.d md.got) md.gotV from md.got_ok) rfl
  have hs2 := hs1.put (d := d2) (v := .d md.got) (x := md.gotV) k6 (show R3 ρ F w (.d md.got) md.gotV from md.got_ok) rfl
  have hsz : a0.tmps.size = g.n := h0.size
  have hev : (a0.put (some d1) md.gotV).eval (.tmp d1) = md.gotV := by
    simp [Act.put, Act.eval, hsz, k5]
  have hr1 : (execOp a0.eval o1).run P.P w = .ok .recover w := by simp only [execOp, p1]; rfl
  have hr2 : (execOp (a0.put (some d1) md.gotV).eval o2).run P.P w = .ok (.value md.gotV) w := by
    simp only [execOp, p2, hev]; rfl
  have fin : ∀ cs', cs' = { c₀ with mode := md.done } :: cs → rest.wpS P.P (bodyPostS P.P fn c₀ cs (fun e u w' => u = md.done ∧ Post w F ρ H.length H (.tup []) H' e w')) ((a0.put (some d1) md.gotV).put (some d2) md.gotV) cs' w := by
    rintro cs' rfl
    refine wpS_of_wp ?_
    have := hgo (ctx0 P g w F ρ H []) ⟨⟨rfl, rfl, rfl, htys⟩, rfl⟩ _ w ⟨ρ, F, by rw [ixL_eq, ixH_eq, lenL_eq]; exact hs2⟩
    refine wp_mono (wq_none.1 this) ?_
    rintro e a' w' ⟨s', ⟨ρ', F', h'⟩, hret⟩
    obtain ⟨y, y1, y2⟩ := ret_post (fn := fn) (rs := []) htys hrs k3 h' hret
    rw [hfix] at y2
    rcases hret.1 with rfl | rfl
    · exact ⟨h'.defers.none rfl, md.done, rfl, y, y1, rfl, y2⟩
    · exact ⟨h'.defers.none rfl, md.done, rfl, y, y1, rfl, y2⟩
  refine wpS_seq (wpS_region ?_)
  have hwt : ∀ (o : Oper) ys, o.guard = none → Region.wanted o ys = true := fun o ys h => by simp [Region.wanted, h]
  show wpOpsS P.P #[o1, o2] _ [0, 1] a0 (c₀ :: cs) w
  have hrec := md.recovers c₀ cs hu
  have e0 : (#[o1, o2] : Array Oper)[0]? = some o1 := rfl
  have e1 : (#[o1, o2] : Array Oper)[1]? = some o2 := rfl
  rw [wpOpsS, e0]
  simp only [hwt o1 _ g1, if_true, hr1]
  split at hrec
  · rename_i v cs' hh
    obtain ⟨rfl, rfl⟩ := hrec
    rw [hh]
    simp only [q1]
    rw [wpOpsS, e1]
    simp only [hwt o2 _ g2, if_true, hr2, Oper.upon, q2, wpOpsS]
    exact fin _ rfl
  · rename_i hh
    rw [hh]
    simp only [q1]
    rw [show (Value.nilIface) = md.gotV from hrec.1.symm, wpOpsS, e1]
    simp only [hwt o2 _ g2, if_true, hr2, Oper.upon, q2, wpOpsS]
    exact fin _ hrec.2

/-! ### the function that defers -/
def cutN : Nat → Code → Option (List Code × Code)
  | 0, c => some ([], c)
  | n + 1, .seq a b => match cutN n b with
    | some (f, r) => some (a :: f, r)
    | none => none
  | _ + 1, _ => none

theorem region_den_own {C : Ctx} {Q : Exit → Act → World → Prop} {id : Nat} {ops : Array Oper} {K : List Item} {a : Act} {w : World} (hr : C.rd = none) (h : wpList C.P ops (den C Q K) ops.toList a w) : den C Q (.code (.region id ops false) :: K) .normal a w := by
  rw [den_code, hr]
  exact wq_none.2 (wp_region_list h)

theorem cutN_den {C : Ctx} {Q : Exit → Act → World → Prop} : ∀ (n : Nat) (c : Code) {f : List Code} {r : Code} (h : cutN n c = some (f, r)) {a : Act} {w : World}, den C Q (codes f [.code r]) .normal a w → den C Q [.code c] .normal a w
  | 0, c, f, r, h, a, w, hd => by
    simp only [cutN, Option.some.injEq, Prod.mk.injEq] at h
    obtain ⟨rfl, rfl⟩ := h
    exact hd
  | n + 1, .seq x b, f, r, h, a, w, hd => by
    refine wp_seq_den ?_
    simp only [cutN] at h
    split at h
    · rename_i f' r' hb
      simp only [Option.some.injEq, Prod.mk.injEq] at h
      obtain ⟨rfl, rfl⟩ := h
      refine wq_mono hd fun e a w hq => ?_
      cases e with
      | normal => exact cutN_den n b hb hq
      | _ =>
        have := hq
        change den C Q (codes f' [.code r']) _ a w at this
        rw [den_other (by simp)] at this
        exact this
    · cases h

theorem wpList_cut {P : Program} {all : Array Oper} {Q1 Q2 : Exit → Act → World → Prop} {o : Oper} {rest : List Oper} {a : Act} {w : World} (h : wpList P all Q1 [o] a w) (hn : ∀ a w, Q1 .normal a w → wpList P all Q2 rest a w)
    (hp : ∀ c a w, Q1 (.panic c) a w → Q2 (.panic c) a w) (ho : ∀ a w, ¬ Q1 .outgrown a w) : wpList P all Q2 (o :: rest) a w := by
  unfold wpList at h ⊢
  split at h
  · rename_i hw
    rw [if_pos hw]
    rcases h with h | ⟨_, a4, w4, h6⟩
    · exact .inl (Oper.upon_exits (fun a w h => hn a w h) hp ho h)
    · exact absurd h6 (ho a4 w4)
  · rename_i hw
    rw [if_neg hw]
    exact hn _ _ h

def ptrsB (k : Nat) : List V → Bool
  | [] => true
  | .ptr i _ :: r => Nat.blt i k && ptrsB k r
  | _ => false
def deferInfo (s : St) (o : Oper) : Option (FuncId × List V) :=
  match o.op, o.guard, o.dst with
  | .defer c, none, none => match c.callee, c.args.toList with
    | .value fo, [] => match ev s.L [] fo with
      | some (.fn f caps) => some (f, caps)
      | _ => none
    | _, _ => none
  | _, _, _ => none

/-- The state behind what was deferred. -/
def behind (s : St) (is : List Nat) (H' : List Ch) : St :=
  let ids := app2 is (newIds s.m (H'.length - is.length))
  { L := mapL (killIn (dropN is.length is)) s.L, H := app2 (rnH ids ids H') (mapH (killIn (dropN is.length is)) (delAll is s.H)), m := s.m + (H'.length - is.length) }

def pinL (pins : List Nat) : List (Nat × V) → Bool
  | [] => true
  | (t, v) :: r => inL t pins && !isG v && pinL pins r
/-- The state in which a box is no longer told. -/
def dim (s : St) (id : Nat) : St :=
  match get s.H id with
  | some (.box us) => ⟨s.L, (id, .box (us.map fun _ => .dead)) :: delH id s.H, s.m⟩
  | _ => s
theorem SatW.dim {C : Ctx} {s : St} {a : Act} {w : World} {ρ : Nat → Value} {F : Nat → Prop} (h : SatW C s a w ρ F) (id : Nat) : SatW C (dim s id) a w ρ F := by
  unfold Sx.dim
  split
  · rename_i us hg
    have hm := get_mem hg
    obtain ⟨b, cs, T, h1, h2, h3⟩ := h.ch id _ hm
    refine h.touch (c' := .box (us.map fun _ => .dead)) hm (w' := w) ⟨rfl, rfl, rfl, Nat.le_refl _, fun _ _ _ => rfl⟩ ⟨b, cs, T, h1, h2, h3.imp fun a b _ hab => R1.one hab⟩ ?_
    simp [Ch.all, V.all1, fresh]
  · exact h
/-- The end of a function that has deferred a closure. -/
def RetLater (P : Pg) (g : Cfg) (pins : List Nat) (k : Nat) (C1 : Ctx) (f : FuncId) (A : List V) (rs : List ResultVar) (ids : List Nat) (r : V) (H' : List Ch) : Exit → St → Prop := fun e s =>
  ∃ (md : Md) (args : List V) (is : List Nat) (H1 H2 : List Ch) (s2 : St), md.ends e ∧ ((∃ c, e = .panic c) → pinL pins s.L = true) ∧ (∀ a w ρ F, SatW C1 s a w ρ F → SatW C1 s2 a w ρ F) ∧ Later P f args H1 md H2 ∧ AEq A (args.map (V.map3 (ren0 is))) ∧ okIs { g with fix := k } s2.m is H1.length H1.length = true ∧ HLE s2.H (rnH is is H1) ∧ Ret g rs ids r H' .ret (behind s2 is H2)

/-- What the statement that defers must find. -/
def DeferJ (P : Pg) (g : Cfg) (pins : List Nat) (C : Ctx) (o2 : Oper) (rest : Code) (rs : List ResultVar) (ids : List Nat) (r : V) (H' : List Ch) (s : St) : Prop :=
  ∃ f A k, deferInfo s o2 = some (f, A) ∧ (ptrsB k A && Nat.ble k s.m && Nat.ble g.fix k) = true ∧ Callable P.P f ∧ ∀ C1, Cx P { g with fix := k } C1 → Go C1 [.code rest] s (RetLater P g pins k C1 f A rs ids r H')

def pinB (pins : List Nat) : List Oper → Bool
  | [] => true
  | o :: r => (match o.dst with | some d => !inL d pins | none => true) && pinB pins r
theorem pinL_mem {pins : List Nat} {t : Nat} {v : V} : ∀ {L : List (Nat × V)}, pinL pins L = true → (t, v) ∈ L → isG v = false ∧ inL t pins = true
  | (t', v') :: r, h, hm => by
    simp only [pinL, Bool.and_eq_true, Bool.not_eq_true'] at h
    rcases List.mem_cons.1 hm with e | hm
    · obtain ⟨rfl, rfl⟩ := Prod.mk.inj e; exact ⟨h.1.2, h.1.1⟩
    · exact pinL_mem h.2 hm
theorem pinB_mem {pins : List Nat} {o : Oper} {d : Nat} (hd : o.dst = some d) : ∀ {l : List Oper}, pinB pins l = true → o ∈ l → inL d pins = false
  | o' :: r, h, hm => by
    simp only [pinB, Bool.and_eq_true] at h
    rcases List.mem_cons.1 hm with e | hm
    · subst e; have h1 := h.1; rw [hd] at h1; simpa using h1
    · exact pinB_mem hd h.2 hm
theorem RetLater.quiet {P : Pg} {g : Cfg} {pins : List Nat} {k : Nat} {C1 : Ctx} {f : FuncId} {A : List V} {rs : List ResultVar} {ids : List Nat} {r : V} {H' : List Ch} {ops : Array Oper} (hp : pinB pins ops.toList = true) : QuietP ops (RetLater P g pins k C1 f A rs ids r H') := by
  rintro c s ⟨md, args, is, H1, H2, s2, _, hpin, _⟩ t v hv
  obtain ⟨h1, h2⟩ := pinL_mem (hpin ⟨c, rfl⟩) hv
  exact ⟨h1, fun o ho e => by rw [pinB_mem e hp ho] at h2; cases h2⟩
theorem HeadK.noPanic {Φ : Exit → St → Prop} : NoPanic (HeadK Φ) := fun c s h => h

theorem ptrs_hold {ρ ρ' : Nat → Value} {F F' : Nat → Prop} {w w' : World} {k : Nat} (hρ : ∀ i, i < k → ρ' i = ρ i) : ∀ {A : List V} {cs : List Value}, ptrsB k A = true → All2 (R0 ρ F w) A cs → All2 (R3 ρ' F' w') A cs
  | [], [], _, _ => trivial
  | .ptr i o :: r, c :: cs, h, ⟨h1, h2⟩ => by
    simp only [ptrsB, Bool.and_eq_true] at h
    obtain ⟨b, e1, e2⟩ := h1
    exact ⟨⟨b, by rw [hρ i (by simpa using h.1)]; exact e1, e2⟩, ptrs_hold hρ h.2 h2⟩
  | [], _ :: _, _, h => h.elim
  | .ptr _ _ :: _, [], _, h => h.elim
  | .d _ :: _, _, h, _ => by cases h
  | .nils :: _, _, h, _ => by cases h
  | .own _ :: _, _, h, _ => by cases h
  | .vptr .. :: _, _, h, _ => by cases h
  | .eptr _ :: _, _, h, _ => by cases h
  | .fn .. :: _, _, h, _ => by cases h
  | .agg _ :: _, _, h, _ => by cases h
  | .tup _ :: _, _, h, _ => by cases h
  | .g .. :: _, _, h, _ => by cases h
  | .dead :: _, _, h, _ => by cases h

theorem holds_of {C : Ctx} {s : St} {a : Act} {w : World} {ρ : Nat → Value} {F : Nat → Prop} (h : SatW C s a w ρ F) {is : List Nat} {args : List V} {H : List Ch} (hfr : freshAll args H H.length = true) (hl : is.length = H.length) (hnd : nodupB is = true) (hH : HLE s.H (rnH is is H)) :
    Holds (fun i => ρ (nth is i)) F w H := by
  simp only [freshAll, Bool.and_eq_true, List.all_eq_true] at hfr
  have hx : ∀ i, i < H.length → ∃ c, H[i]? = some c ∧ ∃ c0, (nth is i, c0) ∈ s.H ∧ ChEq c0 (c.map (ren0 is)) := fun i hi => by
    obtain ⟨c0, k1, k2⟩ := rnH_mem hl hH (List.getElem?_eq_getElem hi)
    exact ⟨_, List.getElem?_eq_getElem hi, c0, k1, k2⟩
  refine ⟨fun i c hc => ?_, fun i j b hi hj hij e => ?_, fun i b hi e => ?_⟩
  · have hi := (List.getElem?_eq_some_iff.1 hc).1
    obtain ⟨c', hc', c0, k1, k2⟩ := hx i hi
    rw [hc] at hc'
    obtain rfl := Option.some.inj hc'
    exact ChOK.unren (k := H.length) (ρ := fun i => ρ (nth is i)) (fun _ _ => rfl) hi (hfr.2 c (List.mem_of_getElem? hc)).1 (ChEq_sound k2 (h.ch _ _ k1))
  · obtain ⟨_, _, c0, k1, _⟩ := hx i hi
    obtain ⟨_, _, c1, k3, _⟩ := hx j hj
    exact fun e2 => h.sep _ _ c0 c1 b k1 k3 (nodupB_sound hnd i j (by omega) (by omega) hij) (bks_main e) (bks_main e2)
  · obtain ⟨_, _, c0, k1, _⟩ := hx i hi
    exact h.out _ c0 b k1 (bks_main e)

theorem invoke_fn {P : Program} {f : FuncId} {cs : Array Value} (hcall : Callable P f) (w : World) : (invoke (.fn (.func f) cs) #[]).run P w = .ok (.enter f cs) w := by
  obtain ⟨fn, h1, h2, h3⟩ := hcall
  have hb : fn.body.isNone = false := by cases hh : fn.body <;> simp_all
  simp only [invoke, callFunc, program, Sem.run_bind, Sem.run_pure, Result.andThen]
  simp [Sem.run, h1, h3, hb]

/-- **HOW A FUNCTION THAT DEFERS A CLOSURE IS WALKED**: what stands ahead of the statement (codes f, which may return); the closure is made; then the rest, which ends with what was deferred. -/
theorem Proc.mkDefer {P : Pg} (g : Cfg) (htys : TysOK P.P g.tys) (ids : List Nat) (n : Nat) (pins : List Nat) {f : FuncId} {fn : Func} {c : Code} {pre : List Code} {id : Nat} {o1 o2 : Oper} {rest : Code} {args : List V} {H : List Ch} {r : V} {H' : List Ch} {rs : List ResultVar}
    (hf : P.P.funcs[f]? = some fn) (hb : fn.body = some c) (hcut : cutN n c = some (pre, .seq (.region id #[o1, o2] false) rest)) (hname : (fn.name == "runtime.NumGoroutine") = false)
    (hn : g.n = fn.ntmps) (hrs : fn.results = rs.toArray) (hok : (Nat.ble args.length g.n && freshAll args H H.length && freshAll [r] H' H'.length && Nat.ble g.fix H.length && Nat.ble H.length H'.length) = true)
    (hgo : ∀ (C : Ctx), Cx P g C → Go C (codes pre [.back fun s => Go C [.ops #[o1, o2] [o1], .back (DeferJ P g pins C o2 rest rs ids r H')] s fun _ _ => False]) ⟨ixL args, ixH H, lenL H⟩ (HeadK (Ret g rs ids r H'))) : Proc P f g.fix args H r H' := by
  simp only [Bool.and_eq_true] at hok
  obtain ⟨⟨⟨⟨k1, k2⟩, k3⟩, k4⟩, k5⟩ := hok
  refine ⟨⟨fn, hf, by rw [hb]; rfl, hname⟩, k2, k3, by simpa using k4, by simpa using k5, fun w F ρ vals hF hE hH hargs => ?_⟩
  have h0 := enter_sat (fn := fn) hF hE hH hargs hn k1 k2 k4
  refine calls_of_wp_defers hf hb ?_
  let C := ctx0 P g w F ρ H []
  have hx : Cx P g C := ⟨⟨rfl, rfl, rfl, htys⟩, rfl⟩
  have hgo := hgo C hx _ w ⟨ρ, F, by rw [ixL_eq, ixH_eq, lenL_eq]; exact h0⟩
  refine wq_none.1 (cutN_den (C := C) (Q := bodyPostD P.P fn (Post w F ρ g.fix H r H')) n c hcut (den_front (J := fun s => Go C [.ops #[o1, o2] [o1], .back (DeferJ P g pins C o2 rest rs ids r H')] s fun _ _ => False) (Φ := Ret g rs ids r H') (fun s a w' hs hj => ?_) (fun s a w' hs hr => ?_) pre _ _ hgo))
  · refine wp_seq_den (region_den_own rfl ?_)
    show wpList C.P #[o1, o2] (den C (bodyPostD P.P fn (Post w F ρ g.fix H r H')) [.code rest]) [o1, o2] a w'
    refine wpList_cut (Q1 := den C (conc C fun _ _ => False) [.back (DeferJ P g pins C o2 rest rs ids r H')]) (show wqList C.rd C.P #[o1, o2] (den C (conc C fun _ _ => False) [.back (DeferJ P g pins C o2 rest rs ids r H')]) [o1] a w' from hj a w' hs).1 (fun a1 w1 h1 => ?_) (fun c a w h => by obtain ⟨_, _, h⟩ := h; exact h.elim) (fun a w h => by obtain ⟨_, _, h⟩ := h; exact h.elim)
    obtain ⟨s1, ⟨ρ1, F1, hs1⟩, f1, A, k, hdi, hkb, hcall, hgo1⟩ := h1
    simp only [Bool.and_eq_true] at hkb
    obtain ⟨⟨b1, b2⟩, b3⟩ := hkb
    have b2 : k ≤ s1.m := by simpa using b2
    have b3 : g.fix ≤ k := by simpa using b3
    unfold deferInfo at hdi
    split at hdi
    · rename_i cl hop hgd hds
      split at hdi
      · rename_i fo hcl hca
        split at hdi
        · rename_i f2 caps hev
          simp only [Option.some.injEq, Prod.mk.injEq] at hdi
          obtain ⟨rfl, rfl⟩ := hdi
          obtain ⟨cs, hcs, hcaps⟩ := (show R1 ρ1 F1 w1 (.fn f2 caps) _ from (ev_sound hs1 (pc_nil _) hev).1)
          have hca : cl.args = #[] := by cases hcc : cl.args; simp_all
          have hrun : (execOp a1.eval o2).run C.P w1 = .ok (.defer { target := .fn (.func f2) cs.toArray, args := #[] }) w1 := by
            simp only [execOp, hop, resolve, hcl, hcs, hca, Deferred.ofValue]
            simp [Sem.run, bind, pure]
            rfl
          refine wpList_plain hgd fun N hN => ?_
          unfold Oper.wp
          rw [hrun, Oper.upon_defer, hds]
          refine hN _ _ ?_
          let d : Deferred := { target := .fn (.func f2) cs.toArray, args := #[] }
          have hdef : a1.defers = [] := hs1.defers.none rfl
          refine wq_none.2 ?_
          show Code.wp C.P rest (bodyPostD P.P fn (Post w F ρ g.fix H r H')) { a1 with defers := d :: a1.defers } w1
          rw [hdef]
          let C1 : Ctx := { C with defs := [d], fix := k, ρ0 := ρ1 }
          have hx1 : Cx P { g with fix := k } C1 := ⟨⟨rfl, rfl, rfl, htys⟩, rfl⟩
          have hsat : SatW C1 s1 { a1 with defers := [d] } w1 ρ1 F1 :=
            { size := hs1.size, defers := .start rfl, slot := hs1.slot, ch := hs1.ch, sep := hs1.sep, out := hs1.out, freshL := hs1.freshL, freshH := hs1.freshH, lt := hs1.lt, mine := hs1.mine, sub := hs1.sub, base := hs1.base, fixd := ⟨b2, fun _ _ => rfl⟩, keep := hs1.keep, env := hs1.env }
          have hfx1 : ∀ i, i < g.fix → ρ1 i = ρ i := hs1.fixd.2
          refine wp_mono (wq_none.1 (hgo1 C1 hx1 _ _ ⟨ρ1, F1, hsat⟩)) ?_
          rintro e a2 w2 ⟨s2, ⟨ρ2, F2, hs2⟩, md, args2, is, H1, H2, s3, hend, _, hweak, hlat, hA, hok, hHL, hret⟩
          have hs3 := hweak a2 w2 ρ2 F2 hs2
          obtain ⟨_, l2, l3, l4, l5⟩ := hlat
          have hok2 := hok
          simp only [okIs, Bool.and_eq_true] at hok2
          obtain ⟨⟨⟨o1', _⟩, _⟩, o4⟩ := hok2
          have o4 := Nat.eq_of_beq_eq_true o4
          have hhold := holds_of hs3 l2 o4 o1' hHL
          have hA3 : All2 (R3 ρ2 F2 w2) caps cs := ptrs_hold (fun i hi => hs3.fixd.2 i hi) b1 hcaps
          have hA4 := AEq_sound hA hA3
          simp only [freshAll, Bool.and_eq_true, List.all_eq_true] at l2
          have hA5 : All2 (R3 (fun i => ρ2 (nth is i)) F2 w2) args2 cs := hA4.unmap fun u v hu hr => R3.unren (k := H1.length) (fun _ _ => rfl) (l2.1 u hu) hr
          have hdel := l5 w2 F2 _ cs hs3.lt (show EnvOK P.env F2 w2 from hs3.env) hhold hA5
          have key : Leaves P.P fn a2.tmps (Post w F ρ g.fix H r H') a2.defers md.mode w2 := by
            rw [show a2.defers = [d] from hs2.defers.none rfl]
            refine leaves_cons md.ne_run (invoke_fn hcall w2) (hdel.mono ?_)
            rintro e3 u3 w3 ⟨rfl, hpost⟩
            obtain ⟨v3, ρ3, F3, rfl, _, _, hs4⟩ := SatW.called (g := { g with fix := k }) hs3 rfl hok hHL l4 l3 hpost
            have hs5 : SatW (ctx0 P g w F ρ H [d]) (behind s3 is H2) a2 w3 ρ3 F3 := by
              have hs4 : SatW C1 (behind s3 is H2) a2 w3 ρ3 F3 := by
                rw [← o4] at hs4
                exact hs4
              exact { size := hs4.size, defers := hs4.defers, slot := hs4.slot, ch := hs4.ch, sep := hs4.sep, out := hs4.out, freshL := hs4.freshL, freshH := hs4.freshH, lt := hs4.lt, mine := hs4.mine, sub := hs4.sub, base := hs4.base, fixd := ⟨Nat.le_trans b3 hs4.fixd.1, fun i hi => (hs4.fixd.2 i (Nat.lt_of_lt_of_le hi b3)).trans (hfx1 i hi)⟩, keep := hs4.keep, env := hs4.env }
            obtain ⟨y, y1, y2⟩ := ret_post (fn := fn) htys hrs k3 hs5 hret
            show Leaves P.P fn a2.tmps (Post w F ρ g.fix H r H') [] (settle md.done) w3
            rw [md.settled]
            exact ⟨y, y1, y2⟩
          cases md with
          | back =>
            rcases hend with rfl | rfl
            · exact key
            · exact key
          | pan t ns =>
            have hend : e = .panic (dieC t ns) := hend
            subst hend
            exact key
        · simp at hdi
      · simp at hdi
    · simp at hdi
  · obtain ⟨ρ', F', hs⟩ := hs
    obtain ⟨y, y1, y2⟩ := ret_post (fn := fn) htys hrs k3 hs hr
    show Leaves P.P fn a.tmps (Post w F ρ g.fix H r H') a.defers .returning w'
    rw [show a.defers = [] from hs.defers.none rfl]
    exact ⟨y, y1, y2⟩
end Go.Sx

/-
  Sx, part 45: drawn statements, by all their orders.
-/
set_option linter.unusedVariables false
set_option linter.unusedSimpArgs false
namespace Go.Sx

/-- The orders of a statement: which operation comes, what comes behind it, or which comes in its place. -/
inductive Ords where
  | leaf
  | no
  | fork (i : Nat) (here others : Ords)
def Ords.firsts : Ords → List Nat
  | .fork i _ b => i :: b.firsts
  | _ => []
def Ords.depth : Ords → Nat
  | .fork _ a b => max (a.depth + 1) b.depth
  | _ => 0
def Ords.top (ops : Array Oper) (t : Ords) (l : Array Bool) : Bool := match t with
  | .leaf => true
  | .no => false
  | t => decide (t.firsts = Region.ready .any ops l)
def Ords.chk (ops : Array Oper) : Ords → Array Bool → Bool
  | .leaf, l => (Region.ready .any ops l).isEmpty
  | .no, _ => true
  | .fork i a b, l => a.chk ops (l.setIfInBounds i true) && a.top ops (l.setIfInBounds i true) && b.chk ops l
def EvT (C : Ctx) (ops : Array Oper) (J : St → Prop) : Ords → St → Prop
  | .leaf, s => J s
  | .no, _ => True
  | .fork i a b, s => Go C [.ops ops (pickL ops.toList [i]), .back (EvT C ops J a)] s (fun _ _ => False) ∧ EvT C ops J b s

section
variable {C : Ctx} {ops : Array Oper} {J : St → Prop} {Q : Exit → Act → World → Prop}
/-- One of the first ones. -/
theorem EvT.pick {t : Ords} {s : St} {l : Array Bool} (h : EvT C ops J t s) (hc : t.chk ops l = true) {i : Nat} (hi : i ∈ t.firsts) :
    ∃ a, a.chk ops (l.setIfInBounds i true) = true ∧ a.top ops (l.setIfInBounds i true) = true ∧ a.depth + 1 ≤ t.depth ∧ Go C [.ops ops (pickL ops.toList [i]), .back (EvT C ops J a)] s (fun _ _ => False) := by
  induction t with
  | leaf => cases hi
  | no => cases hi
  | fork j a b _ ih =>
    simp only [Ords.chk, Bool.and_eq_true] at hc
    obtain ⟨⟨h2, h3⟩, h4⟩ := hc
    rcases List.mem_cons.1 hi with e | hi
    · subst e; exact ⟨a, h2, h3, Nat.le_max_left _ _, h.1⟩
    · obtain ⟨c, c1, c2, c3, c4⟩ := ih h.2 h4 hi
      exact ⟨c, c1, c2, Nat.le_trans c3 (Nat.le_max_right _ _), c4⟩

theorem EvT.sound (hJ : ∀ s a w, Sat C s a w → J s → Q .normal a w) : ∀ (n : Nat) (t : Ords) (l : Array Bool) (s : St) (a : Act) (w : World), t.chk ops l = true → t.top ops l = true → EvT C ops J t s → Sat C s a w → t.depth ≤ n → wpAny C.P .any ops Q n l a w
  | n, .leaf, l, s, a, w, hc, _, ht, hs, _ => by
    have hr : Region.ready .any ops l = [] := by simpa [Ords.chk] using hc
    cases n with
    | zero => exact ⟨hr, hJ s a w hs ht⟩
    | succ n => exact ⟨fun _ => hJ s a w hs ht, fun i hi => by rw [hr] at hi; cases hi⟩
  | n, .no, l, s, a, w, _, htop, _, _, _ => by simp [Ords.top] at htop
  | 0, .fork i x y, l, s, a, w, _, _, _, _, hd => by
    have : x.depth + 1 ≤ (Ords.fork i x y).depth := Nat.le_max_left _ _
    omega
  | n + 1, .fork i x y, l, s, a, w, hc, htop, ht, hs, hd => by
    have hr : (Ords.fork i x y).firsts = Region.ready .any ops l := by simpa [Ords.top] using htop
    refine ⟨fun h => (by rw [← hr] at h; cases h), fun j hj => ?_⟩
    rw [← hr] at hj
    obtain ⟨b, b1, b2, b4, b3⟩ := ht.pick hc hj
    refine one_op b3 hs (fun s1 a1 w1 h1 hj1 => EvT.sound hJ n b _ s1 a1 w1 b1 b2 hj1 h1 (by omega)) (fun _ _ _ _ _ h => h.elim) (fun _ h => h.elim)
end

/-- **A statement that draws its order, by each of its orders**: all come to one state. -/
theorem Cx.every {P : Pg} {g : Cfg} {C : Ctx} (x : Cx P g C) {s s' : St} {K K' : List Item} {Φ : Exit → St → Prop} {ob : List Prop} (t : Ords) (s2 : St) {id : Nat} {ops : Array Oper} (h : run g 1000 K s [] = .code ob (.region id ops true) K' s') (ho : AllP ob) (hm : P.P.follows .mixedOrders = true)
    (hc : (t.chk ops (Array.replicate ops.size false) && t.top ops (Array.replicate ops.size false) && Nat.ble t.depth ops.size) = true) (he : EvT C ops (fun s => LE g.fix s s2) t s') (k : Go C K' s2 Φ) : Go C K s Φ := by
  refine st x.ty x.n x.fix h ⟨ho, ?_⟩
  rintro a w ⟨ρ, F, hs⟩
  have hd : Mod none w { w with drawn := w.drawn + 1 } := ⟨rfl, rfl, rfl, Nat.le_refl _, fun _ _ _ => rfl⟩
  have hs1 := hs.mod hd
  simp only [Bool.and_eq_true] at hc
  obtain ⟨⟨h1, h2⟩, h3⟩ := hc
  have hP : C.P.follows .mixedOrders = true := x.progP.symm ▸ hm
  refine x.ofWp ?_
  exact wp_region_any hP (EvT.sound (fun s a w hs hj => k a w (LE.sat (x.fix ▸ hj) hs)) ops.size t _ s' a _ h1 h2 he ⟨ρ, F, hs1⟩ (by simpa using h3))
end Go.Sx

/-
  Sx, part 46: what is owned is data where the function ends; a stack is cut.
-/
set_option linter.unusedVariables false
set_option linter.unusedSimpArgs false
namespace Go.Sx
section
variable {P : Program} {Q Q' : Exit → Act → World → Prop}
theorem LetsOut.mono (h : ∀ e a w, Q e a w → Q' e a w) : LetsOut Q → LetsOut Q' := fun ⟨a, w, hq⟩ => ⟨a, w, h _ a w hq⟩
theorem Oper.upon_mono2 {o : Oper} {a : Act} {K K' : Act → World → Prop} (hK : ∀ a w, K a w → K' a w) (h : ∀ e a w, Q e a w → Q' e a w) : ∀ {r : Result Next}, o.upon P a K Q r → o.upon P a K' Q' r := by
  intro r hr
  cases r with
  | ok n w' =>
    cases n <;> simp only [Oper.upon] at hr ⊢ <;>
      first
        | exact hK _ _ hr
        | exact Calls.mono hr (fun e w'' he => by
            cases e with
            | returned v => exact hK _ _ he
            | panicked c => exact h _ _ _ he
            | outgrown => exact LetsOut.mono h he)
        | exact Rows.mono hr (fun _ _ he => hK _ _ he)
  | halt x w' =>
    cases x <;> simp only [Oper.upon] at hr ⊢
    exact h _ _ _ hr
theorem wpList_mono {ops : Array Oper} (h : ∀ e a w, Q e a w → Q' e a w) : ∀ {l : List Oper} {a : Act} {w : World}, wpList P ops Q l a w → wpList P ops Q' l a w
  | [], a, w, hl => h _ a w hl
  | o :: r, a, w, hl => by
    unfold wpList at hl ⊢
    split
    · rename_i hw
      rw [if_pos hw] at hl
      rcases hl with hl | hl
      · exact .inl (Oper.upon_mono2 (fun a w hh => wpList_mono h hh) h hl)
      · exact .inr ⟨hl.1, LetsOut.mono h hl.2⟩
    · rename_i hw
      rw [if_neg hw] at hl
      exact wpList_mono h hl
theorem upIn_mono2 {Fc : Fence} {n : Nat} {o : Oper} {a : Act} {K K' : Act → World → Prop} (hK : ∀ a w, K a w → K' a w) (h : ∀ e a w, Q e a w → Q' e a w) : ∀ {r : Result Next}, o.uponIn Fc n P a K Q r → o.uponIn Fc n P a K' Q' r := by
  intro r hr
  cases r with
  | ok x w' =>
    cases x <;> simp only [Oper.uponIn] at hr ⊢ <;>
      first
        | exact hK _ _ hr
        | exact ⟨hr.1, CallsIn.mono hr.2 (fun e w'' he => by
            cases e with
            | returned v => exact hK _ _ he
            | panicked c => exact h _ _ _ he
            | outgrown => exact LetsOut.mono h he)⟩
        | exact ⟨hr.1, RowsIn.mono hr.2 (fun _ _ he => hK _ _ he)⟩
        | exact ⟨hr.1, RoundIn.mono hr.2 (fun e w'' he => by
            cases e with
            | returned v => exact hK _ _ he
            | panicked c => exact h _ _ _ he
            | outgrown => exact LetsOut.mono h he)⟩
  | halt x w' =>
    cases x <;> simp only [Oper.uponIn] at hr ⊢
    exact h _ _ _ hr
theorem wpListIn_mono2 {Fc : Fence} {n : Nat} {ops : Array Oper} (h : ∀ e a w, Q e a w → Q' e a w) : ∀ {l : List Oper} {a : Act} {w : World}, wpListIn Fc n P ops Q l a w → wpListIn Fc n P ops Q' l a w
  | [], a, w, hl => h _ a w hl
  | o :: r, a, w, hl => by
    unfold wpListIn at hl ⊢
    split
    · rename_i hw
      rw [if_pos hw] at hl
      exact ⟨hl.1, upIn_mono2 (fun a w hh => wpListIn_mono2 h hh) h hl.2⟩
    · rename_i hw
      rw [if_neg hw] at hl
      exact ⟨hl.1, wpListIn_mono2 h hl.2⟩
theorem wqList_mono {rr : Option Nat} {ops : Array Oper} (h : ∀ e a w, Q e a w → Q' e a w) {l : List Oper} {a : Act} {w : World} (hl : wqList rr P ops Q l a w) : wqList rr P ops Q' l a w :=
  ⟨wpList_mono h hl.1, wpListIn_mono2 h hl.2⟩
end
section
variable {C : Ctx} {s : St} {K : List Item} {Φ Φ' : Exit → St → Prop}

theorem den_mono {Q Q' : Exit → Act → World → Prop} (h : ∀ e a w, Q e a w → Q' e a w) : ∀ (K : List Item) (e : Exit) (a : Act) (w : World), den C Q K e a w → den C Q' K e a w
  | [], e, a, w, hd => h e a w hd
  | .code c :: K, e, a, w, hd => by
    cases e with
    | normal => exact wq_mono hd fun e a w hq => den_mono h K e a w hq
    | _ => exact den_mono h K _ a w hd
  | .ops all l :: K, e, a, w, hd => by
    cases e with
    | normal => exact wqList_mono (fun e a w hq => den_mono h K e a w hq) hd
    | _ => exact den_mono h K _ a w hd
  | .blk id :: K, e, a, w, hd => by
    cases e with
    | exit i =>
      simp only [den, Exit.inBlock] at hd ⊢
      split
      · rename_i hi; rw [if_pos hi] at hd; exact den_mono h K _ a w hd
      · rename_i hi; rw [if_neg hi] at hd; exact den_mono h K _ a w hd
    | _ => exact den_mono h K _ a w hd
  | .back J :: K, e, a, w, hd => by
    cases e with
    | normal => exact hd
    | _ => exact den_mono h K _ a w hd

/-- Ends may be weakened. -/
theorem Go.relax (h : ∀ e s a w, Φ' e s → Sat C s a w → ∃ s2, Sat C s2 a w ∧ Φ e s2) (k : Go C K s Φ') : Go C K s Φ := fun a w hs =>
  den_mono (fun e a w ⟨s1, h1, h2⟩ => h e s1 a w h2 h1) K _ a w (k a w hs)

theorem Sat.frozen {a : Act} {w : World} (h : Sat C s a w) (id : Nat) : Sat C (frozen s id) a w := by
  have : Go C [] s (fun _ s' => s' = Sx.frozen s id) := Go.freeze id fun a w hs => ⟨_, hs, rfl⟩
  obtain ⟨s', h1, rfl⟩ := this a w h
  exact h1
def freezes : List Nat → St → St
  | [], s => s
  | id :: r, s => freezes r (frozen s id)
theorem Sat.freezes {a : Act} {w : World} : ∀ (ids : List Nat) {s : St}, Sat C s a w → Sat C (freezes ids s) a w
  | [], _, h => h
  | id :: r, _, h => (h.frozen id).freezes r

/-- Where the function ends, these owned slices are data. -/
theorem Go.atExit (ids : List Nat) (k : Go C K s fun e s => Φ e (freezes ids s)) : Go C K s Φ :=
  Go.relax (fun e s a w hp hs => ⟨_, hs.freezes ids, hp⟩) k

/-- A nil slice in a box is one of no elements. -/
def nilB (id j z : Nat) (f : Nat → List D) (s : St) : St :=
  match get s.H id with
  | some (.box us) => match us[j]? with
    | some .nils => ⟨s.L, (id, .box (us.set j (.d (.sl z 0 f)))) :: delH id s.H, s.m⟩
    | _ => s
  | _ => s
theorem All2.setL {α β : Type} {R : α → β → Prop} {a : α} : ∀ {xs : List α} {ys : List β} {j : Nat}, All2 R xs ys → (∀ b, ys[j]? = some b → R a b) → All2 R (xs.set j a) ys
  | [], [], _, _, _ => trivial
  | _ :: _, _ :: _, 0, ⟨_, h⟩, e => ⟨e _ rfl, h⟩
  | _ :: _, _ :: _, _ + 1, ⟨h0, h⟩, e => ⟨h0, All2.setL h fun b hb => e b (by simpa using hb)⟩
  | [], _ :: _, _, h, _ => h.elim
  | _ :: _, [], _, h, _ => h.elim
theorem Sat.nilB {a : Act} {w : World} {id j z : Nat} {f : Nat → List D} (h : Sat C s a w) : Sat C (nilB id j z f s) a w := by
  obtain ⟨ρ, F, h⟩ := h
  unfold Sx.nilB
  split
  · rename_i us hg
    split
    · rename_i hu
      have hm := get_mem hg
      obtain ⟨b, cs, T, h1, h2, h3⟩ := h.ch id _ hm
      refine ⟨ρ, F, h.touch (c' := .box (us.set j (.d (.sl z 0 f)))) hm (w' := w) ⟨rfl, rfl, rfl, Nat.le_refl _, fun _ _ _ => rfl⟩ ⟨b, cs, T, h1, h2, h3.setL fun c hc => ?_⟩ ?_⟩
      · obtain ⟨c', c1, c2⟩ := h3.get hu
        rw [hc] at c1
        obtain rfl := Option.some.inj c1
        rw [show c = .slice none 0 0 from c2]
        exact RD.emp _ _ _ _
      · have := (h.freshH id _ hm).2
        simp only [Ch.all, List.all_eq_true] at this ⊢
        intro v hv
        rcases List.mem_or_eq_of_mem_set hv with hv | rfl
        · exact this v hv
        · rfl
    · exact ⟨ρ, F, h⟩
  · exact ⟨ρ, F, h⟩
/-- Where the function ends, this nil slice in a box is data. -/
theorem Go.atExitN (id j z : Nat) (f : Nat → List D) (k : Go C K s fun e s => Φ e (Sx.nilB id j z f s)) : Go C K s Φ :=
  Go.relax (fun e s a w hp hs => ⟨_, hs.nilB, hp⟩) k

theorem den_split {J : St → Prop} {Q : Exit → Act → World → Prop} {K2 : List Item} (hJ : ∀ s a w, Sat C s a w → J s → den C Q K2 .normal a w) : ∀ (K1 : List Item) (e : Exit) (a : Act) (w : World), den C (conc C fun _ _ => False) (K1 ++ [.back J]) e a w → den C Q (K1 ++ K2) e a w
  | [], e, a, w, hd => by
    cases e with
    | normal => obtain ⟨s, h1, h2⟩ := hd; exact hJ s a w h1 h2
    | _ => obtain ⟨_, _, h⟩ := hd; exact h.elim
  | .code c :: K, e, a, w, hd => by
    cases e with
    | normal => exact wq_mono hd fun e a w hq => den_split hJ K e a w hq
    | _ => exact den_split hJ K _ a w hd
  | .ops all l :: K, e, a, w, hd => by
    cases e with
    | normal => exact wqList_mono (fun e a w hq => den_split hJ K e a w hq) hd
    | _ => exact den_split hJ K _ a w hd
  | .blk id :: K, e, a, w, hd => by
    cases e with
    | exit i =>
      simp only [List.cons_append, den, Exit.inBlock] at hd ⊢
      split
      · rename_i hi; rw [if_pos hi] at hd; exact den_split hJ K _ a w hd
      · rename_i hi; rw [if_neg hi] at hd; exact den_split hJ K _ a w hd
    | _ => exact den_split hJ K _ a w hd
  | .back J' :: K, e, a, w, hd => by
    cases e with
    | normal => exact hd
    | _ => exact den_split hJ K _ a w hd
def takeK : Nat → List Item → List Item
  | 0, _ => []
  | _ + 1, [] => []
  | n + 1, i :: K => i :: takeK n K
def dropK : Nat → List Item → List Item
  | 0, K => K
  | _ + 1, [] => []
  | n + 1, _ :: K => dropK n K
theorem take_dropK : ∀ (n : Nat) (K : List Item), takeK n K ++ dropK n K = K
  | 0, K => rfl
  | _ + 1, [] => rfl
  | n + 1, i :: K => by simp only [takeK, dropK, List.cons_append, take_dropK n K]
def endK (J : St → Prop) : List Item → List Item
  | [] => [.back J]
  | i :: K => i :: endK J K
theorem endK_eq {J : St → Prop} : ∀ K : List Item, endK J K = K ++ [.back J]
  | [] => rfl
  | i :: K => by simp only [endK, List.cons_append, endK_eq K]

/-- The first n items; then the others, from whatever state. -/
theorem Go.split (n : Nat) (k : Go C (endK (fun s => Go C (dropK n K) s Φ) (takeK n K)) s fun _ _ => False) : Go C K s Φ := by
  intro a w hs
  rw [← take_dropK n K]
  refine den_split (J := fun s => Go C (dropK n K) s Φ) (fun s a w h1 h2 => h2 a w h1) (takeK n K) _ a w ?_
  rw [← endK_eq]
  exact k a w hs
end
end Go.Sx

/-
  Sx, part 47: drawn statements: what only reads comes first; then all orders of the rest, up to the names of new chunks.
-/
set_option linter.unusedVariables false
set_option linter.unusedSimpArgs false
namespace Go.Sx

def permL (is : List Nat) : List (Nat × V) → List (Nat × V)
  | [] => []
  | (t, v) :: r => (t, v.map4 (ren0 is)) :: permL is r
def permH (is : List Nat) : List (Nat × Ch) → List (Nat × Ch)
  | [] => []
  | (i, c) :: r => (nth is i, c.map (ren0 is)) :: permH is r
/-- Other names for the chunks. -/
def permS (is : List Nat) (s : St) : St := ⟨permL is s.L, permH is s.H, s.m⟩
def allBelow : Nat → (Nat → Bool) → Bool
  | 0, _ => true
  | n + 1, p => p n && allBelow n p
theorem allBelow_spec {p : Nat → Bool} : ∀ {n : Nat}, allBelow n p = true → ∀ i, i < n → p i = true
  | n + 1, h, i, hi => by
    simp only [allBelow, Bool.and_eq_true] at h
    by_cases e : i = n
    · subst e; exact h.1
    · exact allBelow_spec h.2 i (by omega)
def okPerm (is : List Nat) (m fix : Nat) : Bool := Nat.beq is.length m && allBelow m (fun i => Nat.blt (nth is i) m && Nat.beq (nth is (nth is i)) i) && allBelow fix (fun i => Nat.beq (nth is i) i) && Nat.ble fix m

theorem mem_permL {is : List Nat} {t : Nat} {v' : V} : ∀ {L : List (Nat × V)}, (t, v') ∈ permL is L → ∃ v, (t, v) ∈ L ∧ v' = v.map4 (ren0 is)
  | (t', v) :: r, h => by
    rcases List.mem_cons.1 h with e | h
    · obtain ⟨rfl, rfl⟩ := Prod.mk.inj e; exact ⟨v, by simp, rfl⟩
    · obtain ⟨v, h1, h2⟩ := mem_permL h; exact ⟨v, by simp [h1], h2⟩
theorem mem_permH {is : List Nat} {i : Nat} {c' : Ch} : ∀ {H : List (Nat × Ch)}, (i, c') ∈ permH is H → ∃ j c, (j, c) ∈ H ∧ i = nth is j ∧ c' = c.map (ren0 is)
  | (j, c) :: r, h => by
    rcases List.mem_cons.1 h with e | h
    · obtain ⟨rfl, rfl⟩ := Prod.mk.inj e; exact ⟨j, c, by simp, rfl, rfl⟩
    · obtain ⟨j, c, h1, h2⟩ := mem_permH h; exact ⟨j, c, by simp [h1], h2⟩

theorem Sat.perm {C : Ctx} {s : St} {a : Act} {w : World} {is : List Nat} (hp : okPerm is s.m C.fix = true) (h : Sat C s a w) : Sat C (permS is s) a w := by
  obtain ⟨ρ, F, h⟩ := h
  simp only [okPerm, Bool.and_eq_true] at hp
  obtain ⟨⟨⟨p1, p2⟩, p3⟩, p4⟩ := hp
  have q2 : ∀ i, i < s.m → nth is i < s.m ∧ nth is (nth is i) = i := fun i hi => by
    have := allBelow_spec p2 i hi
    simp only [Bool.and_eq_true] at this
    exact ⟨by simpa using this.1, Nat.eq_of_beq_eq_true this.2⟩
  have q3 : ∀ i, i < C.fix → nth is i = i := fun i hi => Nat.eq_of_beq_eq_true (allBelow_spec p3 i hi)
  let ρ' : Nat → Value := fun i => ρ (nth is i)
  have hρ : ∀ i, i < s.m → ρ' (nth is i) = ρ i := fun i hi => by show ρ (nth is (nth is i)) = ρ i; rw [(q2 i hi).2]
  have hlt : ∀ i, i < s.m → nth is i < s.m := fun i hi => (q2 i hi).1
  have hk : ∀ u v, fresh s.m u = true → R0 ρ F w u v → R0 ρ' F w (ren0 is u) v := fun u v hu hr => R0.ren hρ hu hr
  have hfr : ∀ i c, (i, c) ∈ s.H → i < s.m := fun i c hi => (h.freshH i c hi).1
  have hbk : ∀ i c b, (i, c) ∈ s.H → (bks ρ' (nth is i) (c.map (ren0 is)) b ↔ bks ρ i c b) := fun i c b hi => by
    have e := hρ i (hfr i c hi)
    cases c <;> simp only [Ch.map, bks, e]
  refine ⟨ρ', F, { size := h.size, defers := h.defers, slot := fun t v' hv => ?_, ch := fun i c' hi => ?_, sep := fun i j ci cj b hi hj hij e => ?_, out := fun i c b hi e => ?_, freshL := fun t v' hv => ?_, freshH := fun i c' hi => ?_, lt := h.lt, mine := fun i c b hi e => ?_, sub := h.sub, base := h.base, fixd := ⟨h.fixd.1, fun i hi => ?_⟩, keep := h.keep, env := h.env }⟩
  · obtain ⟨v, hv0, rfl⟩ := mem_permL hv
    obtain ⟨x, hx, hr⟩ := h.slot t v hv0
    refine ⟨x, hx, ?_⟩
    have hf := h.freshL t v hv0
    cases v with
    | g p u => exact ⟨fun hp => R3.map hk hf (hr.1 hp), hr.2⟩
    | d y => exact RS_of (R3.map (u := .d y) hk hf hr)
    | nils => exact RS_of (R3.map (u := .nils) hk hf hr)
    | ptr y z => exact RS_of (R3.map (u := .ptr y z) hk hf hr)
    | own y => exact RS_of (R3.map (u := .own y) hk hf hr)
    | vptr y z i j => exact RS_of (R3.map (u := .vptr y z i j) hk hf hr)
    | eptr y => exact RS_of (R3.map (u := .eptr y) hk hf hr)
    | fn f y => exact RS_of (R3.map (u := .fn f y) hk hf hr)
    | agg y => exact RS_of (R3.map (u := .agg y) hk hf hr)
    | tup y => exact RS_of (R3.map (u := .tup y) hk hf hr)
    | dead => exact RS_of (R3.map (u := .dead) hk hf hr)
  · obtain ⟨j, c, hc, rfl, rfl⟩ := mem_permH hi
    exact ChOK.ren hρ (hfr j c hc) (h.freshH j c hc).2 (h.ch j c hc)
  · obtain ⟨i', ci, hi0, rfl, rfl⟩ := mem_permH hi
    obtain ⟨j', cj, hj0, rfl, rfl⟩ := mem_permH hj
    exact fun e2 => h.sep i' j' ci cj b hi0 hj0 (fun e3 => hij (by rw [e3])) ((hbk _ _ _ hi0).1 e) ((hbk _ _ _ hj0).1 e2)
  · obtain ⟨j, c, hc, rfl, rfl⟩ := mem_permH hi
    exact h.out j c b hc ((hbk _ _ _ hc).1 e)
  · obtain ⟨v, hv0, rfl⟩ := mem_permL hv
    have hf := h.freshL t v hv0
    have h3 : ∀ {u : V}, u.all3 (fresh s.m) = true → (u.map3 (ren0 is)).all3 (fresh s.m) = true := fun hu => ren_fresh3 hlt hu
    cases v with
    | g p u => exact h3 hf
    | d y => rfl
    | nils => rfl
    | ptr y z => exact h3 (u := .ptr y z) hf
    | own y => exact h3 (u := .own y) hf
    | vptr y z i j => exact h3 (u := .vptr y z i j) hf
    | eptr y => rfl
    | fn f y => exact h3 (u := .fn f y) hf
    | agg y => exact h3 (u := .agg y) hf
    | tup y => exact h3 (u := .tup y) hf
    | dead => rfl
  · obtain ⟨j, c, hc, rfl, rfl⟩ := mem_permH hi
    exact ⟨hlt j (hfr j c hc), ren_freshC hlt (h.freshH j c hc).2⟩
  · obtain ⟨j, c, hc, rfl, rfl⟩ := mem_permH hi
    exact h.mine j c b hc ((hbk _ _ _ hc).1 e)
  · show ρ (nth is i) = C.ρ0 i
    rw [q3 i hi]; exact h.fixd.2 i hi

theorem EvT.soundH {C : Ctx} {ops : Array Oper} {J : St → Prop} {Q : Exit → Act → World → Prop} {S0 : World → Prop} (hS : ∀ s a w, Sat C s a w → S0 w) (hJ : ∀ s a w, Sat C s a w → J s → Q .normal a w) : ∀ (n : Nat) (t : Ords) (l : Array Bool) (s : St) (a : Act) (w : World), t.chk ops l = true → t.top ops l = true → EvT C ops J t s → Sat C s a w → t.depth ≤ n → wpAnyH C.P .any ops Q S0 n l a w
  | n, .leaf, l, s, a, w, hc, _, ht, hs, _ => by
    have hr : Region.ready .any ops l = [] := by simpa [Ords.chk] using hc
    cases n with
    | zero => exact ⟨hr, hJ s a w hs ht⟩
    | succ n => exact ⟨fun _ => hJ s a w hs ht, fun i hi => by rw [hr] at hi; cases hi⟩
  | n, .no, l, s, a, w, _, htop, _, _, _ => by simp [Ords.top] at htop
  | 0, .fork i x y, l, s, a, w, _, _, _, _, hd => by
    have : x.depth + 1 ≤ (Ords.fork i x y).depth := Nat.le_max_left _ _
    omega
  | n + 1, .fork i x y, l, s, a, w, hc, htop, ht, hs, hd => by
    have hr : (Ords.fork i x y).firsts = Region.ready .any ops l := by simpa [Ords.top] using htop
    refine ⟨fun h => (by rw [← hr] at h; cases h), fun j hj => ?_⟩
    rw [← hr] at hj
    obtain ⟨b, b1, b2, b4, b3⟩ := ht.pick hc hj
    refine one_op b3 hs (fun s1 a1 w1 h1 hj1 => ⟨hS s1 a1 w1 h1, EvT.soundH hS hJ n b _ s1 a1 w1 b1 b2 hj1 h1 (by omega)⟩) (fun _ _ _ _ _ h => h.elim) (fun _ h => h.elim)

def planE (ops : Array Oper) (A : List Nat) (t : Ords) : Bool :=
  Region.noSelect ops && Nat.beq (A.length + t.depth) ops.size && planQ .any ops [] A (Array.replicate ops.size false) fun l => t.chk ops l && t.top ops l

/-- **What only reads (A) comes first; then each order of the rest**, which owns the chunks `is0` and what is new; all come to one state, up to the names of the new chunks. -/
theorem Cx.every2 {P : Pg} {g : Cfg} {C : Ctx} (x : Cx P g C) {s s' : St} {K K' : List Item} {Φ : Exit → St → Prop} {ob : List Prop} (is0 A : List Nat) (t : Ords) (s2 : St) {id : Nat} {ops : Array Oper} (h : run g 1000 K s [] = .code ob (.region id ops true) K' s') (ho : AllP ob) (hm : P.P.follows .mixedOrders = true)
    (hB : planE ops A t = true) (hΦ : NoPanic Φ)
    {obA : List Prop} {sA : St} (hqA : qrun g ops 1000 (pickL ops.toList A) ⟨s'.L, delAll is0 s'.H, s'.m⟩ [] = .done obA sA) (hoA : AllP obA)
    (he : ∀ C2, Cx P { g with fix := s'.m } C2 → EvT C2 ops (fun s => LE s'.m s s2 ∨ ∃ is, okPerm is s.m s'.m = true ∧ LE s'.m (permS is s) s2) t ⟨sA.L, onlyIn is0 s'.H, s'.m⟩)
    (k : Go C K' ⟨s2.L, app3 s2.H (delAll is0 s'.H), s2.m⟩ Φ) : Go C K s Φ := by
  refine st x.ty x.n x.fix h ⟨ho, ?_⟩
  rintro a w ⟨ρ, F, hs⟩
  have hd : Mod none w { w with drawn := w.drawn + 1 } := ⟨rfl, rfl, rfl, Nat.le_refl _, fun _ _ _ => rfl⟩
  have hs1 := hs.mod hd
  generalize hw1 : ({ w with drawn := w.drawn + 1 } : World) = w1 at hs1
  let S0 : World → Prop := fun w' => ∀ k, k < w1.heap.size → ¬ blocksOf ρ s'.H is0 k → w'.heap[k]? = w1.heap[k]?
  obtain ⟨_, hmA, hrA⟩ := qrun_reads (F := F) x.ty x.n (S := S0) (fun w' hw' k hk hlt => hw' k hlt hk) 1000 _ _ _ hqA hoA
  refine x.ofWp ?_
  have hP : C.P.follows .mixedOrders = true := x.progP.symm ▸ hm
  simp only [planE, Bool.and_eq_true] at hB
  obtain ⟨⟨hns, hsz⟩, hpl⟩ := hB
  have hsz := Nat.eq_of_beq_eq_true hsz
  refine wp_region_any hP (wpAny_of_held (S := S0) _ _ _ _ ?_)
  have inv0 : Inv .any ops [] (Array.replicate ops.size false) := ⟨by simp, fun j oj _ hl => (by rw [getD_replicate_false] at hl; cases hl), fun t ht => (by cases ht)⟩
  have key : wpAnyH C.P .any ops (den C (conc C Φ) K') S0 (A.length + t.depth) (Array.replicate ops.size false) a { w with drawn := w.drawn + 1 } := ?_
  · rw [hsz] at key; exact key
  refine planH_sound (T := []) hns (fun c o v a w ho hq => den_quiet hΦ.quiet K' c ho v a w hq) (by rw [hw1]; exact fun k _ _ => rfl) (fun listed a1 inv hk hl => ?_) A _ a inv0 hpl (hrA a hs1)
  rw [hw1]
  simp only [Bool.and_eq_true] at hk
  have hl : SatW C ⟨sA.L, s'.H, s'.m⟩ a1 w1 ρ F := hl
  let C2 := C.sub s' is0 w1 ρ F
  have h2f : SatW C2 ⟨sA.L, onlyIn is0 s'.H, s'.m⟩ a1 w1 ρ F := hl.frame (s := ⟨sA.L, s'.H, s'.m⟩) is0
  have hx2 : Cx P { g with fix := s'.m } C2 := ⟨⟨x.prog, x.n, rfl, x.tys⟩, x.rd⟩
  refine EvT.soundH (C := C2) (fun s a w hs => ?_) (fun s3 a3 w3 hs3 hj => ?_) t.depth t listed _ a1 w1 hk.1 hk.2 (he C2 hx2) ⟨ρ, F, h2f⟩ (Nat.le_refl _)
  · obtain ⟨ρ', F', hs⟩ := hs
    exact fun k hk hb => hs.keep.block k hk hb
  · have hs4 : Sat C2 s2 a3 w3 := by
      rcases hj with hj | ⟨is, hp, hj⟩
      · exact LE.sat hj hs3
      · exact LE.sat hj (Sat.perm hp hs3)
    obtain ⟨ρ4, F4, h4⟩ := hs4
    exact k a3 w3 ⟨ρ4, F4, hl.unframe (s := ⟨sA.L, s'.H, s'.m⟩) h4⟩
end Go.Sx

/-
  Sx, part 48: builders of text, and texts joined: what the library's functions leave, to the block; contracts.
-/
set_option linter.unusedVariables false
set_option linter.unusedSimpArgs false
namespace Go.Sx
open Go.Shelf Go.RowKit Go.Proofs

section
variable {P : Program} (w : World)
/-- Bytes of a text appended to an own row: where the new row lies. -/
theorem append_str (t u ty e : TypeId) (i : TypeInfo) (ht : P.underlying t = some (.slice e)) (hu : P.underlying u = some .string) (hi : P.info? e = some i) (hz : i.zero = some (.int .u8 0))
    (hsize : i.size = 1) (hby : i.bytes = 1) (v : Value) (n : Nat) (xs : List Value) (hown : w.ownsRow 0 e 1 v n xs) (s : ByteArray) (hbytes : n + s.size ≤ 140737488355328) :
    ∃ v' w', (Builtin.append_ #[t, u] ty #[v, .string s]).run P w = .ok v' w' ∧ w'.ownsRow 0 e 1 v' (n + s.size) (xs ++ Lib.strCells s) ∧ w.grownBy w' v.ownBlock ∧ ∀ b, blk v' = some b → w.heap.size ≤ b ∨ blk v = some b := by
  have h63 : n + s.size ≤ maxLen := by simp only [maxLen]; omega
  obtain ⟨v', w', r1, r2, r3, r4⟩ := Lib.run_append_own_string (P := P) w 0 t u ty e i ht hu hi hz hsize hby v n xs hown s h63 hbytes (Nat.zero_le _)
  refine ⟨v', w', r1, r2, r3, fun b hb => ?_⟩
  have hxl : xs.length = n := by simpa using hown.1
  rcases hown.2 with ⟨rfl, rfl⟩ | ⟨g, cap, cur, rfl, hbg, hg, hnc, hcm, hcs, htake⟩
  · obtain ⟨v2, w2, q1, q2, q3, q4⟩ := Lib.run_append_own_string (P := P) w w.heap.size t u ty e i ht hu hi hz hsize hby (.slice none 0 0) 0 xs ⟨hown.1, .inl ⟨rfl, rfl⟩⟩ s h63 hbytes (Nat.le_refl _)
    rw [q1] at r1
    simp only [Result.ok.injEq] at r1
    obtain ⟨rfl, rfl⟩ := r1
    rcases q2.2 with ⟨h1, _⟩ | ⟨g, cap, cur, h1, h2, _⟩
    · rw [h1] at hb; simp [blk] at hb
    · rw [h1] at hb
      simp only [blk, Option.some.injEq] at hb
      exact .inl (by omega)
  · by_cases hroom : n + s.size ≤ cap
    · have hcs' : cur.size = cap := by simpa using hcs
      have hr := Lib.run_append_room_string (P := P) w t u ty e i ht hu hi hsize g n cap cur hg s hroom (by omega)
      rw [hr] at r1
      simp only [Result.ok.injEq] at r1
      rw [← r1.1] at hb
      exact .inr hb
    · have holds : ∀ j u, xs[j]? = some u → w.cell? ((⟨g, 0, none⟩ : Addr).add j) = some u := hown.cells (g := g) rfl
      have hr := Lib.run_append_grow_string (P := P) w t u ty e i (.int .u8 0) ht hu hi hz ⟨g, 0, none⟩ n cap xs (by rw [hsize]; simpa using hxl) holds s (by omega) (by omega) (by rw [hby]; exact growslice_fits (by omega) (by omega))
      rw [hr] at r1
      simp only [Result.ok.injEq] at r1
      rw [← r1.1] at hb
      simp only [blk, Option.some.injEq] at hb
      exact .inl (by omega)
theorem wpList_append_str {ops : Array Oper} {rest : List Oper} {o : Oper} {a : Act} {Q : Exit → Act → World → Prop} (hgd : o.guard = none) (sl x : Operand) (t u : TypeId)
    (ho : o.op = .call { callee := .builtin .append, args := #[sl, x], argTypes := #[t, u] })
    (e : TypeId) (i : TypeInfo) (ht : P.underlying t = some (.slice e)) (hu : P.underlying u = some .string) (hi : P.info? e = some i) (hz : i.zero = some (.int .u8 0))
    (hsize : i.size = 1) (hby : i.bytes = 1)
    (v : Value) (n : Nat) (xs : List Value) (hs : a.eval sl = v) (hown : w.ownsRow 0 e 1 v n xs) (s : ByteArray) (hx : a.eval x = .string s)
    (hbytes : n + s.size ≤ 140737488355328)
    (h : ∀ v' w', w'.ownsRow 0 e 1 v' (n + s.size) (xs ++ Lib.strCells s) → w.grownBy w' v.ownBlock → (∀ b, blk v' = some b → w.heap.size ≤ b ∨ blk v = some b) → wpList P ops Q rest (a.put o.dst v') w') : wpList P ops Q (o :: rest) a w := by
  refine wpList_plain hgd fun K hK => ?_
  obtain ⟨v', w', hr, h2, h3, h4⟩ := append_str (P := P) w t u o.type e i ht hu hi hz hsize hby v n xs hown s hbytes
  unfold Oper.wp execOp
  simp only [ho, resolve, invoke, builtin, Sem.run_bind, Sem.run_pure, Result.andThen_ok, List.map_toArray, List.map_cons, List.map_nil, hs, hx, hr]
  exact hK _ _ (h v' w' h2 h3 h4)
end

theorem blk_of_own : ∀ {v : Value} {k : Nat}, v.ownBlock = some k → blk v = some k
  | .slice (some a) _ _, k, h => by simpa [Value.ownBlock, blk] using h
  | .slice none _ _, k, h => by simp [Value.ownBlock] at h
  | .pointer _, k, h => by simp [Value.ownBlock] at h
  | .map _, k, h => by simp [Value.ownBlock] at h
  | .int _ _, k, h => by simp [Value.ownBlock] at h
  | .bool _, k, h => by simp [Value.ownBlock] at h
  | .string _, k, h => by simp [Value.ownBlock] at h
  | .agg _, k, h => by simp [Value.ownBlock] at h
  | .tuple _, k, h => by simp [Value.ownBlock] at h
  | .nilFunc, k, h => by simp [Value.ownBlock] at h
  | .nilIface, k, h => by simp [Value.ownBlock] at h
  | v, k, h => by revert h; unfold Value.ownBlock; split <;> intro h <;> first | (simp only [Option.some.injEq] at h; subst h; rfl) | cases h
/-- All else is as it was. -/
structure But (S : Nat → Prop) (w w' : World) : Prop where
  os : w'.os = w.os
  tape : w'.tape = w.tape
  output : w'.output = w.output
  size : w.heap.size ≤ w'.heap.size
  block : ∀ k, k < w.heap.size → ¬ S k → w'.heap[k]? = w.heap[k]?
theorem But.refl {S : Nat → Prop} {w : World} : But S w w := ⟨rfl, rfl, rfl, Nat.le_refl _, fun _ _ _ => rfl⟩
theorem But.trans {S : Nat → Prop} {w w1 w2 : World} (h : But S w w1) (k : But S w1 w2) : But S w w2 := ⟨k.os.trans h.os, k.tape.trans h.tape, k.output.trans h.output, Nat.le_trans h.size k.size, fun j hj hS => (k.block j (Nat.lt_of_lt_of_le hj h.size) hS).trans (h.block j hj hS)⟩
theorem But.setCell {S : Nat → Prop} {w : World} {b j : Nat} {x : Value} (h : S b) : But S w (w.setCell ⟨b, j, none⟩ x) :=
  ⟨rfl, rfl, rfl, by simp [World.setCell], fun k _ hk => Below.heap_setCell _ _ _ _ (fun e => hk (by rw [show k = b from e]; exact h))⟩
theorem But.grown {S : Nat → Prop} {w w' : World} {row : Option Nat} (h : w.grownBy w' row) (hr : ∀ k, row = some k → S k) : But S w w' :=
  ⟨h.os, h.tape, h.output, h.size, fun k hk hS => h.block k hk (fun e => hS (hr k e.symm))⟩

section
variable {P : Program} {r : Ren}
set_option maxHeartbeats 2000000 in
set_option maxRecDepth 100000 in
/-- WriteString, to the block. -/
theorem write_exact (L : Lays.n166 P r) (X : Builder.Extra P r) (b : Nat) (p v : Value) (bs : List Value) (s : ByteArray) (w : World) (hp : p = .pointer none ∨ p = .pointer (some ⟨b, 0, none⟩))
    (hbk : w.heap[b]? = some (.cells #[p, v] (r.t 72) (0, 0))) (hown : w.ownsRow 0 (r.t 5) 1 v bs.length bs) (hlen : bs.length + s.size ≤ 140737488355328) :
    Calls P (r.f 166) #[.pointer (some ⟨b, 0, none⟩), .string s] w fun e w' => e = .returned (.tuple #[.int .i64 s.size, .nilIface]) ∧
      ∃ v', w'.heap[b]? = some (.cells #[.pointer (some ⟨b, 0, none⟩), v'] (r.t 72) (0, 0)) ∧ w'.ownsRow 0 (r.t 5) 1 v' (bs.length + s.size) (bs ++ Lib.strCells s) ∧ But (fun k => k = b ∨ blk v = some k) w w' ∧ (∀ k, blk v' = some k → w.heap.size ≤ k ∨ blk v = some k) := by
  have hne : v.ownBlock ≠ some b := Lib.ownBlock_ne hown hbk X.neB5
  obtain ⟨i0, hi, hz0, hz1, hz2⟩ := info_parts X.infoByte
  have mixed := L.mixed
  have t72 := L.t72; have a72 := L.a72; have z72 := L.z72; have v72 := L.v72; have u72 := run_underlying L.t72
  have t70 := L.t70; have a70 := L.a70; have z70 := L.z70; have v70 := L.v70; have u70 := run_underlying L.t70
  have t37 := L.t37; have a37 := L.a37; have z37 := L.z37; have v37 := L.v37; have u37 := run_underlying L.t37
  have t3 := L.t3; have a3 := L.a3; have z3 := L.z3; have v3 := L.v3; have u3 := run_underlying L.t3
  have t9 := L.t9; have a9 := L.a9; have z9 := L.z9; have v9 := L.v9; have u9 := run_underlying L.t9
  have t4 := L.t4; have a4 := L.a4; have z4 := L.z4; have v4 := L.v4; have u4 := run_underlying L.t4
  have t164 := L.t164; have a164 := L.a164; have z164 := L.z164; have v164 := L.v164; have u164 := run_underlying L.t164
  have t5 := X.t5; have a5 := X.a5; have z5 := X.z5; have v5 := X.v5; have u5 := run_underlying X.t5
  have e240 : ∀ args w, (callFunc (r.f 240) args).run P w = .ok (.enter (r.f 240) args) w := enters_of L.f240 (by kernel_rfl) rfl
  have hcc : Calls P (r.f 240) #[.pointer (some ⟨b, 0, none⟩)] w fun e w' => e = .returned (.tuple #[]) ∧ w'.heap[b]? = some (.cells #[.pointer (some ⟨b, 0, none⟩), v] (r.t 72) (0, 0)) ∧ w'.ownsRow 0 (r.t 5) 1 v bs.length bs ∧ But (fun k => k = b ∨ blk v = some k) w w' := by
    have hat : Lib.BuilderAt (r.t 72) (r.t 5) 0 b p bs w := ⟨Nat.zero_le _, v, hbk, hown, hne⟩
    rcases hp with rfl | rfl
    · refine (Any.Builder_copyCheck_fresh { L with } X.toX72 b w hat.cell0 hat.shape hat.frozen0).mono ?_
      rintro e w' ⟨rfl, rfl⟩
      obtain ⟨_, v2, k1, k2, _⟩ := hat.used (.pointer (some ⟨b, 0, none⟩))
      refine ⟨rfl, by simp [World.setCell, Array.getElem?_modify, hbk], ?_, But.setCell (.inl rfl)⟩
      exact hown.kept (row := some b) ⟨rfl, rfl, rfl, by simp [World.setCell], fun k _ hk => Below.heap_setCell _ _ _ _ (fun e => hk (by simp [e]))⟩ (Or.inr hne)
    · refine (Any.Builder_copyCheck_used { L with } X.toX72 b w hat.cell0).mono ?_
      rintro e w' ⟨rfl, rfl⟩
      exact ⟨rfl, hbk, hown, But.refl⟩
  go_enter L.f166, Body.n166_ntmps r
  go_wp2_with (go_at_fn (r.f 240); refine hcc.mono ?_)
  rintro e w1 ⟨rfl, hbk1, hown1, hbut⟩
  have c0 : w1.cell? ⟨b, 0, none⟩ = some (.pointer (some ⟨b, 0, none⟩)) := by rw [Lib.cell_of_heap hbk1]; rfl
  have c1 : w1.cell? ⟨b, 1, none⟩ = some v := by rw [Lib.cell_of_heap hbk1]; rfl
  go_wp2_with (at_builtin; refine wpList_append_str _ rfl _ _ (r.t 37) (r.t 9) rfl (r.t 5) i0 L.t37 L.t9 hi hz0 hz1 hz2 _ _ _ rfl hown1 s rfl hlen ?_)
  intro v' w2 hown' hgrow hnew
  have hlt : b < w1.heap.size := (Array.getElem?_eq_some_iff.1 hbk1).1
  have hb2 : w2.heap[b]? = some (.cells #[.pointer (some ⟨b, 0, none⟩), v] (r.t 72) (0, 0)) := by
    rw [hgrow.block b hlt (fun e => hne e.symm)]
    exact hbk1
  have d0 : w2.cell? ⟨b, 0, none⟩ = some (.pointer (some ⟨b, 0, none⟩)) := by rw [Lib.cell_of_heap hb2]; rfl
  have d1 : w2.cell? ⟨b, 1, none⟩ = some v := by rw [Lib.cell_of_heap hb2]; rfl
  have f1 : w2.frozen? ⟨b, 1, none⟩ = false := Lib.frozen_of_heap hb2 1
  obtain ⟨ao, n', cap, rfl⟩ : ∃ ao n' cap, v' = .slice ao n' cap := by
    rcases hown'.2 with ⟨hv, _⟩ | ⟨g, cap, cur, hv, _⟩
    · exact ⟨_, _, _, hv⟩
    · exact ⟨_, _, _, hv⟩
  have hbl : ∀ k, v.ownBlock = some k → blk v = some k := fun k hk => blk_of_own hk
  go_wp2
  go_ret2
  refine ⟨rfl, .slice ao n' cap, ?_, ?_, (hbut.trans (But.grown hgrow fun k hk => .inr (hbl k hk))).trans (But.setCell (.inl rfl)), fun k hk => ?_⟩
  · simp [World.setCell, Array.getElem?_modify, hb2]
  · have hne' := Lib.ownBlock_ne hown' hb2 X.neB5
    exact hown'.kept (row := some b) ⟨rfl, rfl, rfl, by simp [World.setCell], fun k _ hk => Below.heap_setCell _ _ _ _ (fun e => hk (by simp [e]))⟩ (Or.inr hne')
  · rcases hnew k hk with h | h
    · exact .inl (Nat.le_trans hbut.size h)
    · exact .inr h

set_option maxHeartbeats 2000000 in
set_option maxRecDepth 100000 in
/-- String, to the block. -/
theorem string_exact (L : Lays.n169 P r) (X : Builder.Extra P r) (b : Nat) (p v : Value) (l : List UInt8) (w : World)
    (hbk : w.heap[b]? = some (.cells #[p, v] (r.t 72) (0, 0))) (hown : w.ownsRow 0 (r.t 5) 1 v l.length (Lib.byteCells l)) :
    Calls P (r.f 169) #[.pointer (some ⟨b, 0, none⟩)] w fun e w' => e = .returned (.string ⟨l.toArray⟩) ∧ But (fun k => blk v = some k) w w' := by
  have ofB : ∀ {w' : World}, Below w.heap.size w w' → But (fun k => blk v = some k) w w' := fun ⟨b1, b2, b3, b4, b5⟩ => ⟨b1, b2, b3, b4, fun k hk _ => b5 k hk⟩
  by_cases h0 : l = []
  · subst h0
    rcases hown.2 with ⟨rfl, _⟩ | ⟨g, cap, cur, rfl, hbg, hg, _, _, _, _⟩
    · exact (Any.Builder_String_nil L X w.heap.size b p w hbk).mono fun e w' ⟨he, hb⟩ => ⟨he, ofB hb⟩
    · by_cases hc0 : cap = 0
      · subst hc0
        exact (Any.Builder_String_noroom L X w.heap.size b g p cur w (Nat.le_refl _) hbk hg).mono fun e w' ⟨he, hb⟩ => ⟨he, ofB hb⟩
      · exact (Any.Builder_String_room L X w.heap.size b g cap p w hc0 hbk).mono fun e w' ⟨he, hb⟩ => ⟨he, ofB hb⟩
  have hl0 : l.length ≠ 0 := by simpa using h0
  obtain ⟨g, cap, cur, rfl, hbg, hg, hnc, hcm, hcs, htake⟩ : ∃ g cap cur, v = .slice (some ⟨g, 0, none⟩) l.length cap ∧ 0 ≤ g ∧ w.heap[g]? = some (.cells cur (r.t 5) (0, 0)) ∧ l.length ≤ cap ∧ cap ≤ maxLen ∧ cur.size = cap * 1 ∧ cur.toList.take (l.length * 1) = Lib.byteCells l := by
    rcases hown.2 with ⟨_, hz⟩ | ⟨g, cap, cur, hv, q⟩
    · exact absurd hz hl0
    · exact ⟨g, cap, cur, hv, q⟩
  have c1 : w.drew.cell? ⟨b, 1, none⟩ = some (.slice (some ⟨g, 0, none⟩) l.length cap) := by
    have : w.drew.heap[b]? = some (.cells #[p, .slice (some ⟨g, 0, none⟩) l.length cap] (r.t 72) (0, 0)) := hbk
    rw [Lib.cell_of_heap this]; rfl
  have hSD : (Builtin.unsafeSliceData_ #[(r.t 37)] (r.t 127) #[.slice (some ⟨g, 0, none⟩) l.length cap]).run P w.drew = .ok (.pointer (some ⟨g, 0, none⟩)) w.drew :=
    Lib.run_unsafeSliceData_row _ _ _ _ _ _ (by omega)
  have hUS : (Builtin.unsafeString_ #[(r.t 127), (r.t 3)] (r.t 9) #[.pointer (some ⟨g, 0, none⟩), .int .i64 l.length]).run P w.drew = .ok (.string ⟨l.toArray⟩) (w.drew.freeze ⟨g, 0, none⟩ l.length) := by
    refine Lib.run_unsafeString_row w.drew (r.t 127) (r.t 3) (r.t 9) (r.t 5) L.t127 X.cellsByte g cur.size (by have hg' : w.drew.heap[g]? = some (.cells cur (r.t 5) (0, 0)) := hg; simp [World.shape?, hg']) l h0 (by omega) (by unfold maxLen at hcm; omega) ?_
    intro j x hx
    have := hown.cells (g := g) rfl j (.int .u8 x.toNat) (by simp [Lib.byteCells, hx])
    exact this
  have hfin : But (fun k => blk (.slice (some ⟨g, 0, none⟩) l.length cap) = some k) w (w.drew.freeze ⟨g, 0, none⟩ l.length) := by
    unfold World.freeze
    rw [if_neg hl0]
    exact ⟨rfl, rfl, rfl, by simp, fun k hk hS => by
      simp only [Array.getElem?_modify]
      rw [if_neg (fun e => hS (by simp [blk, e]))]
      rfl⟩
  have mixed := L.mixed
  have t72 := L.t72; have a72 := L.a72; have z72 := L.z72; have v72 := L.v72; have u72 := run_underlying L.t72
  have t70 := L.t70; have a70 := L.a70; have z70 := L.z70; have v70 := L.v70; have u70 := run_underlying L.t70
  have t37 := L.t37; have a37 := L.a37; have z37 := L.z37; have v37 := L.v37; have u37 := run_underlying L.t37
  have t127 := L.t127; have a127 := L.a127; have z127 := L.z127; have v127 := L.v127; have u127 := run_underlying L.t127
  have t3 := L.t3; have a3 := L.a3; have z3 := L.z3; have v3 := L.v3; have u3 := run_underlying L.t3
  have t9 := L.t9; have a9 := L.a9; have z9 := L.z9; have v9 := L.v9; have u9 := run_underlying L.t9
  have t5 := X.t5; have a5 := X.a5; have z5 := X.z5; have v5 := X.v5; have u5 := run_underlying X.t5
  clear hfin
  go_enter L.f169, Body.n169_ntmps r
  go_wp2
  go_region_o
  all_goals (go_wp2; go_ret; refine ⟨rfl, ?_⟩)
  all_goals
    unfold World.freeze
    rw [if_neg hl0]
    exact ⟨rfl, rfl, rfl, by simp, fun k hk hS => by
      simp only [Array.getElem?_modify]
      rw [if_neg (fun e => hS (by simp [blk, e]))]
      rfl⟩
end
end Go.Sx
