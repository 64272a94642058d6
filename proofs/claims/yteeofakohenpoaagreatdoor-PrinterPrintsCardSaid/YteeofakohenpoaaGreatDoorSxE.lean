/- Texts put together: Sx24, Sx25, Sx26, Sx27, Sx28, Sx29, Sx30, Sx31, Sx32, Sx33. -/
import Derived.Test.YteeofakohenpoaaGreatDoorSxD
import Derived.Below
import Derived.DataShut
import Derived.Deep.Quiet
import Derived.StillTail
import Derived.Scope
import Derived.ChangeArms
import Derived.Carry
import Derived.SizedLaws
import Derived.ScopeJumps

/-
  Sx, part 24: from a contract to the walk that a law's statement wants.
-/
set_option linter.unusedVariables false
set_option linter.unusedSimpArgs false
namespace Go.Sx

theorem Post.below {w w' : World} {F : Nat → Prop} {ρ : Nat → Value} {r : V} {H' : List Ch} {e : Ending} (h : Post w F ρ 0 [] r H' e w') : Go.RowKit.Below w.heap.size w w' := by
  obtain ⟨v, ρ', F', _, hk, _⟩ := h
  exact ⟨hk.os, hk.tape, hk.output, hk.size, fun k hlt => hk.block k hlt (fun ⟨i, hi, _⟩ => absurd hi (Nat.not_lt_zero _))⟩

/-- A LAW's WALK, by its contract: the arguments are data of blocks that lay there. -/
theorem Proc.law {P : Pg} {f : FuncId} {args : List V} {H' : List Ch} (h : Pure P f args (vb true) H') {w : World} {vals : List Value} {vs : Array Value} (hvs : vs = vals.toArray)
    (henv : EnvOK P.env (fun k => k < w.heap.size) w) (hargs : All2 (R3 (fun _ => .bool true) (fun k => k < w.heap.size) w) args vals) : Calls P.P f vs w fun e w' => e = .returned (.bool true) ∧ Go.RowKit.Below w.heap.size w w' := by
  subst hvs
  obtain ⟨_, _, _, _, _, hc⟩ := h
  refine (hc w (fun k => k < w.heap.size) (fun _ => .bool true) vals (fun k hk => hk) henv ⟨fun i c hc => by simp at hc, fun i j b hi => absurd hi (Nat.not_lt_zero _), fun i b hi => absurd hi (Nat.not_lt_zero _)⟩ hargs).mono ?_
  intro e w' hp
  refine ⟨?_, hp.below⟩
  obtain ⟨v, ρ', F', rfl, _, _, _, _, _, hr, _⟩ := hp
  have : v = .bool true := by
    cases (show RD F' w' (.bool true) v from hr); rfl
  rw [this]
/-- Of an integer that fits. -/
theorem wf_i64 {n : Int} (h : (Lit.int .i64 n).wf = true) : inI64 n := by
  simp only [Lit.wf, Bool.and_eq_true, decide_eq_true_eq, IntKind.min_i64, IntKind.max_i64] at h
  exact h
theorem wf_i32 {n : Int} (h : (Lit.int .i32 n).wf = true) : -2147483648 ≤ n ∧ n ≤ 2147483647 := by
  simp only [Lit.wf, Bool.and_eq_true, decide_eq_true_eq, IntKind.min_i32, IntKind.max_i32] at h
  exact h
theorem inI64_of_i32 {n : Int} (h : (Lit.int .i32 n).wf = true) : inI64 n := by
  have := wf_i32 h
  unfold inI64
  omega
end Go.Sx

/-
  Sx, part 25: statements that draw their order: where the operations only read, or call functions whose answer is plain, one walk serves every order.
-/
set_option linter.unusedVariables false
set_option linter.unusedSimpArgs false
namespace Go.Sx

inductive QEv where
  | done (ob : List Prop) (s : St)
  | op (ob : List Prop) (o : Oper) (rest : List Oper) (s : St)
  | stuck (why : String)

def qrun (g : Cfg) (all : Array Oper) : Nat → List Oper → St → List Prop → QEv
  | 0, _, _, _ => .stuck "fuel"
  | n + 1, l, ⟨L, H, m⟩, ob => match l with
   | [] => fS ⟨L, H, m⟩ fun S => fO ob fun ob => .done ob S
   | o :: rest => match o.guard with
    | none => match rdE g g.ck ⟨L, H, m⟩ [] o.op with
      | some (v, p) => match o.dst with
        | some d => bif Nat.blt d g.n then f3 v fun v => fL (put L d v) fun L' => fA ob p fun ob => qrun g all n rest ⟨L', H, m⟩ ob else .stuck "slot"
        | none => .stuck "no slot"
      | none => fS ⟨L, H, m⟩ fun S => fO ob fun ob => .op ob o rest S
    | some (j, u) => match gpath L all j u with
      | none => .stuck "guard"
      | some q => match rdE g g.ck ⟨L, H, m⟩ q o.op with
        | some (v, p) => match o.dst with
          | some d => bif Nat.blt d g.n && !(q.any fun e => Nat.beq e.1 d) && v.all3 (fresh m) then fIs L q p fun p => f3 v fun v => fP q fun q => fL (put L d (.g q v)) fun L' => fA ob p fun ob => qrun g all n rest ⟨L', H, m⟩ ob else .stuck "slot"
          | none => .stuck "no slot"
        | none => fS ⟨L, H, m⟩ fun S => fO ob fun ob => .op ob o rest S

def QGo (C : Ctx) (all : Array Oper) (l : List Oper) (s : St) (K : List Item) (Φ : Exit → St → Prop) : Prop :=
  ∀ a w ρ F, SatW C s a w ρ F → wpQuiet C.P all (Mod none w) (fun a' => ∀ w', Mod none w w' → den C (conc C Φ) K .normal a' w') l a

def QEv.holds (C : Ctx) (all : Array Oper) (K : List Item) (Φ : Exit → St → Prop) : QEv → Prop
  | .done ob s => AllP ob ∧ Go C K s Φ
  | .op ob o rest s => AllP ob ∧ QGo C all (o :: rest) s K Φ
  | .stuck _ => False

section
variable {C : Ctx} {s : St} {a : Act} {w w' : World} {ρ : Nat → Value} {F : Nat → Prop} {g : Cfg} {K : List Item} {Φ : Exit → St → Prop}

theorem SatW.mod (h : SatW C s a w ρ F) (hm : Mod none w w') : SatW C s a w' ρ F := by
  have hwF : ∀ k, F k → w'.heap[k]? = w.heap[k]? := fun k hk => hm.block k (h.lt k hk) (by simp)
  refine h.change (fun u => u) (fun u v hu hr => hr.keep (x := s.m) (fun _ _ => rfl) (fun _ => id) hwF (fresh_names (Nat.le_refl _) hu)) (fun t v hv => ⟨⟨v, hv, (map4_id v).symm⟩, h.freshL t v hv⟩) (fun i c hc => ?_) (fun _ => id) hwF (fun k hk => Nat.lt_of_lt_of_le (h.lt k hk) hm.size) (h.keeps hm (by simp)) (Nat.le_refl _) h.sub h.fixd.2
  exact ⟨⟨c, hc, (chmap_id c).symm⟩, (h.freshH i c hc).2, rfl, fun b e => ⟨hm.block b ((h.ch i c hc).lt e) (by simp), h.out i c b hc e⟩⟩

theorem Mod.trans {w w' w'' : World} (h : Mod none w w') (h' : Mod none w' w'') : Mod none w w'' :=
  ⟨h'.os.trans h.os, h'.tape.trans h.tape, h'.output.trans h.output, Nat.le_trans h.size h'.size, fun k hk _ => (h'.block k (Nat.lt_of_lt_of_le hk h.size) (by simp)).trans (h.block k hk (by simp))⟩

theorem QGo.op_next {all : Array Oper} {o : Oper} {rest : List Oper} {Q : Act → Prop} (hg : o.guard = none) {x : Value}
    (hr : ∀ w', Mod none w w' → Oper.quietAt C.P o a (Mod none w) w' x) (h : wpQuiet C.P all (Mod none w) Q rest (a.put o.dst x)) : wpQuiet C.P all (Mod none w) Q (o :: rest) a := by
  refine wpQuiet_step fun N hN => ?_
  rw [if_pos (by simp [Region.wanted, hg])]
  exact ⟨x, hr, hN _ h⟩
theorem QGo.op_guarded {all : Array Oper} {o : Oper} {rest : List Oper} {Q : Act → Prop} {x : Value}
    (hyes : Region.wanted o (yielded all a.tmps) = true → ∀ w', Mod none w w' → Oper.quietAt C.P o a (Mod none w) w' x) (hno : Region.wanted o (yielded all a.tmps) = false → x = undef)
    (h : wpQuiet C.P all (Mod none w) Q rest (a.put o.dst x)) : wpQuiet C.P all (Mod none w) Q (o :: rest) a := by
  refine wpQuiet_step fun N hN => ?_
  cases hw : Region.wanted o (yielded all a.tmps) with
  | true => rw [if_pos rfl]; exact ⟨x, hyes hw, hN _ h⟩
  | false => rw [if_neg (by simp)]; exact hN _ (hno hw ▸ h)

theorem qrun_holds (hg : TysOK C.P g.tys) (hn : g.n = C.n) {all : Array Oper} : ∀ (n : Nat) (l : List Oper) (s : St) (ob : List Prop), (qrun g all n l s ob).holds C all K Φ → AllP ob ∧ QGo C all l s K Φ := by
  intro n
  induction n with
  | zero => intro l s ob h; exact h.elim
  | succ n ih =>
    rintro l ⟨L, H, m⟩ ob h
    cases l with
    | nil =>
      unfold qrun at h
      simp only [fS_eq, fO_eq] at h
      exact ⟨h.1, fun a w ρ F hs => wpQuiet_nil fun w' hm => h.2 a w' ⟨ρ, F, hs.mod hm⟩⟩
    | cons o rest =>
    unfold qrun at h
    simp only at h
    split at h
    · rename_i hgd
      split at h
      · rename_i v p hrd
        split at h
        · rename_i d hd
          cases hb : Nat.blt d g.n with
          | false => rw [hb] at h; exact h.elim
          | true =>
            rw [hb] at h
            simp only [cond_true, f3_eq, fL_eq, fA_eq] at h
            obtain ⟨h1, h2⟩ := ih _ _ _ h
            obtain ⟨h3, h4⟩ := AllP_app h1
            refine ⟨h3, fun a w ρ F hw => ?_⟩
            obtain ⟨x, r1, r2, r3⟩ := rd_sound hg hw (pc_nil _) hrd h4
            refine QGo.op_next hgd (x := x) (fun w' hm => ?_) ?_
            · unfold Oper.quietAt
              rw [r3 w' fun k hk => hm.block k hk (by simp)]
              exact ⟨rfl, rfl⟩
            · rw [hd]
              exact h2 _ _ _ _ (hw.put (by rw [← hn]; simpa using hb) r1 r2)
        · exact h.elim
      · rw [fS_eq, fO_eq] at h; exact h
    · rename_i j u hgd
      split at h
      · exact h.elim
      · rename_i q hq
        split at h
        · rename_i v p hrd
          split at h
          · rename_i d hd
            cases hb : (Nat.blt d g.n && !(q.any fun e => Nat.beq e.1 d) && v.all3 (fresh m)) with
            | false => rw [hb] at h; exact h.elim
            | true =>
              rw [hb] at h
              simp only [cond_true, fIs_eq, f3_eq, fL_eq, fP_eq, fA_eq] at h
              simp only [Bool.and_eq_true, Bool.not_eq_true'] at hb
              obtain ⟨⟨b1, b2⟩, b3⟩ := hb
              obtain ⟨h1, h2⟩ := ih _ _ _ h
              obtain ⟨h3, h4⟩ := AllP_app h1
              refine ⟨h3, fun a w ρ F hw => ?_⟩
              have hgp := gpath_sound hw hq
              have hwant : Region.wanted o (yielded all a.tmps) = true ↔ pcA a.tmps q := by
                rw [← hgp]; simp [Region.wanted, hgd]
              by_cases hpc : pcA a.tmps q
              · obtain ⟨x, r1, r2, r3⟩ := rd_sound hg hw hpc hrd (imps_sound hw hpc h4)
                refine QGo.op_guarded (x := x) (fun _ w' hm => ?_) (fun hno => by rw [hwant.2 hpc] at hno; simp at hno) ?_
                · unfold Oper.quietAt
                  rw [r3 w' fun k hk => hm.block k hk (by simp)]
                  exact ⟨rfl, rfl⟩
                · rw [hd]
                  exact h2 _ _ _ _ (hw.putS (by rw [← hn]; simpa using b1) ⟨fun _ => r1, fun hno => (hno ((pcA_put b2).2 hpc)).elim⟩ b3)
              · refine QGo.op_guarded (x := undef) (fun hyes => (hpc (hwant.1 hyes)).elim) (fun _ => rfl) ?_
                rw [hd]
                exact h2 _ _ _ _ (hw.putS (by rw [← hn]; simpa using b1) ⟨fun hp => (hpc ((pcA_put b2).1 hp)).elim, fun _ => rfl⟩ b3)
          · exact h.elim
        · rw [fS_eq, fO_eq] at h; exact h

/-- Plain answers: their value is known. -/
def val0 : V → Option Value
  | .d (.int k n) => some (.int k n)
  | .d (.bool b) => some (.bool b)
  | .d (.str s) => some (.string s)
  | _ => none
def val0s : List V → Option (List Value)
  | [] => some []
  | v :: r => match val0 v, val0s r with
    | some x, some xs => some (x :: xs)
    | _, _ => none
def valOf : V → Option Value
  | .tup us => match val0s us with
    | some xs => some (.tuple xs.toArray)
    | none => none
  | v => val0 v

theorem val0_sound {v : V} {x y : Value} (h : val0 v = some x) (hr : R3 ρ F w v y) : y = x := by
  cases v with
  | d e =>
    cases e <;> simp only [val0, Option.some.injEq, reduceCtorEq] at h <;> subst h <;> cases (show RD F w _ y from hr) <;> rfl
  | _ => simp [val0] at h
theorem val0s_sound {us : List V} : ∀ {xs ys : List Value}, val0s us = some xs → All2 (R2 ρ F w) us ys → ys = xs := by
  induction us with
  | nil => intro xs ys h hr; cases ys with
    | nil => simpa [val0s] using h
    | cons => exact hr.elim
  | cons u us ih =>
    intro xs ys h hr
    cases ys with
    | nil => exact hr.elim
    | cons y ys =>
      simp only [val0s] at h
      split at h
      · rename_i x0 xs0 e1 e2
        simp only [Option.some.injEq] at h
        subst h
        rw [val0_sound e1 (R3_of hr.1), ih e2 hr.2]
      · simp at h
theorem valOf_sound {v : V} {x y : Value} (h : valOf v = some x) (hr : R3 ρ F w v y) : y = x := by
  cases v with
  | tup us =>
    simp only [valOf] at h
    split at h
    · rename_i xs e
      simp only [Option.some.injEq] at h
      obtain ⟨ys, rfl, hy⟩ := hr
      rw [← h, val0s_sound e hy]
    · simp at h
  | _ => (first | exact val0_sound (v := .nils) h hr | exact val0_sound (v := (.ptr _ _)) h hr | exact val0_sound (v := (.own _)) h hr | exact val0_sound (v := (.vptr _ _ _ _)) h hr | exact val0_sound (v := (.eptr _)) h hr | exact val0_sound (v := (.fn _ _)) h hr | exact val0_sound (v := (.agg _)) h hr | exact val0_sound (v := (.g _ _)) h hr | exact val0_sound (v := .dead) h hr | exact val0_sound (v := (.d _)) h hr)

/-- A call, carried out in a world: its contract. -/
theorem call_raw (h : SatW C s a w ρ F) (hfxg : g.fix = C.fix) {q : List (Nat × Bool)} (hq : pcA a.tmps q) {o : Oper} {f : FuncId} {A : List V} (hco : callOf s.L q o = some (f, A))
    {is : List Nat} {fix : Nat} {args : List V} {H H' : List Ch} {r : V} (hp : Proc C.pg f fix args H r H') (hA : AEq A (args.map (V.map3 (ren0 is)))) (hok : okIs g s.m is fix H.length = true) (hH : HLE s.H (rnH is is H)) :
    ∃ vals, (execOp a.eval o).run C.P w = .ok (.enter f vals) w ∧ Calls C.P f vals w (Post w F (fun i => ρ (nth is i)) fix H r H') := by
  obtain ⟨hcall, hfr, hfr', hfx, hHH, hcalls⟩ := hp
  unfold callOf at hco
  split at hco
  · rename_i c hop
    split at hco
    · rename_i fo hc
      split at hco
      · rename_i f' caps A' he hes
        simp only [Option.some.injEq, Prod.mk.injEq] at hco
        obtain ⟨rfl, rfl⟩ := hco
        obtain ⟨cs, hcs, hcaps⟩ := (show R1 ρ F w (.fn f' caps) _ from (ev_sound h hq he).1)
        have hargs := (evs_sound h hq hes).1
        simp only [okIs, Bool.and_eq_true, List.all_eq_true] at hok
        obtain ⟨⟨⟨o1, o2⟩, o3⟩, o4⟩ := hok
        have hisl := Nat.eq_of_beq_eq_true o4
        simp only [freshAll, Bool.and_eq_true, List.all_eq_true] at hfr
        have hvals : c.args.map a.eval ++ cs.toArray = (c.args.toList.map a.eval ++ cs).toArray := by
          cases c.args; simp
        have hall : All2 (R3 ρ F w) (A' ++ caps) (c.args.toList.map a.eval ++ cs) := hargs.app (hcaps.mono fun u v hr => R3_of (R2_of (R1_of hr)))
        have hall2 := AEq_sound hA hall
        have hall3 : All2 (R3 (fun i => ρ (nth is i)) F w) args (c.args.toList.map a.eval ++ cs) := hall2.unmap fun u v hu hr => R3.unren (k := H.length) (fun _ _ => rfl) (hfr.1 u hu) hr
        have hold : Holds (fun i => ρ (nth is i)) F w H := by
          have hx : ∀ i, i < H.length → ∃ c, H[i]? = some c ∧ ∃ c0, (nth is i, c0) ∈ s.H ∧ ChEq c0 (c.map (ren0 is)) := fun i hi => by
            obtain ⟨c0, k1, k2⟩ := rnH_mem hisl hH (List.getElem?_eq_getElem hi)
            exact ⟨_, List.getElem?_eq_getElem hi, c0, k1, k2⟩
          refine ⟨fun i c hc => ?_, fun i j b hi hj hij e => ?_, fun i b hi e => ?_⟩
          · have hi := (List.getElem?_eq_some_iff.1 hc).1
            obtain ⟨c', hc', c0, k1, k2⟩ := hx i hi
            rw [hc] at hc'
            obtain rfl := Option.some.inj hc'
            exact ChOK.unren (k := H.length) (ρ := fun i => ρ (nth is i)) (fun _ _ => rfl) hi (hfr.2 c (List.mem_of_getElem? hc)).1 (ChEq_sound k2 (h.ch _ _ k1))
          · obtain ⟨_, _, c0, k1, _⟩ := hx i hi
            obtain ⟨_, _, c1, k3, _⟩ := hx j hj
            exact fun e2 => h.sep _ _ c0 c1 b k1 k3 (nodupB_sound o1 i j (by omega) (by omega) hij) (bks_main e) (bks_main e2)
          · obtain ⟨_, _, c0, k1, _⟩ := hx i hi
            exact h.out _ c0 b k1 (bks_main e)
        refine ⟨_, run_call hop hc hcs hcall w, ?_⟩
        rw [hvals]
        exact hcalls w F _ _ h.lt h.env hold hall3
      · simp at hco
    · simp at hco
  · simp at hco

theorem val0_mk {v : V} {x : Value} (h : val0 v = some x) : R0 ρ F w v x := by
  cases v with
  | d e =>
    cases e <;> simp only [val0, Option.some.injEq, reduceCtorEq] at h <;> subst h
    · exact RD.int _ _
    · exact RD.bool _
    · exact RD.str _
  | _ => simp [val0] at h
theorem val0s_mk {us : List V} : ∀ {xs : List Value}, val0s us = some xs → All2 (R2 ρ F w) us xs := by
  induction us with
  | nil => intro xs h; simp [val0s] at h; subst h; trivial
  | cons u us ih =>
    intro xs h
    simp only [val0s] at h
    split at h
    · rename_i x0 xs0 e1 e2
      simp only [Option.some.injEq] at h
      subst h
      exact ⟨R2_of (R1_of (val0_mk e1)), ih e2⟩
    · simp at h
theorem val_of0 {v : V} (h : ∀ us, v ≠ .tup us) : valOf v = val0 v := by cases v <;> first | rfl | exact (h _ rfl).elim
theorem valOf_mk {v : V} {x : Value} (h : valOf v = some x) : R3 ρ F w v x := by
  by_cases ht : ∃ us, v = .tup us
  · obtain ⟨us, rfl⟩ := ht
    simp only [valOf] at h
    split at h
    · rename_i xs e
      simp only [Option.some.injEq] at h
      exact ⟨xs, h.symm, val0s_mk e⟩
    · simp at h
  · rw [val_of0 fun us e => ht ⟨us, e⟩] at h
    exact R3_of (R2_of (R1_of (val0_mk h)))

theorem quiet_call (h : SatW C s a w ρ F) (hfxg : g.fix = C.fix) {q : List (Nat × Bool)} (hq : pcA a.tmps q) {o : Oper} {f : FuncId} {A : List V} (hco : callOf s.L q o = some (f, A)) {args : List V} {r : V} {x : Value}
    (hp : Pure C.pg f args r []) (hx : valOf r = some x) (hA : AEq A (args.map (V.map3 (ren0 [])))) {w' : World} (hm : Mod none w w') : Oper.quietAt C.P o a (Mod none w) w' x := by
  obtain ⟨vals, h1, h2⟩ := call_raw (h.mod hm) hfxg hq hco hp hA (show okIs g s.m [] 0 0 = true from rfl) trivial
  unfold Oper.quietAt
  rw [h1]
  refine ⟨rfl, h2.mono ?_⟩
  rintro e w'' ⟨v, ρ', F', rfl, hk, _, _, _, _, hr, _⟩
  rw [valOf_sound hx hr]
  exact ⟨rfl, hm.trans ⟨hk.os, hk.tape, hk.output, hk.size, fun k hlt _ => hk.block k hlt (fun ⟨i, hi, _⟩ => absurd hi (Nat.not_lt_zero _))⟩⟩

/-- A call with a plain answer. -/
theorem QGo.call (hn : g.n = C.n) (hfxg : g.fix = C.fix) {all : Array Oper} {o : Oper} {rest : List Oper} {args : List V} {r : V} {f : FuncId} {A : List V} {d : Nat} {x : Value}
    (hp : Pure C.pg f args r []) (hx : valOf r = some x) (hgd : o.guard = none) (hd : o.dst = some d) (hdn : (Nat.blt d g.n && r.all3 (fresh 0)) = true) (hco : callOf s.L [] o = some (f, A)) (hA : AEq A (args.map (V.map3 (ren0 []))))
    (k : QGo C all rest { s with L := put s.L d r } K Φ) : QGo C all (o :: rest) s K Φ := by
  intro a w ρ F h
  simp only [Bool.and_eq_true] at hdn
  refine QGo.op_next hgd (x := x) (fun w' hm => quiet_call h hfxg (pc_nil _) hco hp hx hA hm) ?_
  rw [hd]
  exact k _ _ _ _ (h.put (by rw [← hn]; simpa using hdn.1) (valOf_mk hx) (all3_imp (fun u hu => fresh_mono (Nat.zero_le _) hu) hdn.2))

/-- The same under a guard. -/
theorem QGo.callG (hn : g.n = C.n) (hfxg : g.fix = C.fix) {all : Array Oper} {o : Oper} {rest : List Oper} {args : List V} {r : V} {f : FuncId} {A : List V} {d j : Nat} {u : Bool} {q : List (Nat × Bool)} {x : Value}
    (hgd : o.guard = some (j, u)) (hgp : gpath s.L all j u = some q) (hd : o.dst = some d) (hdn : (Nat.blt d g.n && !(q.any fun e => Nat.beq e.1 d) && r.all3 (fresh 0)) = true) (hco : callOf s.L q o = some (f, A))
    (hp : imp s.L q (Pure C.pg f args r [])) (hx : valOf r = some x) (hA : AEq A (args.map (V.map3 (ren0 []))))
    (k : QGo C all rest { s with L := put s.L d (.g q r) } K Φ) : QGo C all (o :: rest) s K Φ := by
  intro a w ρ F h
  simp only [Bool.and_eq_true, Bool.not_eq_true'] at hdn
  obtain ⟨⟨b1, b2⟩, b3⟩ := hdn
  have hgs := gpath_sound h hgp
  have hwant : Region.wanted o (yielded all a.tmps) = true ↔ pcA a.tmps q := by rw [← hgs]; simp [Region.wanted, hgd]
  have hf := all3_imp (fun u hu => fresh_mono (Nat.zero_le s.m) hu) b3
  by_cases hpc : pcA a.tmps q
  · refine QGo.op_guarded (x := x) (fun _ w' hm => quiet_call h hfxg hpc hco (imp_sound h hpc hp) hx hA hm) (fun hno => by rw [hwant.2 hpc] at hno; simp at hno) ?_
    rw [hd]
    exact k _ _ _ _ (h.putS (by rw [← hn]; simpa using b1) ⟨fun _ => valOf_mk hx, fun hno => (hno ((pcA_put b2).2 hpc)).elim⟩ hf)
  · refine QGo.op_guarded (x := undef) (fun hyes => (hpc (hwant.1 hyes)).elim) (fun _ => rfl) ?_
    rw [hd]
    exact k _ _ _ _ (h.putS (by rw [← hn]; simpa using b1) ⟨fun hp => (hpc ((pcA_put b2).1 hp)).elim, fun _ => rfl⟩ hf)
end

namespace Cx
variable {P : Pg} {g : Cfg} {C : Ctx} (x : Cx P g C) {s s' : St} {K K' : List Item} {Φ : Exit → St → Prop} {ob : List Prop}
include x

/-- A statement that draws its order. -/
theorem quiet {id : Nat} {ops : Array Oper} (h : run g 1000 K s [] = .code ob (.region id ops true) K' s') (ho : AllP ob) (hm : P.P.follows .mixedOrders = true) (hB : Region.lexB .any ops = true)
    (k : QGo C ops ops.toList s' K' Φ) : Go C K s Φ := by
  refine st x.ty x.n x.fix h ⟨ho, ?_⟩
  rintro a w ⟨ρ, F, hs⟩
  have hd : Mod none w { w with drawn := w.drawn + 1 } := ⟨rfl, rfl, rfl, Nat.le_refl _, fun _ _ _ => rfl⟩
  show Code.wp C.P (.region id ops true) (den C (conc C Φ) K') a w
  exact wp_region_quiet (C := Mod none w) (x.progP.symm ▸ hm) hB hd (k a w ρ F hs)
theorem qdone {all : Array Oper} {l : List Oper} (h : qrun g all 1000 l s [] = .done ob s') (ho : AllP ob) (k : Go C K s' Φ) : QGo C all l s K Φ :=
  (qrun_holds (K := K) (Φ := Φ) x.ty x.n 1000 l s [] (by rw [h]; exact ⟨ho, k⟩)).2
theorem qcall {all : Array Oper} {l rest : List Oper} {o : Oper} {args A : List V} {r : V} {f d : Nat} {y : Value} (h : qrun g all 1000 l s [] = .op ob o rest s') (ho : AllP ob)
    (hco : callInfo g s' o = some (f, A, d)) (hp : Pure P f args r []) (hy : valOf r = some y) (hr : r.all3 (fresh 0) = true) (hA : AEq A (args.map (V.map3 (ren0 [])))) (k : QGo C all rest { s' with L := put s'.L d r } K Φ) : QGo C all l s K Φ := by
  suffices kk : QGo C all (o :: rest) s' K Φ from (qrun_holds (K := K) (Φ := Φ) x.ty x.n 1000 l s [] (by rw [h]; exact ⟨ho, kk⟩)).2
  unfold callInfo at hco
  split at hco
  · rename_i d' hg hd
    cases hb : Nat.blt d' g.n with
    | false => rw [hb] at hco; simp at hco
    | true =>
      rw [hb] at hco
      simp only [cond_true] at hco
      split at hco
      · rename_i f' A' hc
        simp only [Option.some.injEq, Prod.mk.injEq] at hco
        obtain ⟨rfl, rfl, rfl⟩ := hco
        exact QGo.call x.n x.fix (x.prog ▸ hp) hy hg hd (by simp only [Bool.and_eq_true]; exact ⟨hb, hr⟩) hc hA k
      · simp at hco
  · simp at hco
theorem qcallG {all : Array Oper} {l rest : List Oper} {o : Oper} {args A : List V} {r : V} {f d : Nat} {q : List (Nat × Bool)} {y : Value} (h : qrun g all 1000 l s [] = .op ob o rest s') (ho : AllP ob)
    (hco : callInfoG g s' all o = some (f, A, d, q)) (hp : imp s'.L q (Pure P f args r [])) (hy : valOf r = some y) (hr : r.all3 (fresh 0) = true) (hA : AEq A (args.map (V.map3 (ren0 [])))) (k : QGo C all rest { s' with L := put s'.L d (.g q r) } K Φ) : QGo C all l s K Φ := by
  suffices kk : QGo C all (o :: rest) s' K Φ from (qrun_holds (K := K) (Φ := Φ) x.ty x.n 1000 l s [] (by rw [h]; exact ⟨ho, kk⟩)).2
  unfold callInfoG at hco
  split at hco
  · rename_i j u d' hg hd
    split at hco
    · rename_i q' hq
      cases hb : (Nat.blt d' g.n && !(q'.any fun e => Nat.beq e.1 d')) with
      | false => rw [hb] at hco; simp at hco
      | true =>
        rw [hb] at hco
        simp only [cond_true] at hco
        split at hco
        · rename_i f' A' hc
          simp only [Option.some.injEq, Prod.mk.injEq] at hco
          obtain ⟨rfl, rfl, rfl, rfl⟩ := hco
          exact QGo.callG x.n x.fix hg hq hd (by simp only [Bool.and_eq_true] at hb ⊢; exact ⟨hb, hr⟩) hc (x.prog ▸ hp) hy hA k
        · simp at hco
    · simp at hco
  · simp at hco
end Cx
end Go.Sx

/-
  Sx, part 26: statements that draw their order and write: copies first (A), then what only reads (B), in any order; what is left (T) comes one by one.
-/
set_option linter.unusedVariables false
set_option linter.unusedSimpArgs false
namespace Go.Sx

def pickL (l : List Oper) : List Nat → List Oper
  | [] => []
  | i :: r => match l[i]? with
    | some o => o :: pickL l r
    | none => pickL l r

def isMove (ops : Array Oper) (i : Nat) : Bool :=
  match ops[i]? with
  | some o => match o.guard, o.op with
    | none, .move _ => true
    | none, .assign _ => true
    | _, _ => false
  | none => false

def memN (i : Nat) : List Nat → Bool
  | [] => false
  | j :: r => Nat.beq j i || memN i r
theorem memN_iff {i : Nat} : ∀ {l : List Nat}, memN i l = true ↔ i ∈ l
  | [] => by simp [memN]
  | j :: r => by
    simp only [memN, Bool.or_eq_true, memN_iff, List.mem_cons]
    constructor
    · rintro (h | h)
      · exact .inl (Nat.eq_of_beq_eq_true h).symm
      · exact .inr h
    · rintro (h | h)
      · exact .inl (by subst h; simp)
      · exact .inr h

section
variable (md : Region.Mode) (ops : Array Oper)
def stepB (T : List Nat) (listed : Array Bool) (i : Nat) : Bool := (Region.ready md ops listed).contains i && Region.free md ops listed i && !memN i T
def planA (T : List Nat) : List Nat → Array Bool → (Array Bool → Bool) → Bool
  | [], l, k => k l
  | i :: r, l, k => stepB md ops T l i && isMove ops i && planA T r (l.setIfInBounds i true) k
def planQ (T : List Nat) : List Nat → Array Bool → (Array Bool → Bool) → Bool
  | [], l, k => k l
  | i :: r, l, k => stepB md ops T l i && planQ T r (l.setIfInBounds i true) k
def seqL : List Nat → Array Bool → Bool
  | [], l => (Region.ready md ops l).isEmpty
  | i :: r, l => decide (Region.ready md ops l = [i]) && seqL r (l.setIfInBounds i true)
def sinkL (t : Nat) : List Nat → Bool
  | [] => true
  | i :: r => (Region.waitsFor md ops t i || r.any fun j => Region.waitsFor md ops j i) && sinkL t r
def chainL : List Nat → Bool
  | a :: b :: r => Region.waitsFor md ops b a && chainL (b :: r)
  | _ => true
def headOf : List Nat → Nat
  | t :: _ => t
  | [] => 0
def planB (A B T : List Nat) : Bool :=
  Region.noSelect ops && Nat.beq (A.length + B.length + T.length) ops.size && !T.isEmpty && T.all (fun t => Nat.blt t ops.size) && sinkL md ops (headOf T) B && chainL md ops T &&
  planA md ops T A (Array.replicate ops.size false) fun l => planQ md ops T B l fun l => seqL md ops T l
end

section
variable {P : Program} {ops : Array Oper} {md : Region.Mode} {Q : Exit → Act → World → Prop} {T : List Nat}

structure Inv (md : Region.Mode) (ops : Array Oper) (T : List Nat) (listed : Array Bool) : Prop where
  size : listed.size = ops.size
  closed : ∀ j oj, ops[j]? = some oj → listed.getD j false = true → ∀ e ∈ oj.after, Region.binds md e = true → listed.getD e.on false = true
  tail : ∀ t ∈ T, listed.getD t false = false

theorem Inv.set {i : Nat} {listed : Array Bool} (inv : Inv md ops T listed) (hi : i ∈ Region.ready md ops listed) (hin : i ∉ T) : Inv md ops T (listed.setIfInBounds i true) := by
  obtain ⟨_, oi, hoi, hall⟩ := mem_ready.1 hi
  refine ⟨by simp [inv.size], fun j oj hj hl e he hb => ?_, fun t ht => by rw [getD_set_ne false (by rintro rfl; exact hin ht)]; exact inv.tail t ht⟩
  by_cases hij : i = j
  · subst hij
    have : oj = oi := Option.some.inj (hj.symm.trans hoi)
    subst this
    exact getD_set_true (hall e he hb)
  · rw [getD_set_ne false hij] at hl
    exact getD_set_true (inv.closed j oj hj hl e he hb)

theorem ready_pred {t i : Nat} {listed : Array Bool} (ht : t ∈ Region.ready md ops listed) (hw : Region.waitsFor md ops t i = true) : listed.getD i false = true := by
  obtain ⟨_, ot, hot, hall⟩ := mem_ready.1 ht
  obtain ⟨o', ho', e, he, hb, hon⟩ := Region.waitsFor_spec hw
  obtain rfl : o' = ot := Option.some.inj (ho'.symm.trans hot)
  rw [← hon]
  exact hall e he hb
theorem listed_pred {t i : Nat} {listed : Array Bool} (inv : Inv md ops T listed) (ht : listed.getD t false = true) (hw : Region.waitsFor md ops t i = true) : listed.getD i false = true := by
  obtain ⟨o', ho', e, he, hb, hon⟩ := Region.waitsFor_spec hw
  rw [← hon]
  exact inv.closed t o' ho' ht e he hb

theorem sink_listed {t : Nat} {listed : Array Bool} (inv : Inv md ops T listed) (ht : t ∈ Region.ready md ops listed) : ∀ {B : List Nat}, sinkL md ops t B = true → ∀ i ∈ B, listed.getD i false = true
  | b :: r, h, i, hi => by
    simp only [sinkL, Bool.and_eq_true, Bool.or_eq_true, List.any_eq_true] at h
    have ih := sink_listed inv ht h.2
    rcases List.mem_cons.1 hi with rfl | hi
    · rcases h.1 with h1 | ⟨j, hj, hw⟩
      · exact ready_pred ht h1
      · exact listed_pred inv (ih j hj) hw
    · exact ih i hi
  | [], _, _, hi => by cases hi

theorem chain_not {listed : Array Bool} (inv : Inv md ops T listed) : ∀ {S : List Nat}, (∀ t ∈ S, t ∈ T) → chainL md ops S = true → ∀ t ∈ S, t ∈ Region.ready md ops listed → t = headOf S
  | [], _, _, t, ht, _ => by cases ht
  | [a], _, _, t, ht, _ => by simpa [headOf] using ht
  | a :: b :: r, hS, h, t, ht, hr => by
    simp only [chainL, Bool.and_eq_true] at h
    rcases List.mem_cons.1 ht with rfl | ht
    · rfl
    · have h1 := chain_not inv (fun t ht => hS t (List.mem_cons_of_mem _ ht)) h.2 t ht hr
      simp only [headOf] at h1
      subst h1
      have := ready_pred hr h.1
      rw [inv.tail a (hS a (by simp))] at this
      cases this

theorem tail_not {listed : Array Bool} {B : List Nat} (inv : Inv md ops T listed) (hs : sinkL md ops (headOf T) B = true) (hc : chainL md ops T = true) {i : Nat} (hi : i ∈ B) (hun : listed.getD i true = false) {j : Nat} (hj : j ∈ Region.ready md ops listed) : j ∉ T := by
  intro hjT
  have := chain_not inv (fun _ h => h) hc j hjT hj
  subst this
  have := sink_listed inv hj hs i hi
  rw [getD_both hun] at this
  cases this

variable {C : World → Prop}
/-- The reading phase: f operations more, none of T, come up. -/
def wpAnyB (P : Program) (md : Region.Mode) (ops : Array Oper) (C : World → Prop) (T : List Nat) (L : Array Bool → Act → Prop) : Nat → Array Bool → Act → Prop
  | 0, listed, a => L listed a
  | f + 1, listed, a =>
    Region.ready md ops listed ≠ [] ∧ ∀ i ∈ Region.ready md ops listed, i ∉ T ∧ qOp P ops C i (wpAnyB P md ops C T L f (listed.setIfInBounds i true)) a

theorem wpAny_of_B {g : Nat} {L : Array Bool → Act → Prop} (hL : ∀ listed a w, C w → L listed a → wpAny P md ops Q g listed a w) :
    ∀ (f : Nat) (listed : Array Bool) (a : Act) (w : World), C w → wpAnyB P md ops C T L f listed a → wpAny P md ops Q (f + g) listed a w
  | 0, listed, a, w, hw, h => by rw [Nat.zero_add]; exact hL _ _ _ hw h
  | f + 1, listed, a, w, hw, h => by
    rw [show f + 1 + g = (f + g) + 1 by omega]
    exact ⟨fun h0 => absurd h0 h.1, fun i hi => wpOp_of_qOp hw (fun a' w' hw' h' => wpAny_of_B hL f _ a' w' hw' h') (h.2 i hi).2⟩

theorem wpAnyB_first {B : List Nat} {i : Nat} {oi : Oper} {v : Value} {L : Array Bool → Act → Prop} (hi : ops[i]? = some oi) (hsel : ∀ (j : Nat) (o : Oper) cs b, ops[j]? = some o → o.op ≠ .select cs b)
    (hs : sinkL md ops (headOf T) B = true) (hc : chainL md ops T = true) (hin : i ∈ B)
    (hdone : ∀ listed a, L listed a → ∀ j ∈ Region.ready md ops listed, j ∈ T) :
    ∀ (f : Nat) (listed : Array Bool) (a : Act), Inv md ops T listed →
      (∀ j oj, ops[j]? = some oj → j ≠ i → listed.getD j true = false → (∀ e ∈ oj.after, Region.binds md e = true → e.on ≠ i) → oi.apart ops oj = true) →
      i ∈ Region.ready md ops listed → YieldsIn P ops C oi v a →
      wpAnyB P md ops C T L f (listed.setIfInBounds i true) (a.put oi.dst v) → wpAnyB P md ops C T L (f + 1) listed a := by
  intro f
  induction f with
  | zero =>
    intro listed a inv _ hr hy H
    have hun := (mem_ready.1 hr).1
    refine ⟨fun h => (by rw [h] at hr; cases hr), fun j hj => ?_⟩
    have hjn := tail_not inv hs hc hin hun hj
    refine ⟨hjn, ?_⟩
    by_cases hji : j = i
    · subst hji; exact hy.qOp hi H
    · exact absurd (hdone _ _ H j (ready_mono hj hji)) hjn
  | succ f ih =>
    intro listed a inv hfree hr hy H
    have hun := (mem_ready.1 hr).1
    refine ⟨fun h => (by rw [h] at hr; cases hr), fun j hj => ?_⟩
    have hjn := tail_not inv hs hc hin hun hj
    refine ⟨hjn, ?_⟩
    by_cases hji : j = i
    · subst hji; exact hy.qOp hi H
    · have h1 := (H.2 j (ready_mono hj hji)).2
      obtain ⟨hjun, oj, hoj, hall⟩ := mem_ready.1 hj
      have hnot : ∀ e ∈ oj.after, Region.binds md e = true → e.on ≠ i := fun e he hb heq => by
        have h1 := hall e he hb
        rw [heq, getD_both hun] at h1
        cases h1
      have h2 := qOp_put hoj (hfree j oj hoj hji hjun hnot) (fun cs b => hsel i oi cs b hi) (fun cs b => hsel j oj cs b hoj) hy h1
      have hfree' : ∀ k ok, ops[k]? = some ok → k ≠ i → (listed.setIfInBounds j true).getD k true = false →
          (∀ e ∈ ok.after, Region.binds md e = true → e.on ≠ i) → oi.apart ops ok = true := fun k ok hk hki hun hno => by
        refine hfree k ok hk hki ?_ hno
        by_cases hjk : j = k
        · subst hjk; exact hjun
        · rw [getD_set_ne true hjk] at hun; exact hun
      refine qOp_mono (fun a' h3 => ih (listed.setIfInBounds j true) a' (inv.set hj hjn) hfree' (ready_mono hr (Ne.symm hji)) h3.1 ?_) h2
      rw [Array.setIfInBounds_comm _ _ hji]
      exact h3.2

theorem pick_cons {l : List Oper} {i : Nat} {o : Oper} {r : List Nat} (h : l[i]? = some o) : pickL l (i :: r) = o :: pickL l r := by simp [pickL, h]

theorem stepB_some {listed : Array Bool} {i : Nat} (h : stepB md ops T listed i = true) : ∃ o, ops[i]? = some o ∧ i ∈ Region.ready md ops listed ∧ Region.free md ops listed i = true ∧ i ∉ T := by
  simp only [stepB, Bool.and_eq_true, Bool.not_eq_true'] at h
  have hr : i ∈ Region.ready md ops listed := by simpa using h.1.1
  obtain ⟨_, o, ho, _⟩ := mem_ready.1 hr
  exact ⟨o, ho, hr, h.1.2, fun hm => by rw [memN_iff.2 hm] at h; exact absurd h.2 (by simp)⟩

theorem planQ_sound (hs : Region.noSelect ops = true) {B0 : List Nat} (hsk : sinkL md ops (headOf T) B0 = true) (hc : chainL md ops T = true) {Lq : Act → Prop} :
    ∀ (B : List Nat) (listed : Array Bool) (a : Act), (∀ i ∈ B, i ∈ B0) → Inv md ops T listed → planQ md ops T B listed (fun l => seqL md ops T l) = true →
      wpQuiet P ops C Lq (pickL ops.toList B) a → wpAnyB P md ops C T (fun l a' => seqL md ops T l = true ∧ Lq a') B.length listed a
  | [], listed, a, _, inv, hp, h => ⟨hp, h⟩
  | i :: r, listed, a, hB, inv, hp, h => by
    simp only [planQ, Bool.and_eq_true] at hp
    obtain ⟨o, ho, hr, hf, hiT⟩ := stepB_some hp.1
    rw [pick_cons (by simpa using ho)] at h
    have hst : qOp P ops C i (wpQuiet P ops C Lq (pickL ops.toList r)) a := by unfold qOp; simp only [ho]; exact h
    obtain ⟨v, hy, hK⟩ := yieldsIn_of_qOp ho hst
    refine wpAnyB_first ho (Region.noSelect_spec hs) hsk hc (hB i (by simp)) ?_ r.length listed a inv (Region.free_spec ho hf) hr hy
      (planQ_sound hs hsk hc r _ _ (fun j hj => hB j (List.mem_cons_of_mem _ hj)) (inv.set hr hiT) hp.2 hK)
    rintro l a' ⟨hl, _⟩ j hj
    cases hT : T with
    | nil => rw [hT] at hl; simp only [seqL, List.isEmpty_iff] at hl; rw [hl] at hj; cases hj
    | cons t T' =>
      rw [hT] at hl
      simp only [seqL, Bool.and_eq_true, decide_eq_true_eq] at hl
      rw [hl.1] at hj
      simpa using .inl (List.mem_singleton.1 hj)

theorem seqL_sound : ∀ (T : List Nat) (listed : Array Bool) (a : Act) (w : World), (∀ t ∈ T, t < ops.size) → seqL md ops T listed = true → wpList P ops Q (pickL ops.toList T) a w → wpAny P md ops Q T.length listed a w
  | [], listed, a, w, _, hB, h => ⟨by simpa [seqL] using hB, h⟩
  | i :: r, listed, a, w, hlt, hB, h => by
    simp only [seqL, Bool.and_eq_true, decide_eq_true_eq] at hB
    have hi := hlt i (by simp)
    have ho : ops[i]? = some ops[i] := by simp [hi]
    rw [pick_cons (o := ops[i]) (by simp [hi])] at h
    refine ⟨fun h1 => (by rw [hB.1] at h1; cases h1), fun k hk => ?_⟩
    rw [hB.1] at hk
    obtain rfl := List.mem_singleton.1 hk
    have hw : wpOp P ops Q k (wpList P ops Q (pickL ops.toList r)) a w := by unfold wpOp; simp only [ho]; exact h
    exact wpOp_mono (fun a' w' h' => seqL_sound r _ a' w' (fun t ht => hlt t (List.mem_cons_of_mem _ ht)) hB.2 h') hw

theorem planA_sound (hs : Region.noSelect ops = true) (hQ : ∀ c a w, ¬ Q (.panic c) a w) {Lq : List Oper → Act → Prop} {f : Nat} {k : Array Bool → Bool} {w : World} (hw : C w)
    (hk : ∀ listed a, Inv md ops T listed → k listed = true → Lq [] a → wpAny P md ops Q f listed a w)
    (hcons : ∀ o l a, Lq (o :: l) a → if Region.wanted o (yielded ops a.tmps) then o.quiet P a C (Lq l) else Lq l (a.put o.dst undef)) :
    ∀ (A : List Nat) (listed : Array Bool) (a : Act), Inv md ops T listed → planA md ops T A listed k = true → Lq (pickL ops.toList A) a → wpAny P md ops Q (A.length + f) listed a w
  | [], listed, a, inv, hp, h => by rw [List.length_nil, Nat.zero_add]; exact hk _ _ inv hp h
  | i :: r, listed, a, inv, hp, h => by
    simp only [planA, Bool.and_eq_true] at hp
    obtain ⟨⟨hp1, hm⟩, hp2⟩ := hp
    obtain ⟨o, ho, hr, hf, hiT⟩ := stepB_some hp1
    rw [pick_cons (by simpa using ho)] at h
    rw [show (i :: r).length + f = (r.length + f) + 1 by simp; omega]
    have hc := hcons _ _ _ h
    simp only [isMove, ho] at hm
    have hgo : ∀ x : Operand, o.guard = none → (∀ w', (execOp a.eval o).run P w' = .ok (.value (a.eval x)) w') → wpAny P md ops Q (r.length + f + 1) listed a w := fun x hg hv => by
      have hwt : Region.wanted o (yielded ops a.tmps) = true := by simp [Region.wanted, hg]
      rw [if_pos hwt] at hc
      obtain ⟨v, h1, h2⟩ := hc
      have h3 := h1 w hw
      unfold Oper.quietAt at h3
      rw [hv] at h3
      obtain ⟨_, rfl⟩ := h3
      exact wpAny_take ho hs hf (by simpa using hr) (fun c a w hq => absurd hq (hQ c _ w)) (.inl ⟨hwt, hv⟩) (planA_sound hs hQ hw hk hcons r _ _ (inv.set hr hiT) hp2 h2)
    split at hm
    · rename_i x hg hop
      exact hgo x hg fun w' => by unfold execOp; rw [hop]; rfl
    · rename_i x hg hop
      exact hgo x hg fun w' => by unfold execOp; rw [hop]; rfl
    · cases hm

/-- **A statement that draws its order and writes.** -/
theorem wp_region_plan {id : Nat} {a : Act} {w : World} {A B T : List Nat} (hm : P.follows .mixedOrders = true) (hp : planB .any ops A B T = true) (hQ : ∀ c a w, ¬ Q (.panic c) a w) (hC : C { w with drawn := w.drawn + 1 })
    (h : wpQuiet P ops C (fun a' => ∀ w', C w' → wpList P ops Q (pickL ops.toList T) a' w') (pickL ops.toList A ++ pickL ops.toList B) a) : (Code.region id ops true).wp P Q a w := by
  simp only [planB, Bool.and_eq_true] at hp
  obtain ⟨⟨⟨⟨⟨⟨hs, hsz⟩, hT⟩, hTl⟩, hsk⟩, hch⟩, hpl⟩ := hp
  refine wp_region_any hm ?_
  have inv0 : Inv .any ops T (Array.replicate ops.size false) := ⟨by simp, fun j oj _ hl => (by rw [getD_replicate_false] at hl; cases hl), fun t _ => getD_replicate_false _ _⟩
  have hsz := Nat.eq_of_beq_eq_true hsz
  have e : A.length + (B.length + T.length) = ops.size := by omega
  have key : wpAny P .any ops Q (A.length + (B.length + T.length)) (Array.replicate ops.size false) a { w with drawn := w.drawn + 1 } := ?_
  · rw [e] at key; exact key
  refine planA_sound (C := C) (T := T) (Lq := fun l a => wpQuiet P ops C (fun a' => ∀ w', C w' → wpList P ops Q (pickL ops.toList T) a' w') (l ++ pickL ops.toList B) a) hs hQ hC
    (fun listed a inv hk hl => ?_) (fun o l a hl => hl) A _ a inv0 hpl h
  have hB := planQ_sound (md := .any) hs hsk hch B listed a (fun i hi => hi) inv hk (by simpa using hl)
  refine wpAny_of_B (g := T.length) (fun l a' w' hw' hL => seqL_sound T l a' w' (fun t ht => ?_) hL.1 (hL.2 w' hw')) _ _ _ _ hC hB
  have := List.all_eq_true.1 hTl t ht
  simpa using this
end

theorem den_panic {C : Ctx} {Q : Exit → Act → World → Prop} (hQ : ∀ c a w, ¬ Q (.panic c) a w) : ∀ (K : List Item) (c : _) (a : Act) (w : World), ¬ den C Q K (.panic c) a w
  | [], c, a, w, h => hQ c a w h
  | .code _ :: K, c, a, w, h => den_panic hQ K c a w h
  | .ops _ _ :: K, c, a, w, h => den_panic hQ K c a w h
  | .blk _ :: K, c, a, w, h => den_panic hQ K c a w h
  | .back _ :: K, c, a, w, h => den_panic hQ K c a w h

def NoPanic (Φ : Exit → St → Prop) : Prop := ∀ c s, ¬ Φ (.panic c) s
theorem Ret.noPanic {g : Cfg} {rs : List ResultVar} {ids : List Nat} {r : V} {H' : List Ch} : NoPanic (Ret g rs ids r H') := fun c s h => by
  rcases h.1 with h | h <;> cases h

theorem app_nil_nil {α : Type} (l : List α) : app2 ([] : List α) l = l := rfl

def app3 {α : Type} : List α → List α → List α
  | [], l => l
  | a :: r, l => a :: app3 r l
theorem app3_eq {α : Type} (a b : List α) : app3 a b = a ++ b := by induction a with
  | nil => rfl
  | cons x a ih => simp [app3, ih]

namespace Cx
variable {P : Pg} {g : Cfg} {C : Ctx} (x : Cx P g C) {s s' : St} {K K' : List Item} {Φ : Exit → St → Prop} {ob : List Prop}
include x
theorem plan (A B T : List Nat) {id : Nat} {ops : Array Oper} (h : run g 1000 K s [] = .code ob (.region id ops true) K' s') (ho : AllP ob) (hm : P.P.follows .mixedOrders = true) (hB : planB .any ops A B T = true) (hΦ : NoPanic Φ)
    (k : QGo C ops (pickL ops.toList (app3 A B)) s' (.ops ops (pickL ops.toList T) :: K') Φ) : Go C K s Φ := by
  refine st x.ty x.n x.fix h ⟨ho, ?_⟩
  rintro a w ⟨ρ, F, hs⟩
  have hd : Mod none w { w with drawn := w.drawn + 1 } := ⟨rfl, rfl, rfl, Nat.le_refl _, fun _ _ _ => rfl⟩
  have hpk : pickL ops.toList (app3 A B) = pickL ops.toList A ++ pickL ops.toList B := by
    rw [app3_eq]
    clear k hB
    induction A with
    | nil => rfl
    | cons i r ih =>
      simp only [List.cons_append, pickL]
      split <;> simp [ih]
  rw [hpk] at k
  show Code.wp C.P (.region id ops true) (den C (conc C Φ) K') a w
  exact wp_region_plan (C := Mod none w) (x.progP.symm ▸ hm) hB (den_panic (fun c a w ⟨s, _, hh⟩ => hΦ c s hh) K') hd (k a w ρ F hs)
end Cx
end Go.Sx

/-
  Sx, part 27: plain facts for elements of one cell.
-/
set_option linter.unusedVariables false
set_option linter.unusedSimpArgs false
namespace Go.Sx

theorem zip1 (c : Prop) [Decidable c] (a b : D) : zipIte c [a] [b] = [iteD c a b] := by
  unfold zipIte
  congr 1
  unfold zipIte
  simp
theorem iteD_int (c : Prop) [Decidable c] (k : IntKind) (a b : Int) : iteD c (.int k a) (.int k b) = .int k (if c then a else b) := by
  show (bif kbeq k k then D.int k (if c then a else b) else if c then D.int k a else D.int k b) = _
  rw [show kbeq k k = true by simp [kbeq]]
  rfl
theorem put2_int (k : IntKind) (b : Nat → Int) (i : Nat) (v : Int) : put2 (fun j => [D.int k (b j)]) i 0 [.int k v] = fun j => [D.int k (if j = i then v else b j)] := by
  funext j
  show zipIte (j = i) [D.int k v] [D.int k (b j)] = _
  rw [zip1, iteD_int]
theorem put2_bool (b : Nat → Bool) (i : Nat) (v : Bool) : put2 (fun j => [D.bool (b j)]) i 0 [.bool v] = fun j => [D.bool (if j = i then v else b j)] := by
  funext j
  show zipIte (j = i) [D.bool v] [D.bool (b j)] = _
  rw [zip1]
  rfl
theorem app_int (k : IntKind) (n : Nat) (b c : Nat → Int) : app n (fun j => [D.int k (b j)]) (fun j => [D.int k (c j)]) = fun j => [D.int k (if j < n then b j else c (j - n))] := by
  funext j
  show zipIte (j < n) [D.int k (b j)] [D.int k (c (j - n))] = _
  rw [zip1, iteD_int]
/-- What one cell of a list holds. -/
theorem app_list (k : IntKind) (l : List Int) (v : Int) (j : Nat) (hj : j < l.length + 1) : app l.length (fun j => [D.int k (l.getD j 0)]) (fun _ => [D.int k v]) j = [D.int k ((l ++ [v]).getD j 0)] := by
  show zipIte (j < l.length) [D.int k (l.getD j 0)] [D.int k v] = _
  rw [zip1, iteD_int]
  congr 2
  by_cases h : j < l.length
  · rw [if_pos h]; simp [List.getD_eq_getElem?_getD, List.getElem?_append_left h]
  · rw [if_neg h]
    have : j = l.length := by omega
    subst this
    simp [List.getD_eq_getElem?_getD]

/-- Two ways that come together again. -/
theorem Cx.ite {P : Pg} {g : Cfg} {C : Ctx} (x : Cx P g C) {s s' : St} {K K' : List Item} {Φ : Exit → St → Prop} {ob : List Prop} {α : Type} (I : α → St) {b : Bool} {c1 c2 : Code} (h : run g 1000 K s [] = .cond ob b c1 c2 K' s') (ho : AllP ob)
    (h1 : b = true → Go C (.code c1 :: .back (fun s' => ∃ y, LE g.fix s' (I y)) :: K') s' Φ) (h2 : b = false → Go C (.code c2 :: .back (fun s' => ∃ y, LE g.fix s' (I y)) :: K') s' Φ) (h3 : ∀ y, Go C K' (I y) Φ) : Go C K s Φ :=
  x.cond h ho (fun hb => x.cut I (h1 hb) h3) (fun hb => x.cut I (h2 hb) h3)

/-- A slice that is nil is an owned one of no elements. -/
theorem Go.own {C : Ctx} {s : St} {K : List Item} {Φ : Exit → St → Prop} (t : Nat) (e : TypeId) (sz : Nat) (f : Nat → List D) (h : get s.L t = some .nils) (k : Go C K (newCh s t (.own s.m) (.vec e sz 0 f)) Φ) : Go C K s Φ := by
  rintro a w ⟨ρ, F, hs⟩
  obtain ⟨x, hx, hr⟩ := hs.slot t _ (get_mem h)
  obtain rfl : x = .slice none 0 0 := hr
  have hlt : t < a.tmps.size := (Array.getElem?_eq_some_iff.1 hx).1
  have hput : a.put (some t) (.slice none 0 0) = a := by
    cases a with
    | mk tmps defers =>
      simp only [Act.put, Act.mk.injEq, and_true]
      apply Array.ext
      · simp
      · intro i h1 h2
        by_cases hi : t = i
        · subst hi
          have := (Array.getElem?_eq_some_iff.1 hx).2
          simp [this]
        · rw [Array.getElem_setIfInBounds_ne _ hi]
  have := hs.row (d := t) (x := .slice none 0 0) (e := e) (sz := sz) (n := 0) (f := f) (xs := []) (w' := w) (by rw [← hs.size]; exact hlt) ⟨rfl, rfl, rfl, Nat.le_refl _, fun _ _ _ => rfl⟩ (fun b hb => by simp [blk] at hb) ⟨_, _, _, rfl⟩ ⟨by simp, .inl ⟨rfl, rfl⟩⟩ (fun i hi => absurd hi (Nat.not_lt_zero _))
  rw [hput] at this
  exact k a w this

/-- Up to a loop, to turn the state ahead of it. -/
theorem Cx.toLoop {P : Pg} {g : Cfg} {C : Ctx} (x : Cx P g C) {s s' : St} {K K' : List Item} {Φ : Exit → St → Prop} {ob : List Prop} {c : Code} (h : run g 1000 K s [] = .loop ob c K' s') (ho : AllP ob)
    (k : Go C (.code (.loop c) :: K') s' Φ) : Go C K s Φ :=
  st x.ty x.n x.fix h ⟨ho, k⟩

/-! ### byte strings as lists -/
def ba (l : List UInt8) : ByteArray := ⟨l.toArray⟩
theorem ba_app (a b : List UInt8) : ba a ++ ba b = ba (a ++ b) := by
  apply ByteArray.ext
  simp [ba, ByteArray.data_append]
theorem ba_eq (s : ByteArray) : s = ba s.data.toList := by cases s; rfl
theorem ba_size (l : List UInt8) : (ba l).size = l.length := by simp [ba, ByteArray.size]
theorem bytesOf_ba (n : Nat) (b : Nat → Int) : bytesOf n (fun j => [D.int .u8 (b j)]) = ba ((List.range n).map fun i => UInt8.ofNat (b i).toNat) := rfl
end Go.Sx

/-
  Sx, part 28: contracts that the library's shelf gives; scopes without a jump.
-/
set_option linter.unusedVariables false
set_option linter.unusedSimpArgs false
namespace Go.Sx

theorem callable_of {P : Program} {f : FuncId} {fn : Func} (h : P.funcs[f]? = some fn) (hb : fn.body.isSome = true) (hn : (fn.name == "runtime.NumGoroutine") = false) : Callable P f := ⟨fn, h, hb, hn⟩

def vals0 : List V → Option (List Value)
  | [] => some []
  | v :: r => match valOf v, vals0 r with
    | some x, some xs => some (x :: xs)
    | _, _ => none

theorem vals0_sound {ρ : Nat → Value} {F : Nat → Prop} {w : World} : ∀ {us : List V} {xs ys : List Value}, vals0 us = some xs → All2 (R3 ρ F w) us ys → ys = xs
  | [], xs, ys, h, hr => by
    cases ys with
    | nil => simpa [vals0] using h
    | cons => exact hr.elim
  | u :: us, xs, ys, h, hr => by
    cases ys with
    | nil => exact hr.elim
    | cons y ys =>
      simp only [vals0] at h
      split at h
      · rename_i x0 xs0 e1 e2
        simp only [Option.some.injEq] at h
        subst h
        rw [valOf_sound e1 hr.1, vals0_sound e2 hr.2]
      · simp at h

/-- A contract of the shelf: plain arguments, a plain answer, at most new blocks. -/
theorem Pure.ofLib {P : Pg} {f : FuncId} {args : List V} {vals : List Value} {vs : Array Value} {r : V} {v : Value} (hc : Callable P.P f) (hfr : (freshAll args [] 0 && freshAll [r] [] 0) = true) (ha : vals0 args = some vals) (hvs : vs = vals.toArray) (hr : valOf r = some v)
    (h : ∀ (w : World) (F : Nat → Prop), EnvOK P.env F w → Calls P.P f vs w fun e w' => e = .returned v ∧ Go.RowKit.Below w.heap.size w w') : Pure P f args r [] := by
  subst hvs
  simp only [Bool.and_eq_true] at hfr
  refine ⟨hc, hfr.1, hfr.2, Nat.le_refl _, Nat.le_refl _, fun w F ρ ys hF hE hH hargs => ?_⟩
  obtain rfl := vals0_sound ha hargs
  refine (h w F hE).mono ?_
  rintro e w' ⟨rfl, hb⟩
  obtain ⟨b1, b2, b3, b4, b5⟩ := hb
  refine ⟨v, ρ, F, rfl, ⟨b1, b2, b3, b4, fun k hk _ => b5 k hk⟩, fun _ _ => rfl, fun _ hk => hk, fun k hk => Nat.lt_of_lt_of_le (hF k hk) b4, fun _ hk => .inl hk, valOf_mk hr, ⟨fun i c hi => by simp at hi, fun i j b hi => absurd hi (Nat.not_lt_zero _), fun i b hi => absurd hi (Nat.not_lt_zero _)⟩, fun i b hi => absurd hi (Nat.not_lt_zero _)⟩

def NoGoto (Φ : Exit → St → Prop) : Prop := ∀ l s, ¬ Φ (.goto l) s
theorem Ret.noGoto {g : Cfg} {rs : List ResultVar} {ids : List Nat} {r : V} {H' : List Ch} : NoGoto (Ret g rs ids r H') := fun c s h => by
  rcases h.1 with h | h <;> cases h
theorem den_noGoto {C : Ctx} {Q : Exit → Act → World → Prop} (hQ : ∀ l a w, ¬ Q (.goto l) a w) : ∀ (K : List Item) (l : Nat) (a : Act) (w : World), ¬ den C Q K (.goto l) a w
  | [], c, a, w, h => hQ c a w h
  | .code _ :: K, c, a, w, h => den_noGoto hQ K c a w h
  | .ops _ _ :: K, c, a, w, h => den_noGoto hQ K c a w h
  | .blk _ :: K, c, a, w, h => den_noGoto hQ K c a w h
  | .back _ :: K, c, a, w, h => den_noGoto hQ K c a w h

/-- A scope through which the run goes without a jump. -/
theorem Cx.scope {P : Pg} {g : Cfg} {C : Ctx} (x : Cx P g C) {s s' : St} {K K' : List Item} {Φ : Exit → St → Prop} {ob : List Prop} {c : Code} (h : run g 1000 K s [] = .code ob (.scope c) K' s') (ho : AllP ob) (hΦ : NoGoto Φ)
    (k : Go C (.code c :: K') s' Φ) : Go C K s Φ := by
  refine st x.ty x.n x.fix h ⟨ho, ?_⟩
  intro a w hs
  rw [den_code]
  refine wp_scope_straight (wp_mono (k a w hs) ?_)
  intro e a w hq
  cases e with
  | goto l => exact absurd hq (den_noGoto (fun l a w ⟨s, _, hh⟩ => hΦ l s hh) K' l a w)
  | _ => exact hq
end Go.Sx

/-
  Sx, part 29: from what a statement's frame reads of an argument to the engine's data; data that are alike.
-/
set_option linter.unusedVariables false
set_option linter.unusedSimpArgs false
namespace Go.Sx

/-- What the cells of a type are. -/
inductive DTy where
  | bool
  | int (k : IntKind)
  | str
  | sl (b : Nat) (e : List DTy)

/-- Data of that kind. -/
inductive Conf1 : DTy → D → Prop
  | bool (b : Bool) : Conf1 .bool (.bool b)
  | int (k : IntKind) (n : Int) (h : (Lit.int k n).wf = true) : Conf1 (.int k) (.int k n)
  | str (s : ByteArray) (h : s.size ≤ maxLen) (hz : s.size ≤ reachBytes) : Conf1 .str (.str s)
  | sl (b : Nat) (e : List DTy) (n : Nat) (f : Nat → List D) (hn : n ≤ maxLen) (hz : n * b ≤ reachBytes) (hl : ∀ i, i < n → (f i).length = e.length)
      (h : ∀ (i j : Nat) (t : DTy) (d : D), i < n → e[j]? = some t → (f i)[j]? = some d → Conf1 t d) : Conf1 (.sl b e) (.sl e.length n f)
def Conf (τ : List DTy) (ds : List D) : Prop := ds.length = τ.length ∧ ∀ (j : Nat) (t : DTy) (d : D), τ[j]? = some t → ds[j]? = some d → Conf1 t d

/-- The cells of a type, read off the program. -/
def flatFs (go : TypeId → Option (List DTy)) (sz : TypeId → Nat) : Nat → List (Nat × TypeId) → Option (List DTy)
  | _, [] => some []
  | o, (off, ty) :: r => match go ty, flatFs go sz (o + sz ty) r with
    | some a, some b => bif Nat.beq off o && Nat.beq a.length (sz ty) then some (a ++ b) else none
    | _, _ => none
def flatTy (P : Program) : Nat → TypeId → Option (List DTy)
  | 0, _ => none
  | k + 1, t => match P.underlying t with
    | some .bool => some [.bool]
    | some (.int kd) => some [.int kd]
    | some .string => some [.str]
    | some (.slice e) => match flatTy P k e with
      | some τ => bif Nat.beq τ.length (P.cellsOf e) && Nat.ble 1 τ.length then some [.sl (P.bytesOf e) τ] else none
      | none => none
    | some (.struct fs) => match flatFs (flatTy P k) P.cellsOf 0 (fs.toList.map fun f => (f.offset, f.type)) with
      | some τ => bif Nat.beq τ.length (P.cellsOf t) then some τ else none
      | none => none
    | _ => none

section
variable {P : Program} {H : Type} {enc : TypeId × Value → H} {w : World} {spare : Nat → Bool} {held : Bool}
abbrev Old (w : World) : Nat → Prop := fun k => k < w.heap.size

theorem cells_get {a : Addr} {n : Nat} {cs : List Value} (h : w.cells? 0 a n = some cs) : cs.length = n ∧ ∀ j, j < n → w.cell? (a.add j) = cs[j]? := by
  unfold World.cells? at h
  rw [if_pos (Nat.zero_le _)] at h
  exact ⟨by simpa using mapM_some_length h, fun j hj => mapM_some_get h j j (by simp [hj])⟩

theorem cell_old {a : Addr} {v : Value} (h : w.cell? a = some v) : Old w a.block ∧ a.spot = none := by
  unfold World.cell? at h
  split at h
  · rename_i c _ _ hh
    refine ⟨(Array.getElem?_eq_some_iff.1 hh).1, ?_⟩
    cases hs : a.spot with
    | none => rfl
    | some _ => simp [hs] at h
  · simp at h

theorem all2_of_get {α β : Type} {R : α → β → Prop} : ∀ {as : List α} {bs : List β}, as.length = bs.length → (∀ (j : Nat) a b, as[j]? = some a → bs[j]? = some b → R a b) → All2 R as bs
  | [], [], _, _ => trivial
  | a :: as, b :: bs, hl, h => ⟨h 0 a b rfl rfl, all2_of_get (by simpa using hl) fun j x y hx hy => h (j + 1) x y (by simpa using hx) (by simpa using hy)⟩
  | [], _ :: _, hl, _ => by simp at hl
  | _ :: _, [], hl, _ => by simp at hl

def Opens (P : Program) (w : World) (t : TypeId) (τ : List DTy) (cs : List Value) : Prop := ∃ ds, Conf τ ds ∧ All2 (RD (Old w) w) ds cs

theorem conf_app {τ σ : List DTy} {as bs : List D} (h1 : Conf τ as) (h2 : Conf σ bs) : Conf (τ ++ σ) (as ++ bs) := by
  refine ⟨by simp [h1.1, h2.1], fun j t d ht hd => ?_⟩
  by_cases hj : j < τ.length
  · rw [List.getElem?_append_left hj] at ht
    rw [List.getElem?_append_left (by rw [h1.1]; exact hj)] at hd
    exact h1.2 j t d ht hd
  · rw [List.getElem?_append_right (by omega)] at ht
    rw [List.getElem?_append_right (by rw [h1.1]; omega), h1.1] at hd
    exact h2.2 _ t d ht hd

theorem fs_open (go : TypeId → Option (List DTy)) : ∀ (l : List (Nat × TypeId)) (o : Nat) (τ : List DTy) (cs : List Value), flatFs go P.cellsOf o l = some τ → o + τ.length = cs.length →
    (∀ f ∈ l, ∀ σ, go f.2 = some σ → Opens P w f.2 σ ((cs.drop f.1).take (P.cellsOf f.2))) → ∃ ds, Conf τ ds ∧ All2 (RD (Old w) w) ds (cs.drop o)
  | [], o, τ, cs, h, hl, _ => by
    simp only [flatFs, Option.some.injEq] at h
    subst h
    refine ⟨[], ⟨rfl, fun j t d ht => by simp at ht⟩, ?_⟩
    rw [List.drop_eq_nil_of_le (by simp at hl; omega)]
    trivial
  | (off, ty) :: r, o, τ, cs, h, hl, hop => by
    simp only [flatFs] at h
    split at h
    · rename_i a b h1 h2
      cases hb : (Nat.beq off o && Nat.beq a.length (P.cellsOf ty)) with
      | false => rw [hb] at h; simp at h
      | true =>
        rw [hb] at h
        simp only [cond_true, Option.some.injEq] at h
        subst h
        simp only [Bool.and_eq_true] at hb
        have e1 := Nat.eq_of_beq_eq_true hb.1
        have e2 := Nat.eq_of_beq_eq_true hb.2
        subst e1
        simp only [List.length_append] at hl
        obtain ⟨as, c1, r1⟩ := hop (off, ty) (by simp) a h1
        obtain ⟨bs, c2, r2⟩ := fs_open go r (off + P.cellsOf ty) b cs h2 (by omega) fun f hf => hop f (List.mem_cons_of_mem _ hf)
        refine ⟨as ++ bs, conf_app c1 c2, ?_⟩
        have := r1.app r2
        simp only at this
        rwa [show (cs.drop off).take (P.cellsOf ty) ++ cs.drop (off + P.cellsOf ty) = cs.drop off by rw [← List.drop_drop, List.take_append_drop]] at this
    · simp at h

theorem weightsAll_mem {P : Program} {e : TypeId} : ∀ {l : List (DataW H)} {d : DataW H}, d ∈ l → ∀ n ∈ d.weights P e, n ∈ DataW.weightsAll P e l
  | a :: l, d, hd, n, hn => by
    simp only [DataW.weightsAll, List.mem_append]
    rcases List.mem_cons.1 hd with rfl | hd
    · exact .inl hn
    · exact .inr (weightsAll_mem hd n hn)
  | [], _, hd, _, _ => by cases hd

theorem trod_opens : ∀ (k : Nat) (t : TypeId) (τ : List DTy) (fuel : Nat) (cs : List Value) (x : DataW H × List MemPlace), flatTy P k t = some τ → DataW.trod enc P w 0 spare held fuel t cs = some x → (∀ n ∈ DataW.weights P t x.1, n ≤ reachBytes) → Opens P w t τ cs
  | 0, t, τ, _, _, _, h, _, _ => by simp [flatTy] at h
  | k + 1, t, τ, fuel, cs, x, h, hx, hwt => by
    unfold flatTy at h
    split at h
    · rename_i hu
      obtain ⟨b, rfl, _⟩ := DataW.trod_bool hu hx
      simp only [Option.some.injEq] at h
      subst h
      exact ⟨[.bool b], ⟨rfl, fun j t d ht hd => by
        match j with
        | 0 => simp at ht hd; subst ht hd; exact .bool b
        | j + 1 => simp at ht⟩, .bool b, trivial⟩
    · rename_i kd hu
      obtain ⟨n, rfl, _, hw⟩ := DataW.trod_int hu hx
      simp only [Option.some.injEq] at h
      subst h
      exact ⟨[.int kd n], ⟨rfl, fun j t d ht hd => by
        match j with
        | 0 => simp at ht hd; subst ht hd; exact .int kd n hw
        | j + 1 => simp at ht⟩, .int kd n, trivial⟩
    · rename_i hu
      obtain ⟨s, rfl, hxe, hw⟩ := DataW.trod_string hu hx
      have hz : s.size ≤ reachBytes := by
        have h0 := hwt s.data.toList.length (by
          rw [hxe]
          show _ ∈ DataW.weights P t (.lit (.string s.data.toList))
          rw [DataW.weights]
          exact List.mem_singleton.2 rfl)
        rw [Array.length_toList] at h0
        exact h0
      simp only [Option.some.injEq] at h
      subst h
      exact ⟨[.str s], ⟨rfl, fun j t d ht hd => by
        match j with
        | 0 => simp at ht hd; subst ht hd; exact .str s hw hz
        | j + 1 => simp at ht⟩, .str s, trivial⟩
    · rename_i e hu
      split at h
      · rename_i σ hσ
        cases hb : (Nat.beq σ.length (P.cellsOf e) && Nat.ble 1 σ.length) with
        | false => rw [hb] at h; simp at h
        | true =>
          rw [hb] at h
          simp only [cond_true, Option.some.injEq] at h
          subst h
          simp only [Bool.and_eq_true] at hb
          have hsz := Nat.eq_of_beq_eq_true hb.1
          have hpos : 1 ≤ σ.length := by simpa using hb.2
          have one : ∀ d : D, Conf1 (.sl (P.bytesOf e) σ) d → Conf [.sl (P.bytesOf e) σ] [d] := fun d hd => ⟨rfl, fun j t d' ht hd' => by
            match j with
            | 0 => simp at ht hd'; subst ht hd'; exact hd
            | j + 1 => simp at ht⟩
          rcases DataW.trod_slice hu hx with ⟨rfl, _⟩ | ⟨a, len, cap, elems, rest, n, rfl, rfl, hxe, _, hl, hm, hlen, hel, _, _⟩
          · exact ⟨[.sl σ.length 0 fun _ => []], one _ (.sl _ σ 0 _ (Nat.zero_le _) (by simp) (fun i hi => absurd hi (Nat.not_lt_zero _)) (fun i j t d hi => absurd hi (Nat.not_lt_zero _))), .emp _ _ _ _, trivial⟩
          · have hin : ∀ y ∈ elems, ∀ n ∈ DataW.weights P e y.1, n ≤ reachBytes := fun y hy n hn => hwt n (by
              rw [hxe]
              show _ ∈ DataW.weights P t (.slice (elems.map (·.1)) (rest.map (·.1)))
              simp only [DataW.weights, hu, List.mem_cons, List.mem_append]
              exact .inr (.inl (weightsAll_mem (List.mem_map_of_mem hy) n hn)))
            have hz : len * P.bytesOf e ≤ reachBytes := by
              have h0 := hwt (((elems.map (·.1)).length + (rest.map (·.1)).length) * P.bytesOf e) (by
                rw [hxe]
                show _ ∈ DataW.weights P t (.slice (elems.map (·.1)) (rest.map (·.1)))
                simp only [DataW.weights, hu, List.mem_cons]
                exact .inl trivial)
              refine Nat.le_trans (Nat.mul_le_mul_right _ ?_) h0
              simp only [List.length_map]
              omega
            -- each element
            have each : ∀ i, i < len → ∃ (cs' : List Value) (ds : List D), cs'.length = σ.length ∧ (∀ j, j < σ.length → w.cell? ((a.add (i * σ.length)).add j) = cs'[j]?) ∧ Conf σ ds ∧ All2 (RD (Old w) w) ds cs' := fun i hi => by
              have h1 := hel i hi
              obtain ⟨y, hy⟩ : ∃ y, elems[i]? = some y := ⟨_, List.getElem?_eq_getElem (by omega)⟩
              rw [hy, Option.bind_eq_some_iff] at h1
              obtain ⟨cs', h2, h3⟩ := h1
              obtain ⟨h4, h5⟩ := cells_get h2
              obtain ⟨ds, h6, h7⟩ := trod_opens k e σ n cs' y hσ h3 (hin y (List.mem_of_getElem? hy))
              rw [← hsz] at h4 h5
              exact ⟨cs', ds, h4, h5, h6, h7⟩
            by_cases h0 : len = 0
            · subst h0
              exact ⟨[.sl σ.length 0 fun _ => []], one _ (.sl _ σ 0 _ (Nat.zero_le _) (by simp) (fun i hi => absurd hi (Nat.not_lt_zero _)) (fun i j t d hi => absurd hi (Nat.not_lt_zero _))), .emp _ _ _ _, trivial⟩
            · let ff : Nat → List D := fun i => if h : i < len then Classical.choose (Classical.choose_spec (each i h)) else []
              let cc : Nat → List Value := fun i => if h : i < len then Classical.choose (each i h) else []
              have prop : ∀ i, i < len → (cc i).length = σ.length ∧ (∀ j, j < σ.length → w.cell? ((a.add (i * σ.length)).add j) = (cc i)[j]?) ∧ Conf σ (ff i) ∧ All2 (RD (Old w) w) (ff i) (cc i) := fun i hi => by
                have e1 : ff i = Classical.choose (Classical.choose_spec (each i hi)) := by simp only [ff, hi, dite_true]
                have e2 : cc i = Classical.choose (each i hi) := by simp only [cc, hi, dite_true]
                rw [e1, e2]
                exact Classical.choose_spec (Classical.choose_spec (each i hi))
              have hsp : Old w a.block ∧ a.spot = none := by
                obtain ⟨p1, p2, _⟩ := prop 0 (by omega)
                have hc := p2 0 (by omega)
                rw [List.getElem?_eq_getElem (by omega)] at hc
                have := cell_old hc
                simpa [Addr.add] using this
              obtain ⟨b, o, sp⟩ := a
              simp only at hsp
              obtain ⟨hb', rfl⟩ := hsp
              refine ⟨[.sl σ.length len ff], one _ (.sl _ σ len ff (by omega) hz (fun i hi => (prop i hi).2.2.1.1) (fun i j t d hi ht hd => (prop i hi).2.2.1.2 j t d ht hd)), ?_, trivial⟩
              refine .sl σ.length len ff b o cap (fun i j => ((cc i)[j]?).getD undef) hb' hl (fun i j hi hj => ?_) (fun i hi => (prop i hi).2.2.1.1) (fun i j d hi hd => ?_)
              · obtain ⟨p1, p2, _⟩ := prop i hi
                have hc := p2 j hj
                rw [Addr.add_lit, Addr.add_lit] at hc
                rw [← Nat.add_assoc, hc, List.getElem?_eq_getElem (by omega)]
                rfl
              · obtain ⟨p1, p2, p3, p4⟩ := prop i hi
                obtain ⟨c, c1, c2⟩ := p4.get hd
                rw [c1]
                exact c2
      · simp at h
    · rename_i fs hu
      split at h
      · rename_i σ hσ
        cases hb : Nat.beq σ.length (P.cellsOf t) with
        | false => rw [hb] at h; simp at h
        | true =>
          rw [hb] at h
          simp only [cond_true, Option.some.injEq] at h
          subst h
          have hsz := Nat.eq_of_beq_eq_true hb
          obtain ⟨xs, n, rfl, hxe, hlen, _, hfs⟩ := DataW.trod_struct hu hx
          have := fs_open (P := P) (w := w) (flatTy P k) (fs.toList.map fun f => (f.offset, f.type)) 0 σ cs hσ (by omega) (fun f hf σ' hσ' => by
            obtain ⟨f0, hf0, rfl⟩ := List.mem_map.1 hf
            obtain ⟨i, hi⟩ := List.getElem?_of_mem hf0
            have h1 := hfs i f0 (by simpa using hi)
            have hlt : i < xs.length := by
              have := (List.getElem?_eq_some_iff.1 hi).1
              simp at this
              omega
            rw [List.getElem?_eq_getElem hlt] at h1
            exact trod_opens k f0.type σ' n _ _ hσ' h1 (fun m hm => hwt m (by
              rw [hxe]
              show _ ∈ DataW.weights P t (.agg (xs.map (·.1)))
              simp only [DataW.weights, hu]
              exact DataW.weights_mem_each (j := i) (by simpa using congrArg (Option.map Field.type) hi) (by simp [List.getElem?_eq_getElem hlt]) m hm)))
          rw [List.drop_zero] at this
          exact this
      · simp at h
    · simp at h

theorem okWide_one {t : TypeId} {r : Reach} {base : Nat} {v : Value} (h : Value.okWide P w r base t v) (hu : P.underlying t = some .bool ∨ (∃ k, P.underlying t = some (.int k)) ∨ P.underlying t = some .string ∨ ∃ e, P.underlying t = some (.slice e)) : v.cells = #[v] := by
  unfold Value.okWide at h
  have go : Cell.okWide P w r base t v → v.cells = #[v] := fun h => by
    unfold Cell.okWide at h
    rcases hu with hu | ⟨k, hu⟩ | hu | ⟨e, hu⟩ <;> rw [hu] at h <;> simp only at h <;> unfold Cell.ok at h <;> rw [hu] at h <;> cases v <;> first | rfl | exact h.elim | (simp at h)
  rcases hu with hu | ⟨k, hu⟩ | hu | ⟨e, hu⟩ <;> rw [hu] at h <;> exact go h

/-- AN ARGUMENT OF ONE CELL, opened. -/
theorem open_cell {t : TypeId} {r : Reach} {base : Nat} {v : Value} {d : DataW H} {ps : List MemPlace} {σ : DTy} (k : Nat) (hok : Value.okWide P w r base t v) (h : DataW.Trod enc P w 0 spare held t v d ps)
    (hu : P.underlying t = some .bool ∨ (∃ k, P.underlying t = some (.int k)) ∨ P.underlying t = some .string ∨ ∃ e, P.underlying t = some (.slice e)) (hf : flatTy P k t = some [σ]) (hwt : ∀ n ∈ DataW.weights P t d, n ≤ reachBytes) : ∃ x, Conf1 σ x ∧ RD (Old w) w x v := by
  obtain ⟨fuel, h⟩ := h
  rw [okWide_one hok hu] at h
  obtain ⟨ds, hc, hr⟩ := trod_opens k t [σ] fuel _ _ hf h hwt
  match ds, hr with
  | [x], hr => exact ⟨x, hc.2 0 σ x rfl rfl, hr.1⟩
  | [], hr => exact hr.elim
  | _ :: _ :: _, hr => exact hr.2.elim

/-- An argument that is a struct, opened. -/
theorem open_struct {t : TypeId} {r : Reach} {base : Nat} {v : Value} {d : DataW H} {ps : List MemPlace} {τ : List DTy} {fs : Array Field} (k : Nat) (hok : Value.okWide P w r base t v) (h : DataW.Trod enc P w 0 spare held t v d ps)
    (hu : P.underlying t = some (.struct fs)) (hf : flatTy P k t = some τ) (hwt : ∀ n ∈ DataW.weights P t d, n ≤ reachBytes) : ∃ (cs : List Value) (ds : List D), v = .agg cs.toArray ∧ Conf τ ds ∧ All2 (RD (Old w) w) ds cs := by
  unfold Value.okWide at hok
  rw [hu] at hok
  obtain ⟨cs, rfl, _, _⟩ := hok
  obtain ⟨fuel, h⟩ := h
  obtain ⟨ds, hc, hr⟩ := trod_opens k t τ fuel _ _ hf h hwt
  exact ⟨cs.toList, ds, by simp, hc, hr⟩
end

theorem DEq.rfl' (d : D) : DEq d d := by
  cases d with
  | int k n => show bif kbeq k k then n = n else False; simp [kbeq]
  | bool b => exact rfl
  | str s => exact rfl
  | sl z n f => exact ⟨rfl, fun _ => rfl, fun _ _ => rfl⟩
  | nf => trivial
  | ni => trivial
  | np => trivial
  | ifc t ns => exact ⟨rfl, rfl⟩
theorem veq_d {d d' : D} (h : d = d') : VEq (.d d) (.d d') := by subst h; exact DEq.rfl' d

/-- Data that read alike. -/
inductive DQ : D → D → Prop
  | refl (d : D) : DQ d d
  | emp (z z' : Nat) (f f' : Nat → List D) : DQ (.sl z 0 f) (.sl z' 0 f')
  | sl (z n : Nat) (f f' : Nat → List D) (hl : ∀ i, i < n → (f i).length = (f' i).length) (h : ∀ (i j : Nat) (d d' : D), i < n → (f i)[j]? = some d → (f' i)[j]? = some d' → DQ d d') : DQ (.sl z n f) (.sl z n f')

theorem DQ.sound {F : Nat → Prop} {w : World} {d d' : D} (h : DQ d d') : ∀ {v : Value}, RD F w d v → RD F w d' v := by
  induction h with
  | refl d => exact fun h => h
  | emp z z' f f' => intro v hr; cases hr <;> exact .emp _ _ _ _
  | sl z n f f' hl _ ih =>
    intro v hr
    cases hr with
    | emp => exact .emp _ _ _ _
    | sl _ _ _ b o cap cs hF hn hc hlen hrr =>
      refine .sl _ _ _ b o cap cs hF hn hc (fun i hi => by rw [← hl i hi]; exact hlen i hi) (fun i j d' hi hd' => ?_)
      have hj : j < (f i).length := by rw [hl i hi]; exact (List.getElem?_eq_some_iff.1 hd').1
      exact ih i j _ d' hi (List.getElem?_eq_getElem hj) hd' (hrr i j _ hi (List.getElem?_eq_getElem hj))

/-- A slice whose elements are of one cell. -/
theorem conf_one {b : Nat} {σ : DTy} {x : D} (h : Conf1 (.sl b [σ]) x) : ∃ (n : Nat) (g : Nat → D), DQ x (.sl 1 n fun i => [g i]) ∧ (n ≤ maxLen ∧ n * b ≤ reachBytes) ∧ ∀ i, i < n → Conf1 σ (g i) := by
  cases h with
  | sl _ _ n f hn hz hl hc =>
    have one : ∀ i, i < n → ∃ d, f i = [d] := fun i hi => by
      have := hl i hi
      match hf : f i with
      | [d] => exact ⟨d, rfl⟩
      | [] => rw [hf] at this; cases this
      | _ :: _ :: _ => rw [hf] at this; simp at this
    refine ⟨n, fun i => (f i).headD (.bool false), .sl 1 n f _ (fun i hi => by rw [hl i hi]; rfl) (fun i j d d' hi hd hd' => ?_), ⟨hn, hz⟩, fun i hi => ?_⟩
    · obtain ⟨y, hy⟩ := one i hi
      dsimp only at hd'
      rw [hy] at hd hd'
      match j with
      | 0 => simp at hd hd'; subst hd hd'; exact .refl _
      | j + 1 => simp at hd
    · obtain ⟨y, hy⟩ := one i hi
      show Conf1 σ ((f i).headD (.bool false))
      rw [hy]
      exact hc i 0 σ y hi rfl (by rw [hy]; rfl)

theorem DQ.trans {a b : D} (h : DQ a b) : ∀ {c : D}, DQ b c → DQ a c := by
  induction h with
  | refl d => exact fun h => h
  | emp z z' f f' =>
    intro c hc
    cases hc with
    | refl => exact .emp _ _ _ _
    | emp => exact .emp _ _ _ _
    | sl _ _ _ f'' => exact .emp _ _ _ _
  | sl z n f f' hl h ih =>
    intro c hc
    cases hc with
    | refl => exact .sl z n f f' hl h
    | emp => exact .emp _ _ _ _
    | sl _ _ _ f'' hl' h' =>
      refine .sl z n f f'' (fun i hi => (hl i hi).trans (hl' i hi)) fun i j d d'' hi hd hd'' => ?_
      have hj : j < (f' i).length := by rw [← hl i hi]; exact (List.getElem?_eq_some_iff.1 hd).1
      exact ih i j d _ hi hd (List.getElem?_eq_getElem hj) (h' i j _ d'' hi (List.getElem?_eq_getElem hj) hd'')

/-! ### lists of numbers, lists of these -/
def dInts (l : List Int) : D := .sl 1 l.length fun j => [.int .i64 (l.getD j 0)]
def dRows (to : List (List Int)) : D := .sl 1 to.length fun i => [dInts (to.getD i [])]

theorem conf_int {k : IntKind} {x : D} (h : Conf1 (.int k) x) : ∃ n, x = .int k n ∧ (Lit.int k n).wf = true := by
  cases h with
  | int _ n h => exact ⟨n, rfl, h⟩
theorem conf_ints {b : Nat} {x : D} (h : Conf1 (.sl b [.int .i64]) x) : ∃ l : List Int, DQ x (dInts l) ∧ (l.length ≤ maxLen ∧ l.length * b ≤ reachBytes) ∧ ∀ y ∈ l, (Lit.int .i64 y).wf = true := by
  obtain ⟨n, g, hq, hn, hg⟩ := conf_one h
  let num : D → Int := fun | .int _ n => n | _ => 0
  have hnum : ∀ i, i < n → g i = .int .i64 (num (g i)) ∧ (Lit.int .i64 (num (g i))).wf = true := fun i hi => by
    obtain ⟨m, e, hw⟩ := conf_int (hg i hi)
    rw [e]
    exact ⟨rfl, hw⟩
  refine ⟨(List.range n).map fun i => num (g i), hq.trans ?_, by simpa using hn, fun y hy => ?_⟩
  · unfold dInts
    rw [show ((List.range n).map fun i => num (g i)).length = n by simp]
    refine .sl 1 n _ _ (fun i hi => rfl) fun i j d d' hi hd hd' => ?_
    match j with
    | 0 =>
      simp only [List.getElem?_cons_zero, Option.some.injEq] at hd hd'
      subst hd hd'
      rw [(hnum i hi).1]
      simp [List.getD_eq_getElem?_getD, hi]
      exact .refl _
    | j + 1 => simp at hd
  · obtain ⟨i, hi, rfl⟩ := List.mem_map.1 hy
    exact (hnum i (List.mem_range.1 hi)).2
theorem conf_rows {b b' : Nat} {x : D} (h : Conf1 (.sl b [.sl b' [.int .i64]]) x) : ∃ to : List (List Int), DQ x (dRows to) ∧ (to.length ≤ maxLen ∧ to.length * b ≤ reachBytes) ∧ ∀ l ∈ to, (l.length ≤ maxLen ∧ l.length * b' ≤ reachBytes) ∧ ∀ y ∈ l, (Lit.int .i64 y).wf = true := by
  obtain ⟨n, g, hq, hn, hg⟩ := conf_one h
  let row : Nat → List Int := fun i => if h : i < n then Classical.choose (conf_ints (hg i h)) else []
  have hrow : ∀ i, i < n → DQ (g i) (dInts (row i)) ∧ ((row i).length ≤ maxLen ∧ (row i).length * b' ≤ reachBytes) ∧ ∀ y ∈ row i, (Lit.int .i64 y).wf = true := fun i hi => by
    have e : row i = Classical.choose (conf_ints (hg i hi)) := by simp only [row, hi, dite_true]
    rw [e]
    exact Classical.choose_spec (conf_ints (hg i hi))
  refine ⟨(List.range n).map row, hq.trans ?_, by simpa using hn, fun l hl => ?_⟩
  · unfold dRows
    rw [show ((List.range n).map row).length = n by simp]
    refine .sl 1 n _ _ (fun i hi => rfl) fun i j d d' hi hd hd' => ?_
    match j with
    | 0 =>
      simp only [List.getElem?_cons_zero, Option.some.injEq] at hd hd'
      subst hd hd'
      simp only [List.getD_eq_getElem?_getD, List.getElem?_map, List.getElem?_range hi, Option.map_some, Option.getD_some]
      exact (hrow i hi).1
    | j + 1 => simp at hd
  · obtain ⟨i, hi, rfl⟩ := List.mem_map.1 hl
    exact (hrow i (List.mem_range.1 hi)).2
end Go.Sx

/-
  Sx, part 30: slices of slices that grow: a row is taken out, a row is put back; rows that are written no more.
-/
set_option linter.unusedVariables false
set_option linter.unusedSimpArgs false
namespace Go.Sx

def kindSl : TK → Bool
  | .slice _ => true
  | _ => false

/-- A row's header is read: the row is taken out as a chunk of its own. -/
def rowLd (g : Cfg) (s : St) (o : Oper) : Option (St × Prop) :=
  match o.guard, o.dst, o.op with
  | none, some d, .load t x => match ev s.L [] x, lk g t with
    | some (.vptr id 1 k 0), some ti => match get s.H id with
      | some (.rows e e' sz n none hs m f) => bif Nat.blt d g.n && kindSl ti.kind then
          some (⟨put s.L d (.own s.m), (s.m, .vec e' sz (m k) (f k)) :: (id, .rows e e' sz n (some k) hs m f) :: delH id s.H, s.m + 1⟩, k < n) else none
      | _ => none
    | _, _ => none
  | _, _, _ => none

/-- A row is put back at its place. -/
def rowSt (g : Cfg) (s : St) (o : Oper) : Option ((Value → St) × Prop) :=
  match o.guard, o.dst, o.op with
  | none, none, .store t p x => match ev s.L [] p, ev s.L [] x, lk g t with
    | some (.vptr id 1 k 0), some (.own id2), some ti => match get s.H id, get s.H id2 with
      | some (.rows e e' sz n (some k0) hs m f), some (.vec e2 sz2 n2 f2) => bif kindSl ti.kind && Nat.beq ti.size 1 && Nat.beq e' e2 && Nat.beq sz sz2 && !(Nat.beq id id2) then
          some (fun v => ⟨mapL (kill id2) s.L, (id, .rows e e' sz n none (fun i => if i = k0 then v else hs i) (fun i => if i = k0 then n2 else m i) fun i => if i = k0 then f2 else f i) :: mapH (kill id2) (delH id (delH id2 s.H)), s.m⟩, k = k0 ∧ k0 < n) else none
      | _, _ => none
    | _, _, _ => none
  | _, _, _ => none

section
variable {C : Ctx} {s : St} {a : Act} {w w' : World} {ρ : Nat → Value} {F : Nat → Prop} {g : Cfg} {K : List Item} {Φ : Exit → St → Prop}

/-- A chunk whose blocks lie among those of the chunks that are no more. -/
theorem SatW.addOld (h : SatW C s a w ρ F) {x : Value} {c : Ch} (hb : ∀ b, bks (upd ρ s.m x) s.m c b → ¬ F b ∧ (C.w0.heap.size ≤ b ∨ C.E b) ∧ ∀ i ci, (i, ci) ∈ s.H → ¬ bks ρ i ci b) (hc : ChOK (upd ρ s.m x) F w s.m c) (hcf : c.all (fresh (s.m + 1)) = true) :
    SatW C { L := s.L, H := (s.m, c) :: s.H, m := s.m + 1 } a w (upd ρ s.m x) F := by
  have hρ : ∀ id, id ≠ s.m → upd ρ s.m x id = ρ id := fun id hid => by simp [upd, hid]
  have h1 : SatW C { L := s.L, H := s.H, m := s.m + 1 } a w (upd ρ s.m x) F := by
    refine h.change (fun u => u) (fun u v hu hr => hr.keep hρ (fun _ => id) (fun _ _ => rfl) (fresh_names (Nat.le_refl _) hu)) (fun t v hv => ⟨⟨v, hv, (map4_id v).symm⟩, all4_imp (fun u hu => fresh_mono (Nat.le_succ _) hu) (h.freshL t v hv)⟩) (fun i c hc => ?_) (fun _ => id) (fun _ _ => rfl) h.lt h.keep (Nat.le_succ _) h.sub (fun i hi => by have := h.fixd.1; rw [hρ i (by omega)]; exact h.fixd.2 i hi)
    obtain ⟨h2, h3⟩ := h.freshH i c hc
    exact ⟨⟨c, hc, (chmap_id c).symm⟩, chall_imp (fun u hu => fresh_mono (Nat.le_succ _) hu) h3, hρ i (by omega), fun b e => ⟨rfl, h.out i c b hc e⟩⟩
  refine h1.addCh hc (fun b e => ?_) (Nat.lt_succ_self _) hcf (fun b e => (hb b e).2.1)
  refine ⟨(hb b e).1, fun i ci hi hne e2 => ?_⟩
  rw [bks_congr (hρ i hne)] at e2
  exact (hb b e).2.2 i ci hi e2

theorem Go.loadRow (hg : TysOK C.P g.tys) (hn : g.n = C.n) {all : Array Oper} {o : Oper} {rest : List Oper} {s' : St} {p : Prop} (hr : rowLd g s o = some (s', p)) (hp : p) (kk : Go C (.ops all rest :: K) s' Φ) : Go C (.ops all (o :: rest) :: K) s Φ := by
  rintro a w ⟨ρ, F, h⟩
  unfold rowLd at hr
  split at hr
  · rename_i d t x hgd hd hop
    split at hr
    · rename_i id k ti hev hlk
      split at hr
      · rename_i e e' sz n hs m f hgH
        cases hb : (Nat.blt d g.n && kindSl ti.kind) with
        | false => rw [hb] at hr; simp at hr
        | true =>
          rw [hb] at hr
          simp only [cond_true, Option.some.injEq, Prod.mk.injEq] at hr
          obtain ⟨rfl, rfl⟩ := hr
          simp only [Bool.and_eq_true] at hb
          obtain ⟨xs, h1, h2, h3, h4⟩ := h.ch id _ (get_mem hgH)
          obtain ⟨bl, hbl, hv⟩ := (show R0 ρ F w (.vptr id 1 k 0) _ from (ev_sound h (pc_nil _) hev).1)
          obtain ⟨hx, ys, h5, h6⟩ := h2 k hp (by simp)
          have hcell : w.cell? ⟨bl, k * 1 + 0, none⟩ = some (hs k) := by
            have := h1.cells (g := bl) (by
              rcases h1.2 with ⟨e1, _⟩ | ⟨b, cap, cur, e1, _⟩
              · rw [e1] at hbl; simp [blk] at hbl
              · rw [e1] at hbl ⊢; simp [blk] at hbl; subst hbl; rfl) k _ hx
            rw [Addr.add_lit] at this
            simpa using this
          have hti := lk_ok hg hlk
          have hagg : isAggK ti.kind = false := by
            have := hb.2
            unfold kindSl at this
            split at this
            · rename_i hk; rw [hk]; rfl
            · cases this
          have hrun : (execOp a.eval o).run C.P w = .ok (.value (hs k)) w := by
            simp only [execOp, hop, hv]
            refine run_v ?_
            simp only [Instr.loadAt, Instr.sureAddr, Sem.run_bind, Sem.run_pure, Result.andThen, loadVar, run_isAgg hti, hagg, Bool.false_eq_true, if_false, run_load, hcell]
          refine ops_next hgd (.inl hrun) ?_
          rw [hd]
          have hmem := get_mem hgH
          have ht := h.touch (c' := .rows e e' sz n (some k) hs m f) hmem (w' := w) ⟨rfl, rfl, rfl, Nat.le_refl _, fun _ _ _ => rfl⟩ ⟨xs, h1, fun i hi hh => h2 i hi (by simp), fun i b hi hh => h3 i b hi (by simp), fun i j b hi hj hhi hhj => h4 i j b hi hj (by simp) (by simp)⟩ rfl
            (fun b e => by
              rcases e with e | ⟨i, hi, hh, e⟩
              · exact .inl e
              · exact .inr ⟨i, hi, by simp, e⟩)
          have hin : ∀ b, blk (hs k) = some b → bks ρ id (.rows e e' sz n none hs m f) b := fun b e => .inr ⟨k, hp, by simp, e⟩
          have ha := ht.addOld (x := hs k) (c := .vec e' sz (m k) (f k)) (fun b e => ?_) ⟨ys, by rw [upd_same]; exact h5, h6⟩ rfl
          · refine kk _ _ ⟨_, _, (ha.put (d := d) (v := .own s.m) (x := hs k) (by rw [← hn]; simpa using hb.1) ⟨(upd_same ρ s.m _).symm, ?_⟩ (by show Nat.blt s.m (s.m + 1) = true; simp))⟩
            rw [upd_same]
            rcases h5.2 with ⟨e1, _⟩ | ⟨b, cap, cur, e1, _⟩
            · exact .inl ⟨_, _, _, e1⟩
            · exact .inl ⟨_, _, _, e1⟩
          · have eb : blk (hs k) = some b := by
              have e0 : blk (upd ρ s.m (hs k) s.m) = some b := e
              rwa [upd_same] at e0
            refine ⟨h.out id _ b hmem (hin b eb), h.mine id _ b hmem (hin b eb), fun i ci hi e2 => ?_⟩
            rcases List.mem_cons.1 hi with e3 | hi
            · obtain ⟨rfl, rfl⟩ := Prod.mk.inj e3
              rcases e2 with e2 | ⟨j, hj, hh, e2⟩
              · exact h3 k b hp (by simp) eb e2
              · exact h4 k j b hp hj (by simp) (by simp) (fun e5 => hh (by rw [e5])) eb e2
            · obtain ⟨hi, hne⟩ := mem_delH hi
              exact h.sep id i _ ci b hmem hi (Ne.symm hne) (hin b eb) e2
      · simp at hr
    · simp at hr
  · simp at hr

theorem Go.storeRow (hg : TysOK C.P g.tys) {all : Array Oper} {o : Oper} {rest : List Oper} {fs : Value → St} {p : Prop} (hr : rowSt g s o = some (fs, p)) (hp : p) (kk : ∀ v, Go C (.ops all rest :: K) (fs v) Φ) : Go C (.ops all (o :: rest) :: K) s Φ := by
  rintro a w ⟨ρ, F, h⟩
  unfold rowSt at hr
  split at hr
  · rename_i t pp xx hgd hd hop
    split at hr
    · rename_i id k id2 ti hev hev2 hlk
      split at hr
      · rename_i e e' sz n k0 hs m f e2 sz2 n2 f2 hgH hgH2
        cases hb : (kindSl ti.kind && Nat.beq ti.size 1 && Nat.beq e' e2 && Nat.beq sz sz2 && !(Nat.beq id id2)) with
        | false => rw [hb] at hr; simp at hr
        | true =>
          rw [hb] at hr
          simp only [cond_true, Option.some.injEq, Prod.mk.injEq] at hr
          obtain ⟨rfl, rfl⟩ := hr
          obtain ⟨rfl, hkn⟩ := hp
          simp only [Bool.and_eq_true, Bool.not_eq_true'] at hb
          obtain ⟨⟨⟨⟨b1, b2⟩, b3⟩, b4⟩, b5⟩ := hb
          have b2 := Nat.eq_of_beq_eq_true b2
          have b3 := Nat.eq_of_beq_eq_true b3
          have b4 := Nat.eq_of_beq_eq_true b4
          subst b3 b4
          have hne : id ≠ id2 := fun e => by rw [e] at b5; simp at b5
          have hm1 := get_mem hgH
          have hm2 := get_mem hgH2
          obtain ⟨xs, h1, h2, h3, h4⟩ := h.ch id _ hm1
          obtain ⟨ys, o1, o2⟩ := h.ch id2 _ hm2
          obtain ⟨bl, hbl, hv⟩ := (show R0 ρ F w (.vptr id 1 k 0) _ from (ev_sound h (pc_nil _) hev).1)
          obtain ⟨hx1, _⟩ := (show R0 ρ F w (.own id2) _ from (ev_sound h (pc_nil _) hev2).1)
          obtain ⟨ad, sl, sc, hx2⟩ : ∃ ad sl sc, ρ id2 = .slice ad sl sc := by rcases o1.2 with ⟨e1, _⟩ | ⟨b, cap, cur, e1, _⟩ <;> exact ⟨_, _, _, e1⟩
          have hti := lk_ok hg hlk
          have hcells : (ρ id2).cells = #[ρ id2] := by rw [hx2]; rfl
          rcases h1.2 with ⟨i1, i2⟩ | ⟨b', cap, cur, i1, i2, hheap, hnc, hcm, hcs, htk⟩
          · rw [i1] at hbl; simp [blk] at hbl
          have hbb : b' = bl := by rw [i1] at hbl; simpa [blk] using hbl
          subst hbb
          have hheap' : w.heap[b']? = some (.cells cur.toList.toArray e (0, 0)) := by simpa using hheap
          have hcl : cur.toList.length = cur.size := Array.length_toList
          have hxl := h1.1
          have hrun := store_run (P := C.P) hti (x := ρ id2) (cs := cur.toList) (o := k) (by rw [hcells, b2]; rfl) (by rw [hcells]; intro c hc; simp at hc; rw [hc, hx2]; rfl) hheap' (by rw [b2]; omega)
          rw [hcells] at hrun
          generalize hw' : w.setRow b' _ = w' at hrun
          have hw2 : w' = w.setRow b' (cur.toList.take k ++ [ρ id2] ++ cur.toList.drop (k + 1)).toArray := hw'.symm
          have hblt : b' < w.heap.size := (Array.getElem?_eq_some_iff.1 hheap).1
          have hm : Mod (some b') w w' := by rw [hw2]; exact mod_setRow hblt
          have hheap2 : w'.heap[b']? = some (.cells (cur.toList.take k ++ [ρ id2] ++ cur.toList.drop (k + 1)).toArray e (0, 0)) := by
            rw [hw2]
            exact setRow_heap w b' _ _ e (0, 0) hheap
          have hwF : ∀ k, F k → w'.heap[k]? = w.heap[k]? := fun k hk => hm.block k (h.lt k hk) (fun e => h.out id _ k hm1 (.inl (by rw [i1, ← Option.some.inj e]; rfl)) hk)
          have hsame : ∀ j c b, (j, c) ∈ s.H → j ≠ id → bks ρ j c b → w'.heap[b]? = w.heap[b]? := fun j c b hj hje e =>
            hm.block b ((h.ch j c hj).lt e) (fun e2 => h.sep id j _ c b hm1 hj (Ne.symm hje) (.inl (by rw [i1, ← Option.some.inj e2]; rfl)) e)
          have hrun2 : (execOp a.eval o).run C.P w = .ok .skip w' := by
            simp only [execOp, hop, hv, hx1, Sem.run_bind]
            rw [show (⟨b', k * 1 + 0, none⟩ : Addr) = ⟨b', k, none⟩ by simp]
            rw [hrun]
            rfl
          refine ops_next (x := undef) hgd (.inr ⟨hrun2, rfl⟩) ?_
          rw [hd]
          have hA : SatW C { L := mapL (kill id2) s.L, H := mapH (kill id2) (delH id (delH id2 s.H)), m := s.m } a w' ρ F := by
            refine h.change (kill id2) (fun u v hu hr => hr.kill (fun _ _ => rfl) (fun _ => _root_.id) hwF) (fun t v hv => ?_) (fun i ci hci => ?_) (fun _ => _root_.id) hwF (fun k hk => Nat.lt_of_lt_of_le (h.lt k hk) hm.size) (h.keeps (by rw [i1]; exact hm) (fun b e => h.mine id _ b hm1 (.inl e))) (Nat.le_refl _) h.sub (fun i hi => h.fixd.2 i hi)
            · obtain ⟨v0, h2, rfl⟩ := mem_mapL hv
              exact ⟨⟨v0, h2, rfl⟩, kill4_fresh (h.freshL t v0 h2)⟩
            · obtain ⟨c0, h2, rfl⟩ := mem_mapH hci
              obtain ⟨h2, hne1⟩ := mem_delH h2
              obtain ⟨h2, hne2⟩ := mem_delH h2
              exact ⟨⟨c0, h2, rfl⟩, killC_fresh (h.freshH i c0 h2).2, rfl, fun b e => by rw [bks_map] at e; exact ⟨hsame i c0 b h2 hne1 e, h.out i c0 b h2 e⟩⟩
          have hown2 : ∀ b, blk (ρ id2) = some b → bks ρ id2 (.vec e' sz n2 f2) b := fun b e => e
          have hrow : ∀ j b, j < n → j ≠ k → blk (hs j) = some b → bks ρ id (.rows e e' sz n (some k) hs m f) b := fun j b hj hjk e => .inr ⟨j, hj, fun e2 => hjk (Option.some.inj e2).symm, e⟩
          have hsp : ∀ j b, j < n → j ≠ k → blk (hs j) = some b → blk (ρ id2) ≠ some b := fun j b hj hjk e e2 =>
            h.sep id id2 _ _ b hm1 hm2 hne (hrow j b hj hjk e) (hown2 b e2)
          refine kk (ρ id2) _ w' ⟨ρ, F, hA.addCh (c := .rows e e' sz n none (fun i => if i = k then ρ id2 else hs i) (fun i => if i = k then n2 else m i) fun i => if i = k then f2 else f i) ?_ ?_ (h.freshH id _ hm1).1 rfl ?_⟩
          · refine ⟨xs.take k ++ [ρ id2] ++ xs.drop (k + 1), ⟨?_, .inr ⟨b', cap, _, i1, i2, hheap2, hnc, hcm, ?_, ?_⟩⟩, fun i hi _ => ?_, fun i b hi _ e => ?_, fun i j b hi hj _ _ hij e => ?_⟩
            · have := splice_len (xs := xs) (ys := [ρ id2]) (o := k) (by rw [hxl]; simp; omega)
              simp only [List.length_singleton] at this
              rw [this, hxl]
            · have := splice_len (xs := cur.toList) (ys := [ρ id2]) (o := k) (by simp; omega)
              simp only [List.length_singleton] at this
              rw [List.size_toArray, this, hcl]; exact hcs
            · have := splice_take (xs := cur.toList) (ys := [ρ id2]) (o := k) (N := n * 1) (by simp; omega) (by omega)
              simp only [List.length_singleton] at this
              rw [List.toList_toArray, this, htk]
            · have hget := splice_get (xs := xs) (ys := [ρ id2]) (o := k) (by rw [hxl]; simp; omega) i
              simp only [List.length_singleton] at hget
              by_cases hik : i = k
              · subst hik
                simp only [if_true]
                refine ⟨?_, ys, ownsRow_keep o1 (fun b e => hsame id2 _ b hm2 (Ne.symm hne) (hown2 b e)), o2.keep (fun _ => _root_.id) hwF⟩
                rw [hget, if_pos ⟨Nat.le_refl _, Nat.lt_succ_self _⟩]; simp
              · simp only [if_neg hik]
                obtain ⟨j1, zs, j2, j3⟩ := h2 i hi (fun e2 => hik (Option.some.inj e2).symm)
                refine ⟨by rw [hget, if_neg (by omega)]; exact j1, zs, ownsRow_keep j2 (fun b e => hm.block b (by
                  rcases j2.2 with ⟨e2, _⟩ | ⟨_, _, _, e2, _, e3, _⟩
                  · rw [e2] at e; simp [blk] at e
                  · rw [e2] at e; simp [blk] at e; subst e; exact (Array.getElem?_eq_some_iff.1 e3).1) (fun e2 => h3 i b hi (fun e3 => hik (Option.some.inj e3).symm) e (by rw [i1, ← Option.some.inj e2]; rfl))), j3.keep (fun _ => _root_.id) hwF⟩
            · by_cases hik : i = k
              · simp only [if_pos hik] at e
                exact fun e2 => h.sep id id2 _ _ b hm1 hm2 hne (.inl e2) (hown2 b e)
              · simp only [if_neg hik] at e
                exact h3 i b hi (fun e3 => hik (Option.some.inj e3).symm) e
            · by_cases hik : i = k
              · simp only [if_pos hik] at e
                have hjk : j ≠ k := fun e2 => hij (hik.trans e2.symm)
                simp only [if_neg hjk]
                exact fun e2 => hsp j b hj hjk e2 e
              · simp only [if_neg hik] at e
                by_cases hjk : j = k
                · simp only [if_pos hjk]
                  exact hsp i b hi hik e
                · simp only [if_neg hjk]
                  exact h4 i j b hi hj (fun e3 => hik (Option.some.inj e3).symm) (fun e3 => hjk (Option.some.inj e3).symm) hij e
          · rintro b (e | ⟨j, hj, _, e⟩)
            · refine ⟨h.out id _ b hm1 (.inl e), fun i ci hi hne3 e2 => ?_⟩
              obtain ⟨c0, h2', rfl⟩ := mem_mapH hi
              rw [bks_map] at e2
              exact h.sep id i _ c0 b hm1 (mem_delH (mem_delH h2').1).1 (Ne.symm hne3) (.inl e) e2
            · by_cases hjk : j = k
              · simp only [if_pos hjk] at e
                refine ⟨h.out id2 _ b hm2 (hown2 b e), fun i ci hi hne3 e2 => ?_⟩
                obtain ⟨c0, h2', rfl⟩ := mem_mapH hi
                rw [bks_map] at e2
                have hd2 := mem_delH (mem_delH h2').1
                exact h.sep id2 i _ c0 b hm2 hd2.1 (Ne.symm hd2.2) (hown2 b e) e2
              · simp only [if_neg hjk] at e
                refine ⟨h.out id _ b hm1 (hrow j b hj hjk e), fun i ci hi hne3 e2 => ?_⟩
                obtain ⟨c0, h2', rfl⟩ := mem_mapH hi
                rw [bks_map] at e2
                exact h.sep id i _ c0 b hm1 (mem_delH (mem_delH h2').1).1 (Ne.symm hne3) (hrow j b hj hjk e) e2
          · rintro b (e | ⟨j, hj, _, e⟩)
            · exact h.mine id _ b hm1 (.inl e)
            · by_cases hjk : j = k
              · simp only [if_pos hjk] at e
                exact h.mine id2 _ b hm2 (hown2 b e)
              · simp only [if_neg hjk] at e
                exact h.mine id _ b hm1 (hrow j b hj hjk e)
      · simp at hr
    · simp at hr
  · simp at hr

theorem sl_of_own {F' : Nat → Prop} {e : TypeId} {sz n : Nat} {f : Nat → List D} {v : Value} {xs : List Value} (hown : w.ownsRow 0 e sz v n xs) (hel : Elems F w sz n f xs) (hFF : ∀ k, F k → F' k) (hb : ∀ b, blk v = some b → F' b) : RD F' w (.sl sz n f) v := by
  rcases hown.2 with ⟨h1, h2⟩ | ⟨b, cap, cur, h1, _, h3, h4, h5, h6, h7⟩
  · subst h2; rw [h1]; exact .emp _ _ _ _
  · rw [h1]
    refine .sl sz n f b 0 cap (fun i j => (xs[i * sz + j]?).getD undef) (hb b (by rw [h1]; rfl)) h4 (fun i j hi hj => ?_) (fun i hi => (hel i hi).1) (fun i j d hi hd => ?_)
    · have hl := (hel i hi).1
      obtain ⟨c, c1, c2⟩ := (hel i hi).2 j _ (List.getElem?_eq_getElem (show j < (f i).length by omega))
      have := hown.cells (g := b) (by rw [h1]; rfl) _ _ c1
      rw [Addr.add_lit] at this
      rw [this, c1]; rfl
    · obtain ⟨c, c1, c2⟩ := (hel i hi).2 j d hd
      rw [c1]
      exact RD.mono hFF (fun _ _ => rfl) c2

/-- Rows that are written no more: a slice of data. -/
def closed (s : St) (id : Nat) : St :=
  match get s.H id with
  | some (.rows e e' sz n none hs m f) => ⟨s.L, (id, .vec e 1 n fun i => [.sl sz (m i) (f i)]) :: delH id s.H, s.m⟩
  | _ => s

theorem Go.close (id : Nat) (k : Go C K (closed s id) Φ) : Go C K s Φ := by
  rintro a w ⟨ρ, F, h⟩
  refine k a w ?_
  unfold closed
  split
  · rename_i e e' sz n hs m f hgH
    have hm1 := get_mem hgH
    obtain ⟨xs, h1, h2, h3, h4⟩ := h.ch id _ hm1
    let F' : Nat → Prop := fun b => F b ∨ ∃ k, k < n ∧ blk (hs k) = some b
    have hFF : ∀ k, F k → F' k := fun k hk => .inl hk
    have hin : ∀ k b, k < n → blk (hs k) = some b → bks ρ id (.rows e e' sz n none hs m f) b := fun k b hk e => .inr ⟨k, hk, by simp, e⟩
    have hA : SatW C { L := s.L, H := delH id s.H, m := s.m } a w ρ F' := by
      refine h.change (fun u => u) (fun u v hu hr => hr.keep (x := s.m) (fun _ _ => rfl) hFF (fun _ _ => rfl) (fresh_names (Nat.le_refl _) hu)) (fun t v hv => ⟨⟨v, hv, (map4_id v).symm⟩, h.freshL t v hv⟩) (fun i ci hci => ?_) hFF (fun _ _ => rfl) (fun b hb => ?_) h.keep (Nat.le_refl _) (fun b hb => ?_) h.fixd.2
      · obtain ⟨hci, hne⟩ := mem_delH hci
        refine ⟨⟨ci, hci, (chmap_id ci).symm⟩, (h.freshH i ci hci).2, rfl, fun b e => ⟨rfl, ?_⟩⟩
        rintro (hb | ⟨k, hk, hb⟩)
        · exact h.out i ci b hci e hb
        · exact h.sep i id ci _ b hci hm1 hne e (hin k b hk hb)
      · rcases hb with hb | ⟨k, hk, hb⟩
        · exact h.lt b hb
        · exact (h.ch id _ hm1).lt (hin k b hk hb)
      · rcases hb with hb | ⟨k, hk, hb⟩
        · exact h.sub b hb
        · exact .inr (h.mine id _ b hm1 (hin k b hk hb))
    refine ⟨ρ, F', hA.addCh (c := .vec e 1 n fun i => [.sl sz (m i) (f i)]) ⟨xs, h1, fun k hk => ⟨rfl, fun j d hj => ?_⟩⟩ (fun b e => ⟨?_, fun i ci hci hne e2 => ?_⟩) (h.freshH id _ hm1).1 rfl (fun b e => h.mine id _ b hm1 (.inl e))⟩
    · obtain ⟨h5, ys, h6, h7⟩ := h2 k hk (by simp)
      cases j with
      | zero =>
        simp at hj
        subst hj
        exact ⟨hs k, by rw [← h5]; congr 1; omega, sl_of_own h6 h7 hFF fun b hb => .inr ⟨k, hk, hb⟩⟩
      | succ j => simp at hj
    · rintro (hb | ⟨k, hk, hb⟩)
      · exact h.out id _ b hm1 (.inl e) hb
      · exact h3 k b hk (by simp) hb e
    · exact h.sep id i _ ci b hm1 (mem_delH hci).1 (Ne.symm hne) (.inl e) e2
  · exact ⟨ρ, F, h⟩

/-- A nil slice in a box is an owned one of no elements. -/
theorem Go.ownBox (id o : Nat) (e : TypeId) (sz : Nat) (f : Nat → List D) {us us' : List V} (hb : get s.H id = some (.box us)) (ho : us[o]? = some .nils) (hs : setL us o [.own s.m] = some us') (k : Go C K ⟨s.L, (id, .box us') :: delH id ((s.m, .vec e sz 0 f) :: s.H), s.m + 1⟩ Φ) : Go C K s Φ := by
  rintro a w ⟨ρ, F, h⟩
  have hm1 := get_mem hb
  have hlt := (h.freshH id _ hm1).1
  have hn := h.new (w' := w) (x := .slice none 0 0) (c := .vec e sz 0 f) ⟨rfl, rfl, rfl, Nat.le_refl _, fun _ _ _ => rfl⟩ (fun b hb => by simp [blk] at hb) ⟨[], ⟨by simp, .inl ⟨upd_same _ _ _, rfl⟩⟩, fun i hi => absurd hi (Nat.not_lt_zero _)⟩ rfl
  have hm2 : (id, Ch.box us) ∈ ((s.m, Ch.vec e sz 0 f) :: s.H) := List.mem_cons_of_mem _ hm1
  obtain ⟨b, ys, T, hb', hheap, hus⟩ := hn.ch id _ hm2
  obtain ⟨y, hy, hr⟩ := hus.get ho
  obtain rfl : y = .slice none 0 0 := hr
  have hty := setL_all2 (R := R1 (upd ρ s.m (.slice none 0 0)) F w) hs hus (ys := [.slice none 0 0]) ⟨⟨(upd_same _ _ _).symm, by rw [upd_same]; exact .inl ⟨_, _, _, rfl⟩⟩, trivial⟩
  have hyl : o < ys.length := (List.getElem?_eq_some_iff.1 hy).1
  have heq : ys.take o ++ [.slice none 0 0] ++ ys.drop (o + [Value.slice none 0 0].length) = ys := by
    apply List.ext_getElem?
    intro j
    rw [splice_get (by simp; omega)]
    split
    · rename_i hj
      simp only [List.length_singleton] at hj
      obtain rfl : j = o := by omega
      rw [hy]; simp
    · rfl
  rw [heq] at hty
  have := hn.touch (c' := .box us') hm2 (w' := w) ⟨rfl, rfl, rfl, Nat.le_refl _, fun _ _ _ => rfl⟩ ⟨b, ys, T, hb', hheap, hty⟩ (all_setL hs (by simpa [Ch.all] using (hn.freshH id _ hm2).2) (by simp [V.all1, fresh]))
  exact k a w ⟨_, _, this⟩
end

namespace Cx
variable {P : Pg} {g : Cfg} {C : Ctx} (x : Cx P g C) {s s' s1 : St} {K K' : List Item} {Φ : Exit → St → Prop} {ob : List Prop}
include x
theorem loadRow {all : Array Oper} {o : Oper} {rest : List Oper} {p : Prop} (h : run g 1000 K s [] = .op ob all o rest K' s1) (ho : AllP ob) (hr : rowLd g s1 o = some (s', p)) (hp : p) (k : Go C (.ops all rest :: K') s' Φ) : Go C K s Φ :=
  x.op h ho (Go.loadRow x.ty x.n hr hp k)
theorem storeRow {all : Array Oper} {o : Oper} {rest : List Oper} {p : Prop} {fs : Value → St} (h : run g 1000 K s [] = .op ob all o rest K' s1) (ho : AllP ob) (hr : rowSt g s1 o = some (fs, p)) (hp : p) (k : ∀ v, Go C (.ops all rest :: K') (fs v) Φ) : Go C K s Φ :=
  x.op h ho (Go.storeRow x.ty hr hp k)
end Cx
end Go.Sx

/-
  Sx, part 31: data that read alike stand for one another.
-/
set_option linter.unusedVariables false
set_option linter.unusedSimpArgs false
namespace Go.Sx
theorem veq0_d {d d' : D} (h : d = d') : VEq0 (.d d) (.d d') := by subst h; exact DEq.rfl' d

theorem act_put_same {a : Act} {t : Nat} {x : Value} (hx : a.tmps[t]? = some x) : a.put (some t) x = a := by
  cases a with
  | mk tmps defers =>
    simp only [Act.put, Act.mk.injEq, and_true]
    apply Array.ext
    · simp
    · intro i h1 h2
      by_cases hi : t = i
      · subst hi
        have := (Array.getElem?_eq_some_iff.1 hx).2
        simp [this]
      · rw [Array.getElem_setIfInBounds_ne _ hi]

/-- A slot's data, read as other data that read alike. -/
theorem Go.setD {C : Ctx} {s : St} {K : List Item} {Φ : Exit → St → Prop} (t : Nat) {d d' : D} (h : get s.L t = some (.d d)) (hq : DQ d d') (k : Go C K { s with L := put s.L t (.d d') } Φ) : Go C K s Φ := by
  rintro a w ⟨ρ, F, hs⟩
  obtain ⟨x, hx, hr⟩ := hs.slot t _ (get_mem h)
  have hlt : t < a.tmps.size := (Array.getElem?_eq_some_iff.1 hx).1
  have := hs.put (d := t) (v := .d d') (x := x) (by rw [← hs.size]; exact hlt) (hq.sound hr) rfl
  rw [act_put_same hx] at this
  exact k a w ⟨ρ, F, this⟩

/-- A slot with no slice, as data of none. -/
theorem Go.setNil {C : Ctx} {s : St} {K : List Item} {Φ : Exit → St → Prop} (t : Nat) (sz : Nat) (f : Nat → List D) (h : get s.L t = some .nils) (k : Go C K { s with L := put s.L t (.d (.sl sz 0 f)) } Φ) : Go C K s Φ := by
  rintro a w ⟨ρ, F, hs⟩
  obtain ⟨x, hx, hr⟩ := hs.slot t _ (get_mem h)
  obtain rfl : x = .slice none 0 0 := hr
  have hlt : t < a.tmps.size := (Array.getElem?_eq_some_iff.1 hx).1
  have := hs.put (d := t) (v := .d (.sl sz 0 f)) (x := .slice none 0 0) (by rw [← hs.size]; exact hlt) (.emp _ _ _ _) rfl
  rw [act_put_same hx] at this
  exact k a w ⟨ρ, F, this⟩
end Go.Sx

/-
  Sx, part 32: instructions, blocks, bodies: as data.
-/
set_option linter.unusedVariables false
set_option linter.unusedSimpArgs false
namespace Go.Sx

theorem conf_bool {x : D} (h : Conf1 .bool x) : ∃ b, x = .bool b := by
  cases h with
  | bool b => exact ⟨b, rfl⟩
theorem conf_str {x : D} (h : Conf1 .str x) : ∃ s, x = .str s ∧ s.size ≤ maxLen ∧ s.size ≤ reachBytes := by
  cases h with
  | str s h1 h2 => exact ⟨s, rfl, h1, h2⟩

/-- An instruction: kind, sort, where to, what of, what else, arguments, an array, a number, a place. -/
structure OpV where
  k : Int
  s : Int
  a : Int
  b : Int
  c : Int
  l : List Int
  m : List Int
  v : Int
  e : Int
instance : Inhabited OpV := ⟨⟨0, 0, 0, 0, 0, [], [], 0, 0⟩⟩
def dOp (o : OpV) : List D := [.int .u8 o.k, .int .u8 o.s, .int .i64 o.a, .int .i64 o.b, .int .i64 o.c, dInts o.l, dInts o.m, .int .i64 o.v, .int .i64 o.e]
def dOps (l : List OpV) : D := .sl 9 l.length fun j => dOp (l.getD j default)
def dBlocks (bs : List (List OpV)) : D := .sl 1 bs.length fun i => [dOps (bs.getD i [])]
def opTy (b b' : Nat) : List DTy := [.int .u8, .int .u8, .int .i64, .int .i64, .int .i64, .sl b [.int .i64], .sl b' [.int .i64], .int .i64, .int .i64]
/-- An instruction whose numbers fit. -/
structure OpV.Fits (o : OpV) : Prop where
  k : (Lit.int .u8 o.k).wf = true
  s : (Lit.int .u8 o.s).wf = true
  a : (Lit.int .i64 o.a).wf = true
  b : (Lit.int .i64 o.b).wf = true
  c : (Lit.int .i64 o.c).wf = true
  v : (Lit.int .i64 o.v).wf = true
  e : (Lit.int .i64 o.e).wf = true
  l : o.l.length ≤ maxLen ∧ ∀ y ∈ o.l, (Lit.int .i64 y).wf = true
  m : o.m.length ≤ maxLen ∧ ∀ y ∈ o.m, (Lit.int .i64 y).wf = true

theorem conf_op {b b' : Nat} {ds : List D} (h : Conf (opTy b b') ds) : ∃ o : OpV, o.Fits ∧ ds.length = 9 ∧ ∀ (j : Nat) (d d' : D), ds[j]? = some d → (dOp o)[j]? = some d' → DQ d d' := by
  obtain ⟨hl, hc⟩ := h
  match ds, hl with
  | [d0, d1, d2, d3, d4, d5, d6, d7, d8], _ =>
    obtain ⟨n0, rfl, w0⟩ := conf_int (hc 0 _ _ rfl rfl)
    obtain ⟨n1, rfl, w1⟩ := conf_int (hc 1 _ _ rfl rfl)
    obtain ⟨n2, rfl, w2⟩ := conf_int (hc 2 _ _ rfl rfl)
    obtain ⟨n3, rfl, w3⟩ := conf_int (hc 3 _ _ rfl rfl)
    obtain ⟨n4, rfl, w4⟩ := conf_int (hc 4 _ _ rfl rfl)
    obtain ⟨l5, q5, w5, z5⟩ := conf_ints (hc 5 _ _ rfl rfl)
    obtain ⟨l6, q6, w6, z6⟩ := conf_ints (hc 6 _ _ rfl rfl)
    obtain ⟨n7, rfl, w7⟩ := conf_int (hc 7 _ _ rfl rfl)
    obtain ⟨n8, rfl, w8⟩ := conf_int (hc 8 _ _ rfl rfl)
    refine ⟨⟨n0, n1, n2, n3, n4, l5, l6, n7, n8⟩, ⟨w0, w1, w2, w3, w4, w7, w8, ⟨w5.1, z5⟩, ⟨w6.1, z6⟩⟩, rfl, fun j d d' hd hd' => ?_⟩
    match j with
    | 0 => simp [dOp] at hd hd'; subst hd hd'; exact .refl _
    | 1 => simp [dOp] at hd hd'; subst hd hd'; exact .refl _
    | 2 => simp [dOp] at hd hd'; subst hd hd'; exact .refl _
    | 3 => simp [dOp] at hd hd'; subst hd hd'; exact .refl _
    | 4 => simp [dOp] at hd hd'; subst hd hd'; exact .refl _
    | 5 => simp [dOp] at hd hd'; subst hd hd'; exact q5
    | 6 => simp [dOp] at hd hd'; subst hd hd'; exact q6
    | 7 => simp [dOp] at hd hd'; subst hd hd'; exact .refl _
    | 8 => simp [dOp] at hd hd'; subst hd hd'; exact .refl _
    | j + 9 => simp at hd

theorem getD_map_range {α : Type} {n i : Nat} (f : Nat → α) (d : α) (h : i < n) : ((List.range n).map f).getD i d = f i := by
  rw [List.getD_eq_getElem?_getD, List.getElem?_map, List.getElem?_range h]; rfl

theorem conf_ops {z b b' : Nat} {x : D} (h : Conf1 (.sl z (opTy b b')) x) : ∃ l : List OpV, DQ x (dOps l) ∧ (l.length ≤ maxLen ∧ l.length * z ≤ reachBytes) ∧ ∀ o ∈ l, o.Fits := by
  cases h with
  | sl _ _ n f hn hz hl hc =>
    have each : ∀ i, i < n → ∃ o : OpV, o.Fits ∧ (f i).length = 9 ∧ ∀ (j : Nat) (d d' : D), (f i)[j]? = some d → (dOp o)[j]? = some d' → DQ d d' := fun i hi =>
      conf_op ⟨hl i hi, fun j t d ht hd => hc i j t d hi ht hd⟩
    let g : Nat → OpV := fun i => if h : i < n then Classical.choose (each i h) else default
    have hg : ∀ i, i < n → (g i).Fits ∧ (f i).length = 9 ∧ ∀ (j : Nat) (d d' : D), (f i)[j]? = some d → (dOp (g i))[j]? = some d' → DQ d d' := fun i hi => by
      have e : g i = Classical.choose (each i hi) := by simp only [g, hi, dite_true]
      rw [e]
      exact Classical.choose_spec (each i hi)
    refine ⟨(List.range n).map g, ?_, by simpa using ⟨hn, hz⟩, fun o ho => ?_⟩
    · unfold dOps
      rw [show ((List.range n).map g).length = n by simp]
      refine .sl 9 n _ _ (fun i hi => (hg i hi).2.1) fun i j d d' hi hd hd' => ?_
      rw [getD_map_range g default hi] at hd'
      exact (hg i hi).2.2 j d d' hd hd'
    · obtain ⟨i, hi, rfl⟩ := List.mem_map.1 ho
      exact (hg i (List.mem_range.1 hi)).1

theorem conf_blocks {y z b b' : Nat} {x : D} (h : Conf1 (.sl y [.sl z (opTy b b')]) x) : ∃ bs : List (List OpV), DQ x (dBlocks bs) ∧ (bs.length ≤ maxLen ∧ bs.length * y ≤ reachBytes) ∧ ∀ l ∈ bs, (l.length ≤ maxLen ∧ l.length * z ≤ reachBytes) ∧ ∀ o ∈ l, o.Fits := by
  obtain ⟨n, g, hq, hn, hg⟩ := conf_one h
  let row : Nat → List OpV := fun i => if h : i < n then Classical.choose (conf_ops (hg i h)) else []
  have hrow : ∀ i, i < n → DQ (g i) (dOps (row i)) ∧ ((row i).length ≤ maxLen ∧ (row i).length * z ≤ reachBytes) ∧ ∀ o ∈ row i, o.Fits := fun i hi => by
    have e : row i = Classical.choose (conf_ops (hg i hi)) := by simp only [row, hi, dite_true]
    rw [e]
    exact Classical.choose_spec (conf_ops (hg i hi))
  refine ⟨(List.range n).map row, hq.trans ?_, by simpa using hn, fun l hl => ?_⟩
  · unfold dBlocks
    rw [show ((List.range n).map row).length = n by simp]
    refine .sl 1 n _ _ (fun i hi => rfl) fun i j d d' hi hd hd' => ?_
    match j with
    | 0 =>
      simp only [List.getElem?_cons_zero, Option.some.injEq] at hd hd'
      subst hd hd'
      rw [getD_map_range row [] hi]
      exact (hrow i hi).1
    | j + 1 => simp at hd
  · obtain ⟨i, hi, rfl⟩ := List.mem_map.1 hl
    exact (hrow i (List.mem_range.1 hi)).2

/-- A body: two numbers, and its blocks. -/
theorem conf_body {F : Nat → Prop} {w : World} {ρ : Nat → Value} {y z b b' : Nat} {ds : List D} {cs : List Value} (h : Conf [.int .i64, .int .i64, .sl y [.sl z (opTy b b')]] ds) (hr : All2 (RD F w) ds cs) :
    ∃ (p q : Int) (bs : List (List OpV)), ((Lit.int .i64 p).wf = true ∧ (Lit.int .i64 q).wf = true ∧ (bs.length ≤ maxLen ∧ bs.length * y ≤ reachBytes) ∧ ∀ l ∈ bs, (l.length ≤ maxLen ∧ l.length * z ≤ reachBytes) ∧ ∀ o ∈ l, o.Fits) ∧
      R3 ρ F w (.agg [vi p, vi q, .d (dBlocks bs)]) (.agg cs.toArray) := by
  obtain ⟨hl, hc⟩ := h
  match ds, hl, cs, hr with
  | [d0, d1, d2], _, [c0, c1, c2], ⟨r0, r1, r2, _⟩ =>
    obtain ⟨p, rfl, w0⟩ := conf_int (hc 0 _ _ rfl rfl)
    obtain ⟨q, rfl, w1⟩ := conf_int (hc 1 _ _ rfl rfl)
    obtain ⟨bs, hq, w2, w3⟩ := conf_blocks (hc 2 _ _ rfl rfl)
    exact ⟨p, q, bs, ⟨w0, w1, w2, w3⟩, ⟨_, rfl, r0, r1, hq.sound r2, trivial⟩⟩

theorem dq_ints {n : Nat} {f : Nat → List D} (l : List Int) (hn : n = l.length) (h : ∀ i, i < n → f i = [.int .i64 (l.getD i 0)]) : DQ (.sl 1 n f) (dInts l) := by
  subst hn
  refine .sl 1 _ _ _ (fun i hi => congrArg List.length (h i hi)) fun i j d d' hi hd hd' => ?_
  rw [h i hi] at hd
  rw [Option.some.inj (hd.symm.trans hd')]
  exact .refl _

theorem dq_rows {n : Nat} {f : Nat → List D} (to : List (List Int)) (hn : n = to.length) (h : ∀ i, i < n → ∃ d, f i = [d] ∧ DQ d (dInts (to.getD i []))) : DQ (.sl 1 n f) (dRows to) := by
  subst hn
  refine .sl 1 _ _ _ (fun i hi => ?_) fun i j d d' hi hd hd' => ?_
  · obtain ⟨d, e, _⟩ := h i hi
    rw [e]; rfl
  · obtain ⟨d0, e, hq⟩ := h i hi
    rw [e] at hd
    match j with
    | 0 =>
      obtain rfl : d0 = d := Option.some.inj hd
      obtain rfl := Option.some.inj hd'
      exact hq
    | j + 1 => simp at hd

end Go.Sx

/-
  Sx, part 33: scopes in which the run jumps back to a label.
-/
set_option linter.unusedVariables false
set_option linter.unusedSimpArgs false
namespace Go.Sx

/-- The least measure of what stands for a state. -/
theorem least_of {p : Nat → Prop} (h : ∃ n, p n) : ∃ n, p n ∧ ∀ m, p m → n ≤ m := by
  obtain ⟨n, hn⟩ := h
  induction n using Nat.strongRecOn with
  | _ n ih =>
    by_cases hx : ∃ m, m < n ∧ p m
    · obtain ⟨m, h1, h2⟩ := hx
      exact ih m h1 h2
    · exact ⟨n, hn, fun m hm => by
        rcases Nat.lt_or_ge m n with h1 | h1
        · exact absurd ⟨m, h1, hm⟩ hx
        · exact h1⟩

/-- The end of a scope's body: what is behind it; a return; a jump to l: J. -/
def JumpK (C : Ctx) (K : List Item) (l : Nat) (J : St → Prop) (Φ : Exit → St → Prop) : Exit → St → Prop
  | .normal, s => Go C K s Φ
  | .goto l', s => l' = l ∧ J s
  | .ret, s => Φ .ret s
  | _, _ => False

theorem den_retK {C : Ctx} {Q : Exit → Act → World → Prop} {a : Act} {w : World} : ∀ {K : List Item}, den C Q K .ret a w = Q .ret a w
  | [] => rfl
  | .blk i :: K => by simp only [den, Exit.inBlock]; exact den_retK
  | .code c :: K => by simp only [den]; exact den_retK
  | .ops _ _ :: K => by simp only [den]; exact den_retK
  | .back _ :: K => by simp only [den]; exact den_retK

theorem Cx.jumps {P : Pg} {g : Cfg} {C : Ctx} (x : Cx P g C) {s s' : St} {K K' : List Item} {Φ : Exit → St → Prop} {ob : List Prop} {c rest : Code} {α : Type} (l : Nat) (I : α → St) (μ : α → Nat) (h : run g 1000 K s [] = .code ob (.scope c) K' s') (ho : AllP ob) (hf : findLabel c l = some rest)
    (first : Go C [.code c] s' (JumpK C K' l (fun s => ∃ y, LE g.fix s (I y)) Φ))
    (pass : ∀ y, Go C [.code rest] (I y) (JumpK C K' l (fun s => ∃ z, μ z < μ y ∧ LE g.fix s (I z)) Φ)) : Go C K s Φ := by
  refine st x.ty x.n x.fix h ⟨ho, ?_⟩
  intro a w hs
  rw [den_code]
  let p : Act → World → Nat → Prop := fun a w n => ∃ y, μ y = n ∧ Sat C (I y) a w
  let ms : Act → World → Nat := fun a w => @dite Nat (∃ n, p a w n) (Classical.propDecidable _) (fun h => Classical.choose (least_of h)) (fun _ => 0)
  have hms : ∀ a w (h : ∃ n, p a w n), p a w (ms a w) ∧ ∀ m, p a w m → ms a w ≤ m := fun a w h => by
    have e : ms a w = Classical.choose (least_of h) := by
      show @dite Nat (∃ n, p a w n) (Classical.propDecidable _) _ _ = _
      rw [dif_pos h]
    rw [e]
    exact Classical.choose_spec (least_of h)
  have conv : ∀ (J : St → Prop) (J' : Act → World → Prop), (∀ s a w, Sat C s a w → J s → J' a w) → ∀ e a w, conc C (JumpK C K' l J Φ) e a w → Exit.jump l J' (den C (conc C Φ) K') e a w := by
    rintro J J' hJ e a w ⟨s, hs, hj⟩
    cases e with
    | normal => exact hj a w hs
    | goto l' => exact ⟨hj.1, hJ s a w hs hj.2⟩
    | ret =>
      show den C (conc C Φ) K' .ret a w
      rw [den_retK]
      exact ⟨s, hs, hj⟩
    | _ => exact hj.elim
  refine wp_scope_jumps l (fun a w => ∃ n, p a w n) ms hf (wp_mono (first a w hs) (conv _ _ fun s a w hs ⟨y, hy⟩ => ⟨μ y, y, rfl, LE.sat (x.fix ▸ hy) hs⟩)) fun a w hp => ?_
  obtain ⟨⟨y, hy, hs⟩, hmin⟩ := hms a w hp
  refine wp_mono (pass y a w hs) (conv _ _ fun s a' w' hs' ⟨z, hz, hle⟩ => ?_)
  have hp' : ∃ n, p a' w' n := ⟨μ z, z, rfl, LE.sat (x.fix ▸ hle) hs'⟩
  refine ⟨hp', ?_⟩
  have := (hms a' w' hp').2 _ ⟨z, rfl, LE.sat (x.fix ▸ hle) hs'⟩
  omega
end Go.Sx
