/-
  Sx, part 25: statements that draw their order: where the operations only read, or call functions whose answer is plain, one walk serves every order.
-/
import Derived.Test.YtdgopbgckdnncaaSx23
import Derived.Deep.Quiet
set_option linter.unusedVariables false
set_option linter.unusedSimpArgs false
namespace Go.Sx

inductive QEv where
  | done (ob : List Prop) (s : St)
  | op (ob : List Prop) (o : Oper) (rest : List Oper) (s : St)
  | stuck (why : String)

def qrun (g : Cfg) (all : Array Oper) : Nat → List Oper → St → List Prop → QEv
  | 0, _, _, _ => .stuck "fuel"
  | n + 1, l, ⟨L, H, m⟩, ob => match l with
   | [] => fS ⟨L, H, m⟩ fun S => fO ob fun ob => .done ob S
   | o :: rest => match o.guard with
    | none => match rdE g g.ck ⟨L, H, m⟩ [] o.op with
      | some (v, p) => match o.dst with
        | some d => bif Nat.blt d g.n then f3 v fun v => fL (put L d v) fun L' => fA ob p fun ob => qrun g all n rest ⟨L', H, m⟩ ob else .stuck "slot"
        | none => .stuck "no slot"
      | none => fS ⟨L, H, m⟩ fun S => fO ob fun ob => .op ob o rest S
    | some (j, u) => match gpath L all j u with
      | none => .stuck "guard"
      | some q => match rdE g g.ck ⟨L, H, m⟩ q o.op with
        | some (v, p) => match o.dst with
          | some d => bif Nat.blt d g.n && !(q.any fun e => Nat.beq e.1 d) && v.all3 (fresh m) then fIs L q p fun p => f3 v fun v => fP q fun q => fL (put L d (.g q v)) fun L' => fA ob p fun ob => qrun g all n rest ⟨L', H, m⟩ ob else .stuck "slot"
          | none => .stuck "no slot"
        | none => fS ⟨L, H, m⟩ fun S => fO ob fun ob => .op ob o rest S

def QGo (C : Ctx) (all : Array Oper) (l : List Oper) (s : St) (K : List Item) (Φ : Exit → St → Prop) : Prop :=
  ∀ a w ρ F, SatW C s a w ρ F → wpQuiet C.P all (Mod none w) (fun a' => ∀ w', Mod none w w' → den C (conc C Φ) K .normal a' w') l a

def QEv.holds (C : Ctx) (all : Array Oper) (K : List Item) (Φ : Exit → St → Prop) : QEv → Prop
  | .done ob s => AllP ob ∧ Go C K s Φ
  | .op ob o rest s => AllP ob ∧ QGo C all (o :: rest) s K Φ
  | .stuck _ => False

section
variable {C : Ctx} {s : St} {a : Act} {w w' : World} {ρ : Nat → Value} {F : Nat → Prop} {g : Cfg} {K : List Item} {Φ : Exit → St → Prop}

theorem SatW.mod (h : SatW C s a w ρ F) (hm : Mod none w w') : SatW C s a w' ρ F := by
  have hwF : ∀ k, F k → w'.heap[k]? = w.heap[k]? := fun k hk => hm.block k (h.lt k hk) (by simp)
  refine h.change (fun u => u) (fun u v hu hr => hr.keep (x := s.m) (fun _ _ => rfl) (fun _ => id) hwF (fresh_names (Nat.le_refl _) hu)) (fun t v hv => ⟨⟨v, hv, (map4_id v).symm⟩, h.freshL t v hv⟩) (fun i c hc => ?_) (fun _ => id) hwF (fun k hk => Nat.lt_of_lt_of_le (h.lt k hk) hm.size) (h.keeps hm (by simp)) (Nat.le_refl _) h.sub h.fixd.2
  exact ⟨⟨c, hc, (chmap_id c).symm⟩, (h.freshH i c hc).2, rfl, fun b e => ⟨hm.block b ((h.ch i c hc).lt e) (by simp), h.out i c b hc e⟩⟩

theorem Mod.trans {w w' w'' : World} (h : Mod none w w') (h' : Mod none w' w'') : Mod none w w'' :=
  ⟨h'.os.trans h.os, h'.tape.trans h.tape, h'.output.trans h.output, Nat.le_trans h.size h'.size, fun k hk _ => (h'.block k (Nat.lt_of_lt_of_le hk h.size) (by simp)).trans (h.block k hk (by simp))⟩

theorem QGo.op_next {all : Array Oper} {o : Oper} {rest : List Oper} {Q : Act → Prop} (hg : o.guard = none) {x : Value}
    (hr : ∀ w', Mod none w w' → Oper.quietAt C.P o a (Mod none w) w' x) (h : wpQuiet C.P all (Mod none w) Q rest (a.put o.dst x)) : wpQuiet C.P all (Mod none w) Q (o :: rest) a := by
  refine wpQuiet_step fun N hN => ?_
  rw [if_pos (by simp [Region.wanted, hg])]
  exact ⟨x, hr, hN _ h⟩
theorem QGo.op_guarded {all : Array Oper} {o : Oper} {rest : List Oper} {Q : Act → Prop} {x : Value}
    (hyes : Region.wanted o (yielded all a.tmps) = true → ∀ w', Mod none w w' → Oper.quietAt C.P o a (Mod none w) w' x) (hno : Region.wanted o (yielded all a.tmps) = false → x = undef)
    (h : wpQuiet C.P all (Mod none w) Q rest (a.put o.dst x)) : wpQuiet C.P all (Mod none w) Q (o :: rest) a := by
  refine wpQuiet_step fun N hN => ?_
  cases hw : Region.wanted o (yielded all a.tmps) with
  | true => rw [if_pos rfl]; exact ⟨x, hyes hw, hN _ h⟩
  | false => rw [if_neg (by simp)]; exact hN _ (hno hw ▸ h)

theorem qrun_holds (hg : TysOK C.P g.tys) (hn : g.n = C.n) {all : Array Oper} : ∀ (n : Nat) (l : List Oper) (s : St) (ob : List Prop), (qrun g all n l s ob).holds C all K Φ → AllP ob ∧ QGo C all l s K Φ := by
  intro n
  induction n with
  | zero => intro l s ob h; exact h.elim
  | succ n ih =>
    rintro l ⟨L, H, m⟩ ob h
    cases l with
    | nil =>
      unfold qrun at h
      simp only [fS_eq, fO_eq] at h
      exact ⟨h.1, fun a w ρ F hs => wpQuiet_nil fun w' hm => h.2 a w' ⟨ρ, F, hs.mod hm⟩⟩
    | cons o rest =>
    unfold qrun at h
    simp only at h
    split at h
    · rename_i hgd
      split at h
      · rename_i v p hrd
        split at h
        · rename_i d hd
          cases hb : Nat.blt d g.n with
          | false => rw [hb] at h; exact h.elim
          | true =>
            rw [hb] at h
            simp only [cond_true, f3_eq, fL_eq, fA_eq] at h
            obtain ⟨h1, h2⟩ := ih _ _ _ h
            obtain ⟨h3, h4⟩ := AllP_app h1
            refine ⟨h3, fun a w ρ F hw => ?_⟩
            obtain ⟨x, r1, r2, r3⟩ := rd_sound hg hw (pc_nil _) hrd h4
            refine QGo.op_next hgd (x := x) (fun w' hm => ?_) ?_
            · unfold Oper.quietAt
              rw [r3 w' fun k hk => hm.block k hk (by simp)]
              exact ⟨rfl, rfl⟩
            · rw [hd]
              exact h2 _ _ _ _ (hw.put (by rw [← hn]; simpa using hb) r1 r2)
        · exact h.elim
      · rw [fS_eq, fO_eq] at h; exact h
    · rename_i j u hgd
      split at h
      · exact h.elim
      · rename_i q hq
        split at h
        · rename_i v p hrd
          split at h
          · rename_i d hd
            cases hb : (Nat.blt d g.n && !(q.any fun e => Nat.beq e.1 d) && v.all3 (fresh m)) with
            | false => rw [hb] at h; exact h.elim
            | true =>
              rw [hb] at h
              simp only [cond_true, fIs_eq, f3_eq, fL_eq, fP_eq, fA_eq] at h
              simp only [Bool.and_eq_true, Bool.not_eq_true'] at hb
              obtain ⟨⟨b1, b2⟩, b3⟩ := hb
              obtain ⟨h1, h2⟩ := ih _ _ _ h
              obtain ⟨h3, h4⟩ := AllP_app h1
              refine ⟨h3, fun a w ρ F hw => ?_⟩
              have hgp := gpath_sound hw hq
              have hwant : Region.wanted o (yielded all a.tmps) = true ↔ pcA a.tmps q := by
                rw [← hgp]; simp [Region.wanted, hgd]
              by_cases hpc : pcA a.tmps q
              · obtain ⟨x, r1, r2, r3⟩ := rd_sound hg hw hpc hrd (imps_sound hw hpc h4)
                refine QGo.op_guarded (x := x) (fun _ w' hm => ?_) (fun hno => by rw [hwant.2 hpc] at hno; simp at hno) ?_
                · unfold Oper.quietAt
                  rw [r3 w' fun k hk => hm.block k hk (by simp)]
                  exact ⟨rfl, rfl⟩
                · rw [hd]
                  exact h2 _ _ _ _ (hw.putS (by rw [← hn]; simpa using b1) ⟨fun _ => r1, fun hno => (hno ((pcA_put b2).2 hpc)).elim⟩ b3)
              · refine QGo.op_guarded (x := undef) (fun hyes => (hpc (hwant.1 hyes)).elim) (fun _ => rfl) ?_
                rw [hd]
                exact h2 _ _ _ _ (hw.putS (by rw [← hn]; simpa using b1) ⟨fun hp => (hpc ((pcA_put b2).1 hp)).elim, fun _ => rfl⟩ b3)
          · exact h.elim
        · rw [fS_eq, fO_eq] at h; exact h

/-- Plain answers: their value is known. -/
def val0 : V → Option Value
  | .d (.int k n) => some (.int k n)
  | .d (.bool b) => some (.bool b)
  | .d (.str s) => some (.string s)
  | _ => none
def val0s : List V → Option (List Value)
  | [] => some []
  | v :: r => match val0 v, val0s r with
    | some x, some xs => some (x :: xs)
    | _, _ => none
def valOf : V → Option Value
  | .tup us => match val0s us with
    | some xs => some (.tuple xs.toArray)
    | none => none
  | v => val0 v

theorem val0_sound {v : V} {x y : Value} (h : val0 v = some x) (hr : R3 ρ F w v y) : y = x := by
  cases v with
  | d e =>
    cases e <;> simp only [val0, Option.some.injEq, reduceCtorEq] at h <;> subst h <;> cases (show RD F w _ y from hr) <;> rfl
  | _ => simp [val0] at h
theorem val0s_sound {us : List V} : ∀ {xs ys : List Value}, val0s us = some xs → All2 (R2 ρ F w) us ys → ys = xs := by
  induction us with
  | nil => intro xs ys h hr; cases ys with
    | nil => simpa [val0s] using h
    | cons => exact hr.elim
  | cons u us ih =>
    intro xs ys h hr
    cases ys with
    | nil => exact hr.elim
    | cons y ys =>
      simp only [val0s] at h
      split at h
      · rename_i x0 xs0 e1 e2
        simp only [Option.some.injEq] at h
        subst h
        rw [val0_sound e1 (R3_of hr.1), ih e2 hr.2]
      · simp at h
theorem valOf_sound {v : V} {x y : Value} (h : valOf v = some x) (hr : R3 ρ F w v y) : y = x := by
  cases v with
  | tup us =>
    simp only [valOf] at h
    split at h
    · rename_i xs e
      simp only [Option.some.injEq] at h
      obtain ⟨ys, rfl, hy⟩ := hr
      rw [← h, val0s_sound e hy]
    · simp at h
  | _ => (first | exact val0_sound (v := .nils) h hr | exact val0_sound (v := (.ptr _ _)) h hr | exact val0_sound (v := (.own _)) h hr | exact val0_sound (v := (.vptr _ _ _ _)) h hr | exact val0_sound (v := (.eptr _)) h hr | exact val0_sound (v := (.fn _ _)) h hr | exact val0_sound (v := (.agg _)) h hr | exact val0_sound (v := (.g _ _)) h hr | exact val0_sound (v := .dead) h hr | exact val0_sound (v := (.d _)) h hr)

/-- A call, carried out in a world: its contract. -/
theorem call_raw (h : SatW C s a w ρ F) (hfxg : g.fix = C.fix) {q : List (Nat × Bool)} (hq : pcA a.tmps q) {o : Oper} {f : FuncId} {A : List V} (hco : callOf s.L q o = some (f, A))
    {is : List Nat} {fix : Nat} {args : List V} {H H' : List Ch} {r : V} (hp : Proc C.pg f fix args H r H') (hA : AEq A (args.map (V.map3 (ren0 is)))) (hok : okIs g s.m is fix H.length = true) (hH : HLE s.H (rnH is is H)) :
    ∃ vals, (execOp a.eval o).run C.P w = .ok (.enter f vals) w ∧ Calls C.P f vals w (Post w F (fun i => ρ (nth is i)) fix H r H') := by
  obtain ⟨hcall, hfr, hfr', hfx, hHH, hcalls⟩ := hp
  unfold callOf at hco
  split at hco
  · rename_i c hop
    split at hco
    · rename_i fo hc
      split at hco
      · rename_i f' caps A' he hes
        simp only [Option.some.injEq, Prod.mk.injEq] at hco
        obtain ⟨rfl, rfl⟩ := hco
        obtain ⟨cs, hcs, hcaps⟩ := (show R1 ρ F w (.fn f' caps) _ from (ev_sound h hq he).1)
        have hargs := (evs_sound h hq hes).1
        simp only [okIs, Bool.and_eq_true, List.all_eq_true] at hok
        obtain ⟨⟨⟨o1, o2⟩, o3⟩, o4⟩ := hok
        have hisl := Nat.eq_of_beq_eq_true o4
        simp only [freshAll, Bool.and_eq_true, List.all_eq_true] at hfr
        have hvals : c.args.map a.eval ++ cs.toArray = (c.args.toList.map a.eval ++ cs).toArray := by
          cases c.args; simp
        have hall : All2 (R3 ρ F w) (A' ++ caps) (c.args.toList.map a.eval ++ cs) := hargs.app (hcaps.mono fun u v hr => R3_of (R2_of (R1_of hr)))
        have hall2 := AEq_sound hA hall
        have hall3 : All2 (R3 (fun i => ρ (nth is i)) F w) args (c.args.toList.map a.eval ++ cs) := hall2.unmap fun u v hu hr => R3.unren (k := H.length) (fun _ _ => rfl) (hfr.1 u hu) hr
        have hold : Holds (fun i => ρ (nth is i)) F w H := by
          have hx : ∀ i, i < H.length → ∃ c, H[i]? = some c ∧ ∃ c0, (nth is i, c0) ∈ s.H ∧ ChEq c0 (c.map (ren0 is)) := fun i hi => by
            obtain ⟨c0, k1, k2⟩ := rnH_mem hisl hH (List.getElem?_eq_getElem hi)
            exact ⟨_, List.getElem?_eq_getElem hi, c0, k1, k2⟩
          refine ⟨fun i c hc => ?_, fun i j b hi hj hij e => ?_, fun i b hi e => ?_⟩
          · have hi := (List.getElem?_eq_some_iff.1 hc).1
            obtain ⟨c', hc', c0, k1, k2⟩ := hx i hi
            rw [hc] at hc'
            obtain rfl := Option.some.inj hc'
            exact ChOK.unren (k := H.length) (ρ := fun i => ρ (nth is i)) (fun _ _ => rfl) hi (hfr.2 c (List.mem_of_getElem? hc)).1 (ChEq_sound k2 (h.ch _ _ k1))
          · obtain ⟨_, _, c0, k1, _⟩ := hx i hi
            obtain ⟨_, _, c1, k3, _⟩ := hx j hj
            exact fun e2 => h.sep _ _ c0 c1 b k1 k3 (nodupB_sound o1 i j (by omega) (by omega) hij) (bks_main e) (bks_main e2)
          · obtain ⟨_, _, c0, k1, _⟩ := hx i hi
            exact h.out _ c0 b k1 (bks_main e)
        refine ⟨_, run_call hop hc hcs hcall w, ?_⟩
        rw [hvals]
        exact hcalls w F _ _ h.lt h.env hold hall3
      · simp at hco
    · simp at hco
  · simp at hco

theorem val0_mk {v : V} {x : Value} (h : val0 v = some x) : R0 ρ F w v x := by
  cases v with
  | d e =>
    cases e <;> simp only [val0, Option.some.injEq, reduceCtorEq] at h <;> subst h
    · exact RD.int _ _
    · exact RD.bool _
    · exact RD.str _
  | _ => simp [val0] at h
theorem val0s_mk {us : List V} : ∀ {xs : List Value}, val0s us = some xs → All2 (R2 ρ F w) us xs := by
  induction us with
  | nil => intro xs h; simp [val0s] at h; subst h; trivial
  | cons u us ih =>
    intro xs h
    simp only [val0s] at h
    split at h
    · rename_i x0 xs0 e1 e2
      simp only [Option.some.injEq] at h
      subst h
      exact ⟨R2_of (R1_of (val0_mk e1)), ih e2⟩
    · simp at h
theorem val_of0 {v : V} (h : ∀ us, v ≠ .tup us) : valOf v = val0 v := by cases v <;> first | rfl | exact (h _ rfl).elim
theorem valOf_mk {v : V} {x : Value} (h : valOf v = some x) : R3 ρ F w v x := by
  by_cases ht : ∃ us, v = .tup us
  · obtain ⟨us, rfl⟩ := ht
    simp only [valOf] at h
    split at h
    · rename_i xs e
      simp only [Option.some.injEq] at h
      exact ⟨xs, h.symm, val0s_mk e⟩
    · simp at h
  · rw [val_of0 fun us e => ht ⟨us, e⟩] at h
    exact R3_of (R2_of (R1_of (val0_mk h)))

theorem quiet_call (h : SatW C s a w ρ F) (hfxg : g.fix = C.fix) {q : List (Nat × Bool)} (hq : pcA a.tmps q) {o : Oper} {f : FuncId} {A : List V} (hco : callOf s.L q o = some (f, A)) {args : List V} {r : V} {x : Value}
    (hp : Pure C.pg f args r []) (hx : valOf r = some x) (hA : AEq A (args.map (V.map3 (ren0 [])))) {w' : World} (hm : Mod none w w') : Oper.quietAt C.P o a (Mod none w) w' x := by
  obtain ⟨vals, h1, h2⟩ := call_raw (h.mod hm) hfxg hq hco hp hA (show okIs g s.m [] 0 0 = true from rfl) trivial
  unfold Oper.quietAt
  rw [h1]
  refine ⟨rfl, h2.mono ?_⟩
  rintro e w'' ⟨v, ρ', F', rfl, hk, _, _, _, _, hr, _⟩
  rw [valOf_sound hx hr]
  exact ⟨rfl, hm.trans ⟨hk.os, hk.tape, hk.output, hk.size, fun k hlt _ => hk.block k hlt (fun ⟨i, hi, _⟩ => absurd hi (Nat.not_lt_zero _))⟩⟩

/-- A call with a plain answer. -/
theorem QGo.call (hn : g.n = C.n) (hfxg : g.fix = C.fix) {all : Array Oper} {o : Oper} {rest : List Oper} {args : List V} {r : V} {f : FuncId} {A : List V} {d : Nat} {x : Value}
    (hp : Pure C.pg f args r []) (hx : valOf r = some x) (hgd : o.guard = none) (hd : o.dst = some d) (hdn : (Nat.blt d g.n && r.all3 (fresh 0)) = true) (hco : callOf s.L [] o = some (f, A)) (hA : AEq A (args.map (V.map3 (ren0 []))))
    (k : QGo C all rest { s with L := put s.L d r } K Φ) : QGo C all (o :: rest) s K Φ := by
  intro a w ρ F h
  simp only [Bool.and_eq_true] at hdn
  refine QGo.op_next hgd (x := x) (fun w' hm => quiet_call h hfxg (pc_nil _) hco hp hx hA hm) ?_
  rw [hd]
  exact k _ _ _ _ (h.put (by rw [← hn]; simpa using hdn.1) (valOf_mk hx) (all3_imp (fun u hu => fresh_mono (Nat.zero_le _) hu) hdn.2))

/-- The same under a guard. -/
theorem QGo.callG (hn : g.n = C.n) (hfxg : g.fix = C.fix) {all : Array Oper} {o : Oper} {rest : List Oper} {args : List V} {r : V} {f : FuncId} {A : List V} {d j : Nat} {u : Bool} {q : List (Nat × Bool)} {x : Value}
    (hgd : o.guard = some (j, u)) (hgp : gpath s.L all j u = some q) (hd : o.dst = some d) (hdn : (Nat.blt d g.n && !(q.any fun e => Nat.beq e.1 d) && r.all3 (fresh 0)) = true) (hco : callOf s.L q o = some (f, A))
    (hp : imp s.L q (Pure C.pg f args r [])) (hx : valOf r = some x) (hA : AEq A (args.map (V.map3 (ren0 []))))
    (k : QGo C all rest { s with L := put s.L d (.g q r) } K Φ) : QGo C all (o :: rest) s K Φ := by
  intro a w ρ F h
  simp only [Bool.and_eq_true, Bool.not_eq_true'] at hdn
  obtain ⟨⟨b1, b2⟩, b3⟩ := hdn
  have hgs := gpath_sound h hgp
  have hwant : Region.wanted o (yielded all a.tmps) = true ↔ pcA a.tmps q := by rw [← hgs]; simp [Region.wanted, hgd]
  have hf := all3_imp (fun u hu => fresh_mono (Nat.zero_le s.m) hu) b3
  by_cases hpc : pcA a.tmps q
  · refine QGo.op_guarded (x := x) (fun _ w' hm => quiet_call h hfxg hpc hco (imp_sound h hpc hp) hx hA hm) (fun hno => by rw [hwant.2 hpc] at hno; simp at hno) ?_
    rw [hd]
    exact k _ _ _ _ (h.putS (by rw [← hn]; simpa using b1) ⟨fun _ => valOf_mk hx, fun hno => (hno ((pcA_put b2).2 hpc)).elim⟩ hf)
  · refine QGo.op_guarded (x := undef) (fun hyes => (hpc (hwant.1 hyes)).elim) (fun _ => rfl) ?_
    rw [hd]
    exact k _ _ _ _ (h.putS (by rw [← hn]; simpa using b1) ⟨fun hp => (hpc ((pcA_put b2).1 hp)).elim, fun _ => rfl⟩ hf)
end

namespace Cx
variable {P : Pg} {g : Cfg} {C : Ctx} (x : Cx P g C) {s s' : St} {K K' : List Item} {Φ : Exit → St → Prop} {ob : List Prop}
include x

/-- A statement that draws its order. -/
theorem quiet {id : Nat} {ops : Array Oper} (h : run g 1000 K s [] = .code ob (.region id ops true) K' s') (ho : AllP ob) (hm : P.P.follows .mixedOrders = true) (hB : Region.lexB .any ops = true)
    (k : QGo C ops ops.toList s' K' Φ) : Go C K s Φ := by
  refine st x.ty x.n x.fix h ⟨ho, ?_⟩
  rintro a w ⟨ρ, F, hs⟩
  have hd : Mod none w { w with drawn := w.drawn + 1 } := ⟨rfl, rfl, rfl, Nat.le_refl _, fun _ _ _ => rfl⟩
  show Code.wp C.P (.region id ops true) (den C (conc C Φ) K') a w
  exact wp_region_quiet (C := Mod none w) (x.progP.symm ▸ hm) hB hd (k a w ρ F hs)
theorem qdone {all : Array Oper} {l : List Oper} (h : qrun g all 1000 l s [] = .done ob s') (ho : AllP ob) (k : Go C K s' Φ) : QGo C all l s K Φ :=
  (qrun_holds (K := K) (Φ := Φ) x.ty x.n 1000 l s [] (by rw [h]; exact ⟨ho, k⟩)).2
theorem qcall {all : Array Oper} {l rest : List Oper} {o : Oper} {args A : List V} {r : V} {f d : Nat} {y : Value} (h : qrun g all 1000 l s [] = .op ob o rest s') (ho : AllP ob)
    (hco : callInfo g s' o = some (f, A, d)) (hp : Pure P f args r []) (hy : valOf r = some y) (hr : r.all3 (fresh 0) = true) (hA : AEq A (args.map (V.map3 (ren0 [])))) (k : QGo C all rest { s' with L := put s'.L d r } K Φ) : QGo C all l s K Φ := by
  suffices kk : QGo C all (o :: rest) s' K Φ from (qrun_holds (K := K) (Φ := Φ) x.ty x.n 1000 l s [] (by rw [h]; exact ⟨ho, kk⟩)).2
  unfold callInfo at hco
  split at hco
  · rename_i d' hg hd
    cases hb : Nat.blt d' g.n with
    | false => rw [hb] at hco; simp at hco
    | true =>
      rw [hb] at hco
      simp only [cond_true] at hco
      split at hco
      · rename_i f' A' hc
        simp only [Option.some.injEq, Prod.mk.injEq] at hco
        obtain ⟨rfl, rfl, rfl⟩ := hco
        exact QGo.call x.n x.fix (x.prog ▸ hp) hy hg hd (by simp only [Bool.and_eq_true]; exact ⟨hb, hr⟩) hc hA k
      · simp at hco
  · simp at hco
theorem qcallG {all : Array Oper} {l rest : List Oper} {o : Oper} {args A : List V} {r : V} {f d : Nat} {q : List (Nat × Bool)} {y : Value} (h : qrun g all 1000 l s [] = .op ob o rest s') (ho : AllP ob)
    (hco : callInfoG g s' all o = some (f, A, d, q)) (hp : imp s'.L q (Pure P f args r [])) (hy : valOf r = some y) (hr : r.all3 (fresh 0) = true) (hA : AEq A (args.map (V.map3 (ren0 [])))) (k : QGo C all rest { s' with L := put s'.L d (.g q r) } K Φ) : QGo C all l s K Φ := by
  suffices kk : QGo C all (o :: rest) s' K Φ from (qrun_holds (K := K) (Φ := Φ) x.ty x.n 1000 l s [] (by rw [h]; exact ⟨ho, kk⟩)).2
  unfold callInfoG at hco
  split at hco
  · rename_i j u d' hg hd
    split at hco
    · rename_i q' hq
      cases hb : (Nat.blt d' g.n && !(q'.any fun e => Nat.beq e.1 d')) with
      | false => rw [hb] at hco; simp at hco
      | true =>
        rw [hb] at hco
        simp only [cond_true] at hco
        split at hco
        · rename_i f' A' hc
          simp only [Option.some.injEq, Prod.mk.injEq] at hco
          obtain ⟨rfl, rfl, rfl, rfl⟩ := hco
          exact QGo.callG x.n x.fix hg hq hd (by simp only [Bool.and_eq_true] at hb ⊢; exact ⟨hb, hr⟩) hc (x.prog ▸ hp) hy hA k
        · simp at hco
    · simp at hco
  · simp at hco
end Cx
end Go.Sx
