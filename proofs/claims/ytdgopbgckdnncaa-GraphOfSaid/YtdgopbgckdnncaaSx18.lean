/-
  Sx, part 18: how a contract is proved.
-/
import Derived.Test.YtdgopbgckdnncaaSx17
set_option linter.unusedVariables false
set_option linter.unusedSimpArgs false
namespace Go.Sx

def noTup : V → Option V
  | .tup _ => none
  | .g _ _ => none
  | v => some v
def res1 (g : Cfg) (s : St) : ResultVar → Option V
  | .tmp t => match get s.L t with
    | some v => noTup v
    | none => none
  | .cell t ty => match get s.L t with
    | some (.ptr i o) => match ldE g s.H ty (.ptr i o) with
      | some (v, []) => noTup v
      | _ => none
    | _ => none
def resV (g : Cfg) (s : St) : List ResultVar → Option V
  | [] => some (.tup [])
  | [x] => res1 g s x
  | [x, y] => match res1 g s x, res1 g s y with
    | some u, some v => some (.tup [u, v])
    | _, _ => none
  | [x, y, z] => match res1 g s x, res1 g s y, res1 g s z with
    | some u, some v, some t => some (.tup [u, v, t])
    | _, _, _ => none
  | [x, y, z, q] => match res1 g s x, res1 g s y, res1 g s z, res1 g s q with
    | some u, some v, some t, some r => some (.tup [u, v, t, r])
    | _, _, _, _ => none
  | _ => none

def rnH (is : List Nat) : List Nat → List Ch → List (Nat × Ch)
  | x :: xs, c :: cs => (x, c.map (ren0 is)) :: rnH is xs cs
  | _, _ => []

def notIn (x : Nat) : List Nat → Bool
  | [] => true
  | y :: r => !(Nat.beq x y) && notIn x r
def nodupB : List Nat → Bool
  | [] => true
  | x :: r => notIn x r && nodupB r
def idB : Nat → Nat → List Nat → Bool
  | 0, _, _ => true
  | n + 1, k, x :: r => Nat.beq x k && idB n (k + 1) r
  | _ + 1, _, [] => false
def okIds (fix : Nat) (ids : List Nat) (n : Nat) : Bool := Nat.beq ids.length n && nodupB ids && idB fix 0 ids

theorem notIn_sound {x : Nat} : ∀ {l : List Nat}, notIn x l = true → x ∉ l
  | [], _ => by simp
  | y :: r, h => by
    simp only [notIn, Bool.and_eq_true, Bool.not_eq_true'] at h
    intro hm
    rcases List.mem_cons.1 hm with rfl | hm
    · simp at h
    · exact notIn_sound h.2 hm
theorem nodupB_sound : ∀ {l : List Nat}, nodupB l = true → ∀ i j, i < l.length → j < l.length → i ≠ j → nth l i ≠ nth l j
  | x :: r, h, i, j, hi, hj, hij => by
    simp only [nodupB, Bool.and_eq_true] at h
    cases i with
    | zero =>
      cases j with
      | zero => exact (hij rfl).elim
      | succ j =>
        intro e
        have hj' : j < r.length := by simpa using hj
        exact notIn_sound h.1 (by simp only [nth] at e; rw [e]; exact List.mem_of_getElem? (nth_get hj'))
    | succ i =>
      have hi' : i < r.length := by simpa using hi
      cases j with
      | zero =>
        intro e
        exact notIn_sound h.1 (by simp only [nth] at e; rw [← e]; exact List.mem_of_getElem? (nth_get hi'))
      | succ j => exact nodupB_sound h.2 i j hi' (by simpa using hj) (by omega)
  | [], _, _, _, hi, _, _ => by simp at hi
theorem idB_sound : ∀ {n k : Nat} {l : List Nat}, idB n k l = true → ∀ i, i < n → nth l i = k + i
  | n + 1, k, x :: r, h, i, hi => by
    simp only [idB, Bool.and_eq_true] at h
    have h1 := Nat.eq_of_beq_eq_true h.1
    subst h1
    cases i with
    | zero => rfl
    | succ i => simp only [nth]; rw [idB_sound h.2 i (by omega)]; omega
  | n + 1, k, [], h, i, hi => by simp [idB] at h
  | 0, _, _, _, i, hi => by omega

theorem rnH_mem {is : List Nat} {H' : List (Nat × Ch)} : ∀ {xs : List Nat} {cs : List Ch} {i : Nat} {c : Ch}, xs.length = cs.length → HLE H' (rnH is xs cs) → cs[i]? = some c → ∃ c0, (nth xs i, c0) ∈ H' ∧ ChEq c0 (c.map (ren0 is))
  | x :: xs, c' :: cs, i, c, hl, h, hc => by
    cases i with
    | zero =>
      simp at hc
      subst hc
      have h1 := h.1
      cases hg : get H' x with
      | none => rw [hg] at h1; exact h1.elim
      | some u => rw [hg] at h1; exact ⟨u, get_mem hg, h1⟩
    | succ i => exact rnH_mem (xs := xs) (cs := cs) (by simpa using hl) h.2 (by simpa using hc)
  | [], [], _, _, _, _, hc => by simp at hc
  | [], _ :: _, _, _, hl, _, _ => by simp at hl
  | _ :: _, [], _, _, hl, _, _ => by simp at hl

/-- What must hold where the function ends. -/
def Ret (g : Cfg) (rs : List ResultVar) (ids : List Nat) (r : V) (H' : List Ch) : Exit → St → Prop := fun e s =>
  (e = .normal ∨ e = .ret) ∧ (match resV g s rs with | some r0 => VEq r0 (r.map3 (ren0 ids)) | none => False) ∧ HLE s.H (rnH ids ids H') ∧ okIds g.fix ids H'.length = true

section
variable {C : Ctx} {s : St} {a : Act} {w : World} {ρ : Nat → Value} {F : Nat → Prop} {g : Cfg}

def resSem (tmps : Array Value) : ResultVar → Sem Value
  | .tmp t => pure (tmps.getD t undef)
  | .cell t ty => do loadVar ty (← asAddr (tmps.getD t undef))

theorem noTup_sound {u v : V} {x : Value} (h : noTup u = some v) (hr : RS a.tmps ρ F w u x) : R2 ρ F w v x ∧ u = v := by
  cases u <;> simp only [noTup, Option.some.injEq, reduceCtorEq] at h <;> subst h <;> exact ⟨hr, rfl⟩

theorem res1_sound (hg : TysOK C.P g.tys) (h : SatW C s a w ρ F) {x : ResultVar} {v : V} (he : res1 g s x = some v) :
    ∃ y, R2 ρ F w v y ∧ (resSem a.tmps x).run C.P w = .ok y w := by
  cases x with
  | tmp t =>
    simp only [res1] at he
    split at he
    · rename_i u hu
      obtain ⟨y, hy, hr⟩ := h.slot t u (get_mem hu)
      exact ⟨y, (noTup_sound he hr).1, by simp [resSem, Array.getD_eq_getD_getElem?, hy]⟩
    · simp at he
  | cell t ty =>
    simp only [res1] at he
    split at he
    · rename_i i o hg0
      split at he
      · rename_i v' hld
        obtain ⟨y, hy, hr⟩ := h.slot t _ (get_mem hg0)
        obtain ⟨r, h1, _, h3⟩ := ld_sound (P := C.P) hg h hld trivial (show R3 ρ F w (.ptr i o) y from hr)
        refine ⟨r, (noTup_sound (a := a) he (RS_of h1)).1, ?_⟩
        obtain ⟨b, _, rfl⟩ := (show R0 ρ F w (.ptr i o) y from hr)
        have := h3 w (fun _ _ => rfl)
        simp only [Instr.loadAt, Instr.sureAddr, Sem.run_bind, Sem.run_pure, Result.andThen] at this
        simp only [resSem, Sem.run_bind, Array.getD_eq_getD_getElem?, hy, Option.getD_some, asAddr, Sem.run_pure, Result.andThen]
        exact this
      · simp at he
    · simp at he

theorem results_eq (fn : Func) (tmps : Array Value) : results fn tmps = (do
    let vs ← fn.results.mapM (resSem tmps)
    pure (if h : vs.size = 1 then vs[0] else .tuple vs)) := by
  unfold results
  congr 1

theorem res_sound (hg : TysOK C.P g.tys) (h : SatW C s a w ρ F) {fn : Func} {rs : List ResultVar} (hrs : fn.results = rs.toArray) {v : V} (he : resV g s rs = some v) :
    ∃ y, R3 ρ F w v y ∧ (results fn a.tmps).run C.P w = .ok y w := by
  rw [results_eq]
  unfold resV at he
  split at he
  · simp only [Option.some.injEq] at he
    subst he
    exact ⟨.tuple #[], ⟨[], rfl, trivial⟩, by simp [hrs]⟩
  · rename_i x
    obtain ⟨y, h1, h2⟩ := res1_sound hg h he
    exact ⟨y, R3_of h1, by simp [hrs, h2]⟩
  · rename_i x y
    split at he
    · rename_i u v' hu hv
      simp only [Option.some.injEq] at he
      subst he
      obtain ⟨y1, h1, h2⟩ := res1_sound hg h hu
      obtain ⟨y2, h3, h4⟩ := res1_sound hg h hv
      exact ⟨.tuple #[y1, y2], ⟨[y1, y2], rfl, h1, h3, trivial⟩, by simp [hrs, h2, h4]⟩
    · simp at he
  · rename_i x y z
    split at he
    · rename_i u v' t hu hv ht
      simp only [Option.some.injEq] at he
      subst he
      obtain ⟨y1, h1, h2⟩ := res1_sound hg h hu
      obtain ⟨y2, h3, h4⟩ := res1_sound hg h hv
      obtain ⟨y3, h5, h6⟩ := res1_sound hg h ht
      exact ⟨.tuple #[y1, y2, y3], ⟨[y1, y2, y3], rfl, h1, h3, h5, trivial⟩, by simp [hrs, h2, h4, h6]⟩
    · simp at he
  · rename_i x y z q
    split at he
    · rename_i u v' t p hu hv ht hp
      simp only [Option.some.injEq] at he
      subst he
      obtain ⟨y1, h1, h2⟩ := res1_sound hg h hu
      obtain ⟨y2, h3, h4⟩ := res1_sound hg h hv
      obtain ⟨y3, h5, h6⟩ := res1_sound hg h ht
      obtain ⟨y4, h7, h8⟩ := res1_sound hg h hp
      exact ⟨.tuple #[y1, y2, y3, y4], ⟨[y1, y2, y3, y4], rfl, h1, h3, h5, h7, trivial⟩, by simp [hrs, h2, h4, h6, h8]⟩
    · simp at he
  · simp at he

/-- **HOW A CONTRACT IS PROVED**: go through the body, from the arguments, to an end that bears r and H'. -/
theorem Proc.intro {P : Pg} {f : FuncId} {fn : Func} {c : Code} {args : List V} {H : List Ch} {r : V} {H' : List Ch} (hf : P.P.funcs[f]? = some fn) (hb : fn.body = some c) (hname : (fn.name == "runtime.NumGoroutine") = false)
    (hg : TysOK P.P g.tys) (hn : g.n = fn.ntmps) {rs : List ResultVar} (hrs : fn.results = rs.toArray) (hlen : Nat.ble args.length g.n = true) (hfr : freshAll args H H.length = true) (hfr' : freshAll [r] H' H'.length = true) (hfx : Nat.ble g.fix H.length = true) (hHH : Nat.ble H.length H'.length = true)
    (ids : List Nat)
    (hgo : ∀ (C : Ctx), C.pg = P → g.n = C.n → g.fix = C.fix → Go C [.code c] ⟨ixV 0 args, ixC 0 H, H.length⟩ (Ret g rs ids r H')) : Proc P f g.fix args H r H' := by
  refine ⟨⟨fn, hf, by rw [hb]; rfl, hname⟩, hfr, hfr', by simpa using hfx, by simpa using hHH, fun w F ρ vals hF hE hH hargs => ?_⟩
  have hfx' : g.fix ≤ H.length := by simpa using hfx
  have hlen' : args.length ≤ g.n := by simpa using hlen
  have hvl := hargs.length
  simp only [freshAll, Bool.and_eq_true, List.all_eq_true] at hfr
  let C : Ctx := { P := P.P, env := P.env, n := g.n, w0 := w, E := ownB ρ H, F0 := F, ρ0 := ρ, fix := g.fix }
  refine calls_of_wp hf hb ?_
  have hsat : Sat C ⟨ixV 0 args, ixC 0 H, H.length⟩ { tmps := vals.toArray ++ Array.replicate (fn.ntmps - vals.toArray.size) undef, defers := [] } w := by
    refine ⟨ρ, F, { size := ?_, defers := rfl, slot := ?_, ch := ?_, sep := ?_, out := ?_, freshL := ?_, freshH := ?_, lt := hF, mine := ?_, sub := fun k hk => .inl hk, base := fun _ hk => hk, fixd := ⟨hfx', fun _ _ => rfl⟩, keep := ⟨rfl, rfl, rfl, Nat.le_refl _, fun _ _ _ => rfl⟩, env := hE }⟩
    · simp only [Array.size_append, List.size_toArray, Array.size_replicate]
      show _ = g.n
      omega
    · intro t v hv
      obtain ⟨_, hv⟩ := mem_ixV hv
      obtain ⟨x, hx, hr⟩ := hargs.get hv
      refine ⟨x, ?_, RS_of hr⟩
      simp only [Nat.sub_zero] at hx
      have : t < vals.length := (List.getElem?_eq_some_iff.1 hx).1
      rw [Array.getElem?_append_left (by simpa using this)]
      simpa using hx
    · intro i c hc
      obtain ⟨_, hc⟩ := mem_ixC hc
      exact hH.ch i c (by simpa using hc)
    · intro i j ci cj b hi hj hij e
      obtain ⟨_, hi⟩ := mem_ixC hi
      obtain ⟨_, hj⟩ := mem_ixC hj
      exact fun e2 => hH.sep i j b (by simpa using (List.getElem?_eq_some_iff.1 hi).1) (by simpa using (List.getElem?_eq_some_iff.1 hj).1) hij (bks_plain (hfr.2 ci (List.mem_of_getElem? hi)).2 e) (bks_plain (hfr.2 cj (List.mem_of_getElem? hj)).2 e2)
    · intro i ci b hi e
      obtain ⟨_, hi⟩ := mem_ixC hi
      exact hH.out i b (by simpa using (List.getElem?_eq_some_iff.1 hi).1) (bks_plain (hfr.2 ci (List.mem_of_getElem? hi)).2 e)
    · intro t v hv
      obtain ⟨_, hv⟩ := mem_ixV hv
      obtain ⟨x, hx, hr⟩ := hargs.get hv
      have := hfr.1 v (List.mem_of_getElem? hv)
      cases v <;> first | exact this | exact (show False from hr).elim
    · intro i ci hi
      obtain ⟨_, hi⟩ := mem_ixC hi
      exact ⟨by simpa using (List.getElem?_eq_some_iff.1 hi).1, (hfr.2 ci (List.mem_of_getElem? hi)).1⟩
    · intro i ci b hi e
      obtain ⟨_, hi⟩ := mem_ixC hi
      exact .inr ⟨i, by simpa using (List.getElem?_eq_some_iff.1 hi).1, bks_plain (hfr.2 ci (List.mem_of_getElem? hi)).2 e⟩
  refine wp_mono (hgo C rfl rfl rfl _ _ hsat) ?_
  rintro e a' w' ⟨s', ⟨ρ', F', h'⟩, he, hr, hH', hok⟩
  have key : bodyPost P.P fn (Post w F ρ g.fix H r H') .ret a' w' := by
    cases hres : resV g s' rs with
    | none => rw [hres] at hr; exact hr.elim
    | some r0 =>
      rw [hres] at hr
      obtain ⟨y, h1, h2⟩ := res_sound (C := C) hg h' hrs hres
      simp only [okIds, Bool.and_eq_true] at hok
      obtain ⟨⟨o1, o2⟩, o3⟩ := hok
      have o1 := Nat.eq_of_beq_eq_true o1
      have hy := VEq_sound hr h1
      simp only [freshAll, Bool.and_eq_true, List.all_eq_true] at hfr'
      have hrho : ∀ i, i < H'.length → ρ' (nth ids i) = (fun i => ρ' (nth ids i)) i := fun _ _ => rfl
      have hex : ∀ i, i < H'.length → ∃ c, H'[i]? = some c ∧ ∃ c0, (nth ids i, c0) ∈ s'.H ∧ ChEq c0 (c.map (ren0 ids)) := fun i hi => by
        obtain ⟨c0, k1, k2⟩ := rnH_mem o1 hH' (List.getElem?_eq_getElem hi)
        exact ⟨_, List.getElem?_eq_getElem hi, c0, k1, k2⟩
      refine ⟨h'.defers, y, h2, y, fun i => ρ' (nth ids i), F', rfl, h'.keep, ?_, fun k hk => ?_, h'.lt, h'.sub, ?_, ?_, ?_⟩
      · intro i hi
        show ρ' (nth ids i) = ρ i
        rw [idB_sound o3 i hi, Nat.zero_add]
        exact h'.fixd.2 i hi
      · exact h'.base k hk
      · exact R3.unren hrho (hfr'.1 r (by simp)) hy
      · refine ⟨fun i c hc => ?_, fun i j b hi hj hij e => ?_, fun i b hi e => ?_⟩
        · have hi := (List.getElem?_eq_some_iff.1 hc).1
          obtain ⟨c', hc', c0, k1, k2⟩ := hex i hi
          rw [hc] at hc'
          obtain rfl := Option.some.inj hc'
          exact ChOK.unren hrho hi (hfr'.2 c (List.mem_of_getElem? hc)).1 (ChEq_sound k2 (h'.ch _ _ k1))
        · obtain ⟨_, _, c0, k1, _⟩ := hex i hi
          obtain ⟨_, _, c1, k3, _⟩ := hex j hj
          exact fun e2 => h'.sep _ _ c0 c1 b k1 k3 (nodupB_sound o2 i j (by omega) (by omega) hij) (bks_main e) (bks_main e2)
        · obtain ⟨_, _, c0, k1, _⟩ := hex i hi
          exact h'.out _ c0 b k1 (bks_main e)
      · intro i b hi e
        obtain ⟨_, _, c0, k1, _⟩ := hex i hi
        exact h'.mine _ c0 b k1 (bks_main e)
  rcases he with rfl | rfl
  · exact key
  · exact key
end
end Go.Sx
