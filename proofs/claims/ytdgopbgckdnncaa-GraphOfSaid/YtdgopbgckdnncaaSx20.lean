/-
  Sx, part 20: the theorem on calls.
-/
import Derived.Test.YtdgopbgckdnncaaSx19
set_option linter.unusedVariables false
set_option linter.unusedSimpArgs false
namespace Go.Sx
section
variable {C : Ctx} {s : St} {a : Act} {w w' : World} {ρ : Nat → Value} {F : Nat → Prop} {g : Cfg}

theorem R0.killIn {xs : List Nat} {m : Nat} {ρ' : Nat → Value} {F' : Nat → Prop} (hρ : ∀ i, i < m → i ∉ xs → ρ' i = ρ i) (hF : ∀ k, F k → F' k) (hw : ∀ k, F k → w'.heap[k]? = w.heap[k]?) {u : V} {v : Value} (hf : fresh m u = true) (h : R0 ρ F w u v) : R0 ρ' F' w' (killIn xs u) v := by
  have one := h.one'
  have go : ∀ id, Nat.blt id m = true → inL id xs = false → ρ' id = ρ id := fun id h1 h2 => hρ id (by simpa using h1) (fun hm => by rw [inL_iff.2 hm] at h2; cases h2)
  cases u with
  | ptr i o =>
    simp only [Sx.killIn]
    cases hi : inL i xs with
    | true => exact one
    | false => obtain ⟨b, h1, h2⟩ := h; exact ⟨b, by rw [go i hf hi]; exact h1, h2⟩
  | own i =>
    simp only [Sx.killIn]
    cases hi : inL i xs with
    | true => exact one
    | false => obtain ⟨h1, h2⟩ := h; exact ⟨by rw [go i hf hi]; exact h1, by rw [go i hf hi]; exact h2⟩
  | vptr i z k o =>
    simp only [Sx.killIn]
    cases hi : inL i xs with
    | true => exact one
    | false => obtain ⟨b, h1, h2⟩ := h; exact ⟨b, by rw [go i hf hi]; exact h1, h2⟩
  | d x => exact R0.world hF hw h
  | eptr ds => exact R0.world (u := .eptr ds) hF hw h
  | nils => exact h
  | dead => exact h
  | _ => exact h.elim

/-- What a call leaves, in the caller's state. -/
theorem SatW.called (h : SatW C s a w ρ F) (hfxg : g.fix = C.fix) {is : List Nat} {fix : Nat} {H H' : List Ch} {r : V} {e : Ending}
    (hok : okIs g s.m is fix H.length = true) (hH : HLE s.H (rnH is is H)) (hle : H.length ≤ H'.length) (hfr : freshAll [r] H' H'.length = true)
    (hpost : Post w F (fun i => ρ (nth is i)) fix H r H' e w') :
    ∃ v ρ' F', e = .returned v ∧ R3 ρ' F' w' (r.map3 (ren0 (app2 is (newIds s.m (H'.length - is.length))))) v ∧ (r.map3 (ren0 (app2 is (newIds s.m (H'.length - is.length))))).all3 (fresh (s.m + (H'.length - is.length))) = true ∧
      SatW C { L := mapL (killIn (dropN fix is)) s.L, H := app2 (rnH (app2 is (newIds s.m (H'.length - is.length))) (app2 is (newIds s.m (H'.length - is.length))) H') (mapH (killIn (dropN fix is)) (delAll is s.H)), m := s.m + (H'.length - is.length) } a w' ρ' F' := by
  obtain ⟨v, ρc, F', he, hkeep, hfix, hFF, hlt, hsub, hr, hhold, hmine⟩ := hpost
  simp only [okIs, Bool.and_eq_true, List.all_eq_true] at hok
  obtain ⟨⟨⟨o1, o2⟩, o3⟩, o4⟩ := hok
  have hisl := Nat.eq_of_beq_eq_true o4
  have o2' : ∀ i ∈ is, i < s.m := fun i hi => by simpa using o2 i hi
  have o3' : ∀ i ∈ dropN fix is, C.fix ≤ i := fun i hi => by rw [← hfxg]; simpa using o3 i hi
  generalize hn : H'.length - is.length = n
  generalize hids : app2 is (newIds s.m n) = ids
  have hidl : ids.length = H'.length := by rw [← hids, app2_eq, List.length_append, newIds_len]; omega
  have hmem : ∀ x, x ∈ ids ↔ x ∈ is ∨ (s.m ≤ x ∧ x < s.m + n) := fun x => by rw [← hids, app2_eq, List.mem_append, newIds_mem]
  have hidm : ∀ x ∈ ids, x < s.m + n := fun x hx => by
    rcases (hmem x).1 hx with h1 | h1
    · have := o2' x h1; omega
    · exact h1.2
  have hleft : ∀ i, i < is.length → nth ids i = nth is i := fun i hi => by rw [← hids]; exact nth_app_left hi
  have hnodup : ∀ i j, i < ids.length → j < ids.length → i ≠ j → nth ids i ≠ nth ids j := by
    have hright : ∀ n m i, i < n → nth (newIds m n) i = m + i := by
      intro n
      induction n with
      | zero => intro m i hi; omega
      | succ n ih =>
        intro m i hi
        cases i with
        | zero => rfl
        | succ i => simp only [newIds, nth]; rw [ih (m + 1) i (by omega)]; omega
    have hr2 : ∀ i, is.length ≤ i → i < ids.length → nth ids i = s.m + (i - is.length) := by
      intro i h1 h2
      have e1 := nth_get h2
      rw [← hids, app2_eq, List.getElem?_append_right h1] at e1
      have hlen : i - is.length < (newIds s.m n).length := by rw [newIds_len]; omega
      rw [nth_get hlen] at e1
      have e2 := Option.some.inj e1
      rw [show is ++ newIds s.m n = ids by rw [← app2_eq]; exact hids] at e2
      rw [← e2, hright n s.m _ (by rw [newIds_len] at hlen; exact hlen)]
    intro i j hi hj hij e
    by_cases h1 : i < is.length
    · by_cases h2 : j < is.length
      · rw [hleft i h1, hleft j h2] at e
        exact nodupB_sound o1 i j h1 h2 hij e
      · rw [hleft i h1, hr2 j (by omega) hj] at e
        have := o2' _ (nth_mem h1)
        omega
    · by_cases h2 : j < is.length
      · rw [hleft j h2, hr2 i (by omega) hi] at e
        have := o2' _ (nth_mem h2)
        omega
      · rw [hr2 i (by omega) hi, hr2 j (by omega) hj] at e
        omega
  let ρ' : Nat → Value := fun x => match pos ids x with | some i => ρc i | none => ρ x
  have hρn : ∀ i, i < ids.length → ρ' (nth ids i) = ρc i := fun i hi => by simp only [ρ', pos_nth hnodup hi]
  have hρo : ∀ x, x ∉ ids → ρ' x = ρ x := fun x hx => by simp only [ρ', pos_none hx]
  have hρk : ∀ i, i < H'.length → ρ' (nth ids i) = ρc i := fun i hi => hρn i (by omega)
  -- the passed chunks in the caller
  have hpass : ∀ p, p < is.length → ∃ c0, (nth is p, c0) ∈ s.H := fun p hp => by
    obtain ⟨c0, k1, _⟩ := rnH_mem hisl hH (List.getElem?_eq_getElem (show p < H.length by omega))
    exact ⟨c0, k1⟩
  have hE : ∀ b, ownB (fun i => ρ (nth is i)) H b → ∃ p c0, p < is.length ∧ (nth is p, c0) ∈ s.H ∧ bks ρ (nth is p) c0 b := fun b hb => by
    obtain ⟨p, hp, hb⟩ := hb
    obtain ⟨c0, k1⟩ := hpass p (by omega)
    exact ⟨p, c0, by omega, k1, bks_main hb⟩
  have hwF : ∀ k, F k → w'.heap[k]? = w.heap[k]? := fun k hk => hkeep.block k (h.lt k hk) (fun hb => by
    obtain ⟨p, c0, hp, k1, k2⟩ := hE k hb
    exact h.out _ c0 k k1 k2 hk)
  have hkeepC : Keeps C.w0 C.E w' := ⟨hkeep.os.trans h.keep.os, hkeep.tape.trans h.keep.tape, hkeep.output.trans h.keep.output, Nat.le_trans h.keep.size hkeep.size, fun k hk hne => by
    refine (hkeep.block k (Nat.lt_of_lt_of_le hk h.keep.size) (fun hb => ?_)).trans (h.keep.block k hk hne)
    obtain ⟨p, c0, hp, k1, k2⟩ := hE k hb
    rcases h.mine _ c0 k k1 k2 with h1 | h1
    · omega
    · exact hne h1⟩
  have hfixρ : ∀ i, i < C.fix → ρ' i = C.ρ0 i := fun i hi => by
    by_cases hm : i ∈ ids
    · rcases (hmem i).1 hm with h1 | h1
      · obtain ⟨p, hp, rfl⟩ : ∃ p, p < is.length ∧ nth is p = i := by
          obtain ⟨p, hp⟩ := List.getElem?_of_mem h1
          have hlt := (List.getElem?_eq_some_iff.1 hp).1
          rw [nth_get hlt] at hp
          exact ⟨p, hlt, Option.some.inj hp⟩
        have hpf : p < fix := by
          rcases Nat.lt_or_ge p fix with h2 | h2
          · exact h2
          · have : nth is p ∈ dropN fix is := by
              rw [dropN_eq]
              have h3 : (is.drop fix)[p - fix]? = some (nth is p) := by
                rw [List.getElem?_drop, show fix + (p - fix) = p by omega]; exact nth_get hp
              exact List.mem_of_getElem? h3
            have := o3' _ this
            omega
        have e5 := hρn p (by omega)
        rw [hleft p hp] at e5
        rw [e5, hfix p hpf]
        exact h.fixd.2 _ hi
      · have := h.fixd.1; omega
    · rw [hρo i hm]; exact h.fixd.2 i hi
  have hother : ∀ {i : Nat} {c : Ch}, (i, c) ∈ s.H → i ∉ is → i ∉ ids := fun hic hni hm => by
    rcases (hmem _).1 hm with h1 | h1
    · exact hni h1
    · have := (h.freshH _ _ hic).1; omega
  have hA : SatW C { L := mapL (killIn (dropN fix is)) s.L, H := mapH (killIn (dropN fix is)) (delAll is s.H), m := s.m + n } a w' ρ' F' := by
    refine h.change (killIn (dropN fix is)) (fun u v hu hr => R0.killIn (m := s.m) (fun i hi hni => ?_) hFF hwF hu hr) (fun t v hv => ?_) (fun i c hc => ?_) hFF hwF hlt hkeepC (by omega) (fun k hk => ?_) hfixρ
    · by_cases hm : i ∈ ids
      · rcases (hmem i).1 hm with h1 | h1
        · obtain ⟨p, hp⟩ := List.getElem?_of_mem h1
          have hlt := (List.getElem?_eq_some_iff.1 hp).1
          rw [nth_get hlt] at hp
          obtain rfl := Option.some.inj hp
          have hpf : p < fix := by
            rcases Nat.lt_or_ge p fix with h2 | h2
            · exact h2
            · refine (hni ?_).elim
              rw [dropN_eq]
              have h3 : (is.drop fix)[p - fix]? = some (nth is p) := by
                rw [List.getElem?_drop, show fix + (p - fix) = p by omega]; exact nth_get hlt
              exact List.mem_of_getElem? h3
          rw [← hleft p hlt, hρn p (by omega), hfix p hpf, hleft p hlt]
        · omega
      · exact hρo i hm
    · obtain ⟨v0, h1, rfl⟩ := mem_mapL hv
      exact ⟨⟨v0, h1, rfl⟩, killIn4_fresh (by omega) (h.freshL t v0 h1)⟩
    · obtain ⟨c0, h1, rfl⟩ := mem_mapH hc
      obtain ⟨h1, h2⟩ := delAll_mem h1
      refine ⟨⟨c0, h1, rfl⟩, killInC_fresh (by omega) (h.freshH i c0 h1).2, hρo i (hother h1 h2), fun b e => by rw [bks_map] at e; exact ⟨hkeep.block b ((h.ch i c0 h1).lt e) (fun hb => by
        obtain ⟨p, c1, hp, k1, k2⟩ := hE b hb
        exact h.sep i (nth is p) c0 c1 b h1 k1 (fun e2 => h2 (by rw [e2]; exact nth_mem hp)) e k2), fun hb => by
        rcases hsub b hb with h3 | h3 | h3
        · exact h.out i c0 b h1 e h3
        · have := (h.ch i c0 h1).lt e; omega
        · obtain ⟨p, c1, hp, k1, k2⟩ := hE b h3
          exact h.sep i (nth is p) c0 c1 b h1 k1 (fun e2 => h2 (by rw [e2]; exact nth_mem hp)) e k2⟩⟩
    · rcases hsub k hk with h1 | h1 | h1
      · exact h.sub k h1
      · exact .inr (.inl (Nat.le_trans h.keep.size h1))
      · obtain ⟨p, c0, hp, k1, k2⟩ := hE k h1
        rcases h.mine _ c0 k k1 k2 with h2 | h2
        · exact .inr (.inl h2)
        · exact .inr (.inr h2)
  simp only [freshAll, Bool.and_eq_true, List.all_eq_true] at hfr
  have hfrm : ∀ i, i < H'.length → nth ids i < s.m + n := fun i hi => hidm _ (nth_mem (by omega))
  refine ⟨v, ρ', F', he, ?_, ren_fresh3 hfrm (hfr.1 r (by simp)), ?_⟩
  · have := R3.map (p := fresh H'.length) (k := ren0 ids) (ρ' := ρ') (F' := F') (w' := w') (fun u x hu hr => R0.ren hρk hu hr) (hfr.1 r (by simp)) hr
    exact this
  · have split : ∀ {i : Nat} {c : Ch}, (i, c) ∈ app2 (rnH ids ids H') (mapH (killIn (dropN fix is)) (delAll is s.H)) → (∃ p c0, p < H'.length ∧ nth ids p = i ∧ H'[p]? = some c0 ∧ c = c0.map (ren0 ids)) ∨ (i, c) ∈ mapH (killIn (dropN fix is)) (delAll is s.H) := by
      intro i c hic
      rw [app2_eq, List.mem_append] at hic
      rcases hic with h1 | h1
      · obtain ⟨p, c0, p1, p2, p3, p4⟩ := rnH_of_mem h1
        exact .inl ⟨p, c0, by omega, p2, p3, p4⟩
      · exact .inr h1
    have hnewblk : ∀ p b, p < H'.length → blk (ρc p) = some b → (w.heap.size ≤ b ∨ ownB (fun i => ρ (nth is i)) H b) := fun p b hp e => hmine p b hp e
    have hcross : ∀ {p i : Nat} {c : Ch} {b : Nat}, p < H'.length → (i, c) ∈ mapH (killIn (dropN fix is)) (delAll is s.H) → blk (ρc p) = some b → ¬ bks ρ' i c b := by
      intro p i c b hp hic e e2
      obtain ⟨c0, h1, rfl⟩ := mem_mapH hic
      obtain ⟨h1, h2⟩ := delAll_mem h1
      rw [bks_congr (hρo i (hother h1 h2)), bks_map] at e2
      rcases hnewblk p b hp e with h3 | h3
      · have := (h.ch i c0 h1).lt e2; omega
      · obtain ⟨q, c1, hq, k1, k2⟩ := hE b h3
        exact h.sep i (nth is q) c0 c1 b h1 k1 (fun e3 => h2 (by rw [e3]; exact nth_mem hq)) e2 k2
    exact { size := hA.size, defers := hA.defers, slot := hA.slot, freshL := hA.freshL, lt := hA.lt, sub := hA.sub, base := hA.base, fixd := hA.fixd, keep := hA.keep, env := hA.env
            ch := fun i c hic => by
              rcases split hic with ⟨p, c0, p1, rfl, p3, rfl⟩ | h1
              · exact ChOK.ren hρk p1 (hfr.2 c0 (List.mem_of_getElem? p3)).1 (hhold.ch p c0 p3)
              · exact hA.ch i c h1
            sep := fun i j ci cj b hi hj hij e => by
              rcases split hi with ⟨p, c0, p1, rfl, p3, rfl⟩ | h1
              · have e := bks_plain (by rw [plain_map]; exact (hfr.2 c0 (List.mem_of_getElem? p3)).2) e
                rw [hρk p p1] at e
                rcases split hj with ⟨q, c1, q1, rfl, q3, rfl⟩ | h2
                · intro e2
                  have e2 := bks_plain (by rw [plain_map]; exact (hfr.2 c1 (List.mem_of_getElem? q3)).2) e2
                  rw [hρk q q1] at e2
                  exact hhold.sep p q b p1 q1 (fun e2 => hij (by rw [e2])) e e2
                · exact hcross p1 h2 e
              · rcases split hj with ⟨q, c1, q1, rfl, q3, rfl⟩ | h2
                · intro e2
                  have e2 := bks_plain (by rw [plain_map]; exact (hfr.2 c1 (List.mem_of_getElem? q3)).2) e2
                  rw [hρk q q1] at e2
                  exact hcross q1 h1 e2 e
                · exact hA.sep i j ci cj b h1 h2 hij e
            out := fun i c b hi e => by
              rcases split hi with ⟨p, c0, p1, rfl, p3, rfl⟩ | h1
              · have e := bks_plain (by rw [plain_map]; exact (hfr.2 c0 (List.mem_of_getElem? p3)).2) e
                rw [hρk p p1] at e; exact hhold.out p b p1 e
              · exact hA.out i c b h1 e
            freshH := fun i c hi => by
              rcases split hi with ⟨p, c0, p1, rfl, p3, rfl⟩ | h1
              · exact ⟨hfrm p p1, ren_freshC hfrm (hfr.2 c0 (List.mem_of_getElem? p3)).1⟩
              · exact hA.freshH i c h1
            mine := fun i c b hi e => by
              rcases split hi with ⟨p, c0, p1, rfl, p3, rfl⟩ | h1
              · have e := bks_plain (by rw [plain_map]; exact (hfr.2 c0 (List.mem_of_getElem? p3)).2) e
                rw [hρk p p1] at e
                rcases hnewblk p b p1 e with h3 | h3
                · exact .inl (Nat.le_trans h.keep.size h3)
                · obtain ⟨q, c1, hq, k1, k2⟩ := hE b h3
                  exact h.mine _ c1 b k1 k2
              · exact hA.mine i c b h1 e }

theorem run_call {P : Program} {a : Act} {o : Oper} {c : Call} {fo : Operand} (hop : o.op = .call c) (hc : c.callee = .value fo) {f : FuncId} {cs : Array Value} (hf : a.eval fo = .func (.func f) #[] cs) (hcall : Callable P f) (w : World) :
    (execOp a.eval o).run P w = .ok (.enter f (c.args.map a.eval ++ cs)) w := by
  obtain ⟨fn, h1, h2, h3⟩ := hcall
  have hb : fn.body.isNone = false := by cases hh : fn.body <;> simp_all
  simp only [execOp, hop, resolve, hc, hf, Deferred.ofValue, Sem.run_bind, Sem.run_pure, Result.andThen, invoke, callFunc, program]
  simp [Sem.run, h1, h3, hb]

theorem AEq_sound : ∀ {us vs : List V} {cs : List Value}, AEq us vs → All2 (R3 ρ F w) us cs → All2 (R3 ρ F w) vs cs
  | [], [], _, _, hr => hr
  | u :: us, v :: vs, c :: cs, h, hr => ⟨VEq_sound h.1 hr.1, AEq_sound h.2 hr.2⟩
  | u :: us, v :: vs, [], h, hr => hr.elim
  | [], _ :: _, _, h, _ => h.elim
  | _ :: _, [], _, h, _ => h.elim

theorem All2.app {α β : Type} {R : α → β → Prop} : ∀ {as cs : List α} {bs ds : List β}, All2 R as bs → All2 R cs ds → All2 R (as ++ cs) (bs ++ ds)
  | [], _, [], _, _, h => h
  | _ :: _, _, _ :: _, _, h1, h2 => ⟨h1.1, All2.app h1.2 h2⟩
  | [], _, _ :: _, _, h, _ => h.elim
  | _ :: _, _, [], _, h, _ => h.elim

/-- A call, carried out in a world. -/
theorem call_run (h : SatW C s a w ρ F) (hfxg : g.fix = C.fix) {q : List (Nat × Bool)} (hq : pcA a.tmps q) {o : Oper} {f : FuncId} {A : List V} (hco : callOf s.L q o = some (f, A))
    {is : List Nat} {fix : Nat} {args : List V} {H H' : List Ch} {r : V} (hp : Proc C.pg f fix args H r H') (hA : AEq A (args.map (V.map3 (ren0 is)))) (hok : okIs g s.m is fix H.length = true) (hH : HLE s.H (rnH is is H)) :
    ∃ vals, (execOp a.eval o).run C.P w = .ok (.enter f vals) w ∧ Calls C.P f vals w (fun e w' => ∃ v ρ' F', e = .returned v ∧ R3 ρ' F' w' (r.map3 (ren0 (app2 is (newIds s.m (H'.length - is.length))))) v ∧ (r.map3 (ren0 (app2 is (newIds s.m (H'.length - is.length))))).all3 (fresh (s.m + (H'.length - is.length))) = true ∧
      SatW C { L := mapL (killIn (dropN fix is)) s.L, H := app2 (rnH (app2 is (newIds s.m (H'.length - is.length))) (app2 is (newIds s.m (H'.length - is.length))) H') (mapH (killIn (dropN fix is)) (delAll is s.H)), m := s.m + (H'.length - is.length) } a w' ρ' F') := by
  obtain ⟨hcall, hfr, hfr', hfx, hHH, hcalls⟩ := hp
  unfold callOf at hco
  split at hco
  · rename_i c hop
    split at hco
    · rename_i fo hc
      split at hco
      · rename_i f' caps A' he hes
        simp only [Option.some.injEq, Prod.mk.injEq] at hco
        obtain ⟨rfl, rfl⟩ := hco
        obtain ⟨cs, hcs, hcaps⟩ := (show R1 ρ F w (.fn f' caps) _ from (ev_sound h hq he).1)
        have hargs := (evs_sound h hq hes).1
        have hok' := hok
        simp only [okIs, Bool.and_eq_true, List.all_eq_true] at hok
        obtain ⟨⟨⟨o1, o2⟩, o3⟩, o4⟩ := hok
        have hisl := Nat.eq_of_beq_eq_true o4
        simp only [freshAll, Bool.and_eq_true, List.all_eq_true] at hfr
        have hvals : c.args.map a.eval ++ cs.toArray = (c.args.toList.map a.eval ++ cs).toArray := by
          cases c.args; simp
        have hall : All2 (R3 ρ F w) (A' ++ caps) (c.args.toList.map a.eval ++ cs) := hargs.app (hcaps.mono fun u v hr => R3_of (R2_of (R1_of hr)))
        have hall2 := AEq_sound hA hall
        have hall3 : All2 (R3 (fun i => ρ (nth is i)) F w) args (c.args.toList.map a.eval ++ cs) := hall2.unmap fun u v hu hr => R3.unren (k := H.length) (fun _ _ => rfl) (hfr.1 u hu) hr
        have hold : Holds (fun i => ρ (nth is i)) F w H := by
          have hx : ∀ i, i < H.length → ∃ c, H[i]? = some c ∧ ∃ c0, (nth is i, c0) ∈ s.H ∧ ChEq c0 (c.map (ren0 is)) := fun i hi => by
            obtain ⟨c0, k1, k2⟩ := rnH_mem hisl hH (List.getElem?_eq_getElem hi)
            exact ⟨_, List.getElem?_eq_getElem hi, c0, k1, k2⟩
          refine ⟨fun i c hc => ?_, fun i j b hi hj hij e => ?_, fun i b hi e => ?_⟩
          · have hi := (List.getElem?_eq_some_iff.1 hc).1
            obtain ⟨c', hc', c0, k1, k2⟩ := hx i hi
            rw [hc] at hc'
            obtain rfl := Option.some.inj hc'
            exact ChOK.unren (k := H.length) (ρ := fun i => ρ (nth is i)) (fun _ _ => rfl) hi (hfr.2 c (List.mem_of_getElem? hc)).1 (ChEq_sound k2 (h.ch _ _ k1))
          · obtain ⟨_, _, c0, k1, _⟩ := hx i hi
            obtain ⟨_, _, c1, k3, _⟩ := hx j hj
            exact fun e2 => h.sep _ _ c0 c1 b k1 k3 (nodupB_sound o1 i j (by omega) (by omega) hij) (bks_main e) (bks_main e2)
          · obtain ⟨_, _, c0, k1, _⟩ := hx i hi
            exact h.out _ c0 b k1 (bks_main e)
        refine ⟨_, run_call hop hc hcs hcall w, ?_⟩
        rw [hvals]
        exact (hcalls w F _ _ h.lt h.env hold hall3).mono fun e w' hpost => SatW.called h hfxg hok' hH hHH hfr' hpost
      · simp at hco
    · simp at hco
  · simp at hco

variable {K : List Item} {Φ : Exit → St → Prop}

/-- **A CALL, BY ITS CONTRACT.** -/
theorem Go.call (hn : g.n = C.n) (hfxg : g.fix = C.fix) {all : Array Oper} {o : Oper} {rest : List Oper} (is : List Nat) {fix : Nat} {args : List V} {H H' : List Ch} {r : V} {f : FuncId} {A : List V} {d : Nat}
    (hp : Proc C.pg f fix args H r H') (hgd : o.guard = none) (hd : o.dst = some d) (hdn : Nat.blt d g.n = true) (hco : callOf s.L [] o = some (f, A)) (hA : AEq A (args.map (V.map3 (ren0 is)))) (hok : okIs g s.m is fix H.length = true) (hH : HLE s.H (rnH is is H))
    (k : Go C (.ops all rest :: K) (after s d is fix r H' []) Φ) : Go C (.ops all (o :: rest) :: K) s Φ := by
  rintro a w ⟨ρ, F, h⟩
  obtain ⟨vals, h1, h2⟩ := call_run h hfxg (pc_nil _) hco hp hA hok hH
  show wpList C.P all (den C (conc C Φ) K) (o :: rest) a w
  refine wpList_plain hgd fun N hN => ?_
  unfold Oper.wp
  rw [h1, Oper.upon_enter]
  refine h2.mono ?_
  rintro e w' ⟨v, ρ', F', rfl, r1, r2, r3⟩
  refine hN _ _ ?_
  rw [hd]
  exact k _ _ ⟨ρ', F', r3.put (by rw [← hn]; simpa using hdn) r1 r2⟩

/-- A call under a guard, of a function that keeps to itself: its contract is wanted where the guard holds. -/
theorem Go.callG (hn : g.n = C.n) (hfxg : g.fix = C.fix) {all : Array Oper} {o : Oper} {rest : List Oper} {args : List V} {r : V} {f : FuncId} {A : List V} {d j : Nat} {u : Bool} {q : List (Nat × Bool)}
    (hgd : o.guard = some (j, u)) (hgp : gpath s.L all j u = some q) (hd : o.dst = some d) (hdn : (Nat.blt d g.n && !(q.any fun e => Nat.beq e.1 d) && r.all3 (fresh 0)) = true) (hco : callOf s.L q o = some (f, A))
    (hp : imp s.L q (Pure C.pg f args r [])) (hA : AEq A (args.map (V.map3 (ren0 [])))) (hok : okIs g s.m [] 0 0 = true)
    (k : Go C (.ops all rest :: K) { s with L := put s.L d (.g q r) } Φ) : Go C (.ops all (o :: rest) :: K) s Φ := by
  rintro a w ⟨ρ, F, h⟩
  simp only [Bool.and_eq_true, Bool.not_eq_true'] at hdn
  obtain ⟨⟨b1, b2⟩, b3⟩ := hdn
  have hgs := gpath_sound h hgp
  have hwant : Region.wanted o (yielded all a.tmps) = true ↔ pcA a.tmps q := by rw [← hgs]; simp [Region.wanted, hgd]
  show wpList C.P all (den C (conc C Φ) K) (o :: rest) a w
  refine wpList_step fun N hN => ?_
  cases hw : Region.wanted o (yielded all a.tmps) with
  | true =>
    have hpc := hwant.1 hw
    have hp := imp_sound h hpc hp
    obtain ⟨vals, h1, h2⟩ := call_run h hfxg hpc hco hp hA hok trivial
    simp only [if_true]
    unfold Oper.wp
    rw [h1, Oper.upon_enter]
    refine h2.mono ?_
    rintro e w' ⟨v, ρ', F', rfl, r1, r2, r3⟩
    refine hN _ _ ?_
    rw [hd]
    have hr0 : ∀ u v, fresh 0 u = true → R0 ρ' F' w' (ren0 ([] : List Nat) u) v → R0 ρ' F' w' u v := fun u v hu hr => by cases u <;> first | exact hr | simp [fresh] at hu
    have r1' : R3 ρ' F' w' r v := R3.unren (ρ := ρ') (k := 0) (fun i hi => by omega) b3 r1
    have hid : mapL (killIn (dropN 0 [])) s.L = s.L := by
      have hk : (killIn (dropN 0 ([] : List Nat))) = fun u => u := by funext u; cases u <;> rfl
      rw [hk]
      have : ∀ L, mapL (fun u => u) L = L := fun L => by induction L with
        | nil => rfl
        | cons e L ih => simp [mapL, map4_id, ih]
      exact this _
    have hidH : mapH (killIn (dropN 0 [])) (delAll [] s.H) = s.H := by
      have hk : (killIn (dropN 0 ([] : List Nat))) = fun u => u := by funext u; cases u <;> rfl
      rw [hk]
      have h0 : ∀ H, delAll [] H = H := fun H => by induction H with
        | nil => rfl
        | cons e L ih => simp [delAll, inL, ih]
      have : ∀ L, mapH (fun u => u) L = L := fun L => by induction L with
        | nil => rfl
        | cons e L ih => simp [mapH, chmap_id, ih]
      rw [h0, this]
    have r3' : SatW C s a w' ρ' F' := by
      rw [hid, hidH] at r3
      exact r3
    exact k _ _ ⟨ρ', F', r3'.putS (by rw [← hn]; simpa using b1) ⟨fun _ => r1', fun hno => (hno ((pcA_put b2).2 hpc)).elim⟩ (all3_imp (fun u hu => fresh_mono (Nat.zero_le _) hu) b3)⟩
  | false =>
    simp only [Bool.false_eq_true, if_false]
    have hpc : ¬ pcA a.tmps q := fun hc => by rw [hwant.2 hc] at hw; cases hw
    refine hN _ _ ?_
    rw [hd]
    exact k _ _ ⟨ρ, F, h.putS (by rw [← hn]; simpa using b1) ⟨fun hc => (hpc ((pcA_put b2).1 hc)).elim, fun _ => rfl⟩ (all3_imp (fun u hu => fresh_mono (Nat.zero_le _) hu) b3)⟩
end
end Go.Sx
