/-
  Sx, part 23: calls under a guard, over chunks of ours that they only read.
-/
import Derived.Test.YtdgopbgckdnncaaSx22
set_option linter.unusedVariables false
set_option linter.unusedSimpArgs false
namespace Go.Sx
section
variable {C : Ctx} {s : St} {a : Act} {w : World} {ρ : Nat → Value} {F : Nat → Prop} {g : Cfg} {K : List Item} {Φ : Exit → St → Prop}

theorem SatW.leH {H' : List (Nat × Ch)} (h : SatW C s a w ρ F) (hH : HLE s.H H') (hok : okH s.m H' = true) : SatW C { s with H := H' } a w ρ F := by
  exact
    { size := h.size, defers := h.defers, slot := h.slot, freshL := h.freshL, lt := h.lt, sub := h.sub, base := h.base, fixd := h.fixd, keep := h.keep, env := h.env
      ch := fun i c hc => by
        obtain ⟨u, hu, he⟩ := HLE_mem hH hc
        exact ChEq_sound he (h.ch i u hu)
      sep := fun i j ci cj b hi hj hij e => by
        obtain ⟨u, hu, he⟩ := HLE_mem hH hi
        obtain ⟨u2, hu2, he2⟩ := HLE_mem hH hj
        exact fun e2 => h.sep i j u u2 b hu hu2 hij (ChEq_bks he e) (ChEq_bks he2 e2)
      out := fun i c b hi e => by
        obtain ⟨u, hu, he⟩ := HLE_mem hH hi
        exact h.out i u b hu (ChEq_bks he e)
      freshH := fun i c hi => okH_mem hok hi
      mine := fun i c b hi e => by
        obtain ⟨u, hu, he⟩ := HLE_mem hH hi
        exact h.mine i u b hu (ChEq_bks he e) }

theorem mapL_id (L : List (Nat × V)) : mapL (killIn []) L = L := by
  have hk : (killIn ([] : List Nat)) = fun u => u := by funext u; cases u <;> rfl
  rw [hk]
  induction L with
  | nil => rfl
  | cons e L ih => simp [mapL, map4_id, ih]
theorem mapH_id (L : List (Nat × Ch)) : mapH (killIn []) L = L := by
  have hk : (killIn ([] : List Nat)) = fun u => u := by funext u; cases u <;> rfl
  rw [hk]
  induction L with
  | nil => rfl
  | cons e L ih => simp [mapH, chmap_id, ih]

/-- A call under a guard that only reads chunks of ours. -/
theorem Go.callGH (hn : g.n = C.n) (hfxg : g.fix = C.fix) {all : Array Oper} {o : Oper} {rest : List Oper} (is : List Nat) {fix : Nat} {args : List V} {H : List Ch} {r : V} {f : FuncId} {A : List V} {d j : Nat} {u : Bool} {q : List (Nat × Bool)}
    (hgd : o.guard = some (j, u)) (hgp : gpath s.L all j u = some q) (hd : o.dst = some d) (hdn : (Nat.blt d g.n && !(q.any fun e => Nat.beq e.1 d) && r.all3 (fresh 0)) = true) (hco : callOf s.L q o = some (f, A))
    (hp : imp s.L q (Proc C.pg f fix args H r H)) (hdr : dropN fix is = []) (hA : AEq A (args.map (V.map3 (ren0 is)))) (hok : okIs g s.m is fix H.length = true) (hH : HLE s.H (rnH is is H)) (hH' : HLE (app2 (rnH is is H) (delAll is s.H)) s.H) (hoH : okH s.m s.H = true)
    (k : Go C (.ops all rest :: K) { s with L := put s.L d (.g q r) } Φ) : Go C (.ops all (o :: rest) :: K) s Φ := by
  rintro a w ⟨ρ, F, h⟩
  simp only [Bool.and_eq_true, Bool.not_eq_true'] at hdn
  obtain ⟨⟨b1, b2⟩, b3⟩ := hdn
  have hgs := gpath_sound h hgp
  have hwant : Region.wanted o (yielded all a.tmps) = true ↔ pcA a.tmps q := by rw [← hgs]; simp [Region.wanted, hgd]
  show wpList C.P all (den C (conc C Φ) K) (o :: rest) a w
  refine wpList_step fun N hN => ?_
  cases hw : Region.wanted o (yielded all a.tmps) with
  | true =>
    have hpc := hwant.1 hw
    have hp := imp_sound h hpc hp
    obtain ⟨vals, h1, h2⟩ := call_run h hfxg hpc hco hp hA hok hH
    simp only [if_true]
    unfold Oper.wp
    rw [h1, Oper.upon_enter]
    refine h2.mono ?_
    rintro e w' ⟨v, ρ', F', rfl, r1, r2, r3⟩
    refine hN _ _ ?_
    rw [hd]
    have hl : is.length = H.length := by
      simp only [okIs, Bool.and_eq_true] at hok
      exact Nat.eq_of_beq_eq_true hok.2
    have hids : app2 is (newIds s.m (H.length - is.length)) = is := by
      rw [hl, Nat.sub_self]
      show app2 is [] = is
      rw [app2_eq, List.append_nil]
    have r1' : R3 ρ' F' w' r v := by
      have hid : (r.map3 (ren0 (app2 is (newIds s.m (H.length - is.length))))) = r.map3 (ren0 []) := by
        have e0 : ∀ (js : List Nat) (u : V), fresh 0 u = true → ren0 js u = ren0 [] u := fun js u hu => by cases u <;> first | rfl | simp [fresh] at hu
        have e1 : ∀ (js : List Nat) (u : V), u.all1 (fresh 0) = true → u.map1 (ren0 js) = u.map1 (ren0 []) := fun js u hu => by
          cases u with
          | fn f c => simp only [V.map1, V.fn.injEq, true_and]; exact List.map_congr_left fun x hx => e0 js x (by simpa using (List.all_eq_true.1 hu) x hx)
          | _ => (first | exact e0 js (.d _) hu | exact e0 js .nils hu | exact e0 js (.ptr _ _) hu | exact e0 js (.own _) hu | exact e0 js (.vptr _ _ _ _) hu | exact e0 js (.eptr _) hu | exact e0 js (.fn _ _) hu | exact e0 js (.agg _) hu | exact e0 js (.tup _) hu | exact e0 js (.g _ _) hu | exact e0 js .dead hu)
        have e2 : ∀ (js : List Nat) (u : V), u.all2 (fresh 0) = true → u.map2 (ren0 js) = u.map2 (ren0 []) := fun js u hu => by
          cases u with
          | agg c => simp only [V.map2, V.agg.injEq]; exact List.map_congr_left fun x hx => e1 js x (by simpa using (List.all_eq_true.1 hu) x hx)
          | _ => (first | exact e1 js (.d _) hu | exact e1 js .nils hu | exact e1 js (.ptr _ _) hu | exact e1 js (.own _) hu | exact e1 js (.vptr _ _ _ _) hu | exact e1 js (.eptr _) hu | exact e1 js (.fn _ _) hu | exact e1 js (.agg _) hu | exact e1 js (.tup _) hu | exact e1 js (.g _ _) hu | exact e1 js .dead hu)
        cases r with
        | tup c => simp only [V.map3, V.tup.injEq]; exact List.map_congr_left fun x hx => e2 _ x (by simpa using (List.all_eq_true.1 b3) x hx)
        | _ => (first | rfl | exact e2 _ (.d _) b3 | exact e2 _ .nils b3 | exact e2 _ (.ptr _ _) b3 | exact e2 _ (.own _) b3 | exact e2 _ (.vptr _ _ _ _) b3 | exact e2 _ (.eptr _) b3 | exact e2 _ (.fn _ _) b3 | exact e2 _ (.agg _) b3 | exact e2 _ (.tup _) b3 | exact e2 _ (.g _ _) b3 | exact e2 _ .dead b3)
      rw [hid] at r1
      exact R3.unren (ρ := ρ') (is := []) (k := 0) (fun i hi => by omega) b3 r1
    have r3' : SatW C s a w' ρ' F' := by
      rw [hdr, mapL_id, mapH_id, hids, hl, Nat.sub_self] at r3
      exact r3.leH hH' hoH
    exact k _ _ ⟨ρ', F', r3'.putS (by rw [← hn]; simpa using b1) ⟨fun _ => r1', fun hno => (hno ((pcA_put b2).2 hpc)).elim⟩ (all3_imp (fun u hu => fresh_mono (Nat.zero_le _) hu) b3)⟩
  | false =>
    simp only [Bool.false_eq_true, if_false]
    have hpc : ¬ pcA a.tmps q := fun hc => by rw [hwant.2 hc] at hw; cases hw
    refine hN _ _ ?_
    rw [hd]
    exact k _ _ ⟨ρ, F, h.putS (by rw [← hn]; simpa using b1) ⟨fun hc => (hpc ((pcA_put b2).1 hc)).elim, fun _ => rfl⟩ (all3_imp (fun u hu => fresh_mono (Nat.zero_le _) hu) b3)⟩
end

theorem Cx.callG {P : Pg} {g : Cfg} {C : Ctx} (x : Cx P g C) {s s' : St} {K K' : List Item} {Φ : Exit → St → Prop} {ob : List Prop} (is : List Nat) {all : Array Oper} {o : Oper} {rest : List Oper} {fix : Nat} {args A : List V} {H : List Ch} {r : V} {f d : Nat} {q : List (Nat × Bool)} (h : run g 1000 K s [] = .op ob all o rest K' s') (ho : AllP ob)
    (hco : callInfoG g s' all o = some (f, A, d, q)) (hp : imp s'.L q (Proc P f fix args H r H)) (hr : (r.all3 (fresh 0) && okIs g s'.m is fix H.length && okH s'.m s'.H && List.isEmpty (dropN fix is)) = true) (hA : AEq A (args.map (V.map3 (ren0 is)))) (hH : HLE s'.H (rnH is is H)) (hH' : HLE (app2 (rnH is is H) (delAll is s'.H)) s'.H)
    (k : Go C (.ops all rest :: K') { s' with L := put s'.L d (.g q r) } Φ) : Go C K s Φ := by
  refine st x.ty x.n x.fix h ⟨ho, ?_⟩
  unfold callInfoG at hco
  split at hco
  · rename_i j u d' hg hd
    split at hco
    · rename_i q' hq
      cases hb : (Nat.blt d' g.n && !(q'.any fun e => Nat.beq e.1 d')) with
      | false => rw [hb] at hco; simp at hco
      | true =>
        rw [hb] at hco
        simp only [cond_true] at hco
        split at hco
        · rename_i f' A' hc
          simp only [Option.some.injEq, Prod.mk.injEq] at hco
          obtain ⟨rfl, rfl, rfl, rfl⟩ := hco
          simp only [Bool.and_eq_true, List.isEmpty_iff] at hr
          exact Go.callGH x.n x.fix is hg hq hd (by simp only [Bool.and_eq_true] at hb ⊢; exact ⟨hb, hr.1.1.1⟩) hc (x.prog ▸ hp) hr.2 hA hr.1.1.2 hH hH' hr.1.2 k
        · simp at hco
    · simp at hco
  · simp at hco
end Go.Sx
