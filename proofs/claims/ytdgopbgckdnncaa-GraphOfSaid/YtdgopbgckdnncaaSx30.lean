/-
  Sx, part 30: slices of slices that grow: a row is taken out, a row is put back; rows that are written no more.
-/
import Derived.Test.YtdgopbgckdnncaaSx29
set_option linter.unusedVariables false
set_option linter.unusedSimpArgs false
namespace Go.Sx

def kindSl : TK → Bool
  | .slice _ => true
  | _ => false

/-- A row's header is read: the row is taken out as a chunk of its own. -/
def rowLd (g : Cfg) (s : St) (o : Oper) : Option (St × Prop) :=
  match o.guard, o.dst, o.op with
  | none, some d, .load t x => match ev s.L [] x, lk g t with
    | some (.vptr id 1 k 0), some ti => match get s.H id with
      | some (.rows e e' sz n none hs m f) => bif Nat.blt d g.n && kindSl ti.kind then
          some (⟨put s.L d (.own s.m), (s.m, .vec e' sz (m k) (f k)) :: (id, .rows e e' sz n (some k) hs m f) :: delH id s.H, s.m + 1⟩, k < n) else none
      | _ => none
    | _, _ => none
  | _, _, _ => none

/-- A row is put back at its place. -/
def rowSt (g : Cfg) (s : St) (o : Oper) : Option ((Value → St) × Prop) :=
  match o.guard, o.dst, o.op with
  | none, none, .store t p x => match ev s.L [] p, ev s.L [] x, lk g t with
    | some (.vptr id 1 k 0), some (.own id2), some ti => match get s.H id, get s.H id2 with
      | some (.rows e e' sz n (some k0) hs m f), some (.vec e2 sz2 n2 f2) => bif kindSl ti.kind && Nat.beq ti.size 1 && Nat.beq e' e2 && Nat.beq sz sz2 && !(Nat.beq id id2) then
          some (fun v => ⟨mapL (kill id2) s.L, (id, .rows e e' sz n none (fun i => if i = k0 then v else hs i) (fun i => if i = k0 then n2 else m i) fun i => if i = k0 then f2 else f i) :: mapH (kill id2) (delH id (delH id2 s.H)), s.m⟩, k = k0 ∧ k0 < n) else none
      | _, _ => none
    | _, _, _ => none
  | _, _, _ => none

section
variable {C : Ctx} {s : St} {a : Act} {w w' : World} {ρ : Nat → Value} {F : Nat → Prop} {g : Cfg} {K : List Item} {Φ : Exit → St → Prop}

/-- A chunk whose blocks lie among those of the chunks that are no more. -/
theorem SatW.addOld (h : SatW C s a w ρ F) {x : Value} {c : Ch} (hb : ∀ b, bks (upd ρ s.m x) s.m c b → ¬ F b ∧ (C.w0.heap.size ≤ b ∨ C.E b) ∧ ∀ i ci, (i, ci) ∈ s.H → ¬ bks ρ i ci b) (hc : ChOK (upd ρ s.m x) F w s.m c) (hcf : c.all (fresh (s.m + 1)) = true) :
    SatW C { L := s.L, H := (s.m, c) :: s.H, m := s.m + 1 } a w (upd ρ s.m x) F := by
  have hρ : ∀ id, id ≠ s.m → upd ρ s.m x id = ρ id := fun id hid => by simp [upd, hid]
  have h1 : SatW C { L := s.L, H := s.H, m := s.m + 1 } a w (upd ρ s.m x) F := by
    refine h.change (fun u => u) (fun u v hu hr => hr.keep hρ (fun _ => id) (fun _ _ => rfl) (fresh_names (Nat.le_refl _) hu)) (fun t v hv => ⟨⟨v, hv, (map4_id v).symm⟩, all4_imp (fun u hu => fresh_mono (Nat.le_succ _) hu) (h.freshL t v hv)⟩) (fun i c hc => ?_) (fun _ => id) (fun _ _ => rfl) h.lt h.keep (Nat.le_succ _) h.sub (fun i hi => by have := h.fixd.1; rw [hρ i (by omega)]; exact h.fixd.2 i hi)
    obtain ⟨h2, h3⟩ := h.freshH i c hc
    exact ⟨⟨c, hc, (chmap_id c).symm⟩, chall_imp (fun u hu => fresh_mono (Nat.le_succ _) hu) h3, hρ i (by omega), fun b e => ⟨rfl, h.out i c b hc e⟩⟩
  refine h1.addCh hc (fun b e => ?_) (Nat.lt_succ_self _) hcf (fun b e => (hb b e).2.1)
  refine ⟨(hb b e).1, fun i ci hi hne e2 => ?_⟩
  rw [bks_congr (hρ i hne)] at e2
  exact (hb b e).2.2 i ci hi e2

theorem Go.loadRow (hg : TysOK C.P g.tys) (hn : g.n = C.n) {all : Array Oper} {o : Oper} {rest : List Oper} {s' : St} {p : Prop} (hr : rowLd g s o = some (s', p)) (hp : p) (kk : Go C (.ops all rest :: K) s' Φ) : Go C (.ops all (o :: rest) :: K) s Φ := by
  rintro a w ⟨ρ, F, h⟩
  unfold rowLd at hr
  split at hr
  · rename_i d t x hgd hd hop
    split at hr
    · rename_i id k ti hev hlk
      split at hr
      · rename_i e e' sz n hs m f hgH
        cases hb : (Nat.blt d g.n && kindSl ti.kind) with
        | false => rw [hb] at hr; simp at hr
        | true =>
          rw [hb] at hr
          simp only [cond_true, Option.some.injEq, Prod.mk.injEq] at hr
          obtain ⟨rfl, rfl⟩ := hr
          simp only [Bool.and_eq_true] at hb
          obtain ⟨xs, h1, h2, h3, h4⟩ := h.ch id _ (get_mem hgH)
          obtain ⟨bl, hbl, hv⟩ := (show R0 ρ F w (.vptr id 1 k 0) _ from (ev_sound h (pc_nil _) hev).1)
          obtain ⟨hx, ys, h5, h6⟩ := h2 k hp (by simp)
          have hcell : w.cell? ⟨bl, k * 1 + 0, none⟩ = some (hs k) := by
            have := h1.cells (g := bl) (by
              rcases h1.2 with ⟨e1, _⟩ | ⟨b, cap, cur, e1, _⟩
              · rw [e1] at hbl; simp [blk] at hbl
              · rw [e1] at hbl ⊢; simp [blk] at hbl; subst hbl; rfl) k _ hx
            rw [Addr.add_lit] at this
            simpa using this
          have hti := lk_ok hg hlk
          have hagg : isAggK ti.kind = false := by
            have := hb.2
            unfold kindSl at this
            split at this
            · rename_i hk; rw [hk]; rfl
            · cases this
          have hrun : (execOp a.eval o).run C.P w = .ok (.value (hs k)) w := by
            simp only [execOp, hop, hv]
            refine run_v ?_
            simp only [Instr.loadAt, Instr.sureAddr, Sem.run_bind, Sem.run_pure, Result.andThen, loadVar, run_isAgg hti, hagg, Bool.false_eq_true, if_false, run_load, hcell]
          refine ops_next hgd (.inl hrun) ?_
          rw [hd]
          have hmem := get_mem hgH
          have ht := h.touch (c' := .rows e e' sz n (some k) hs m f) hmem (w' := w) ⟨rfl, rfl, rfl, Nat.le_refl _, fun _ _ _ => rfl⟩ ⟨xs, h1, fun i hi hh => h2 i hi (by simp), fun i b hi hh => h3 i b hi (by simp), fun i j b hi hj hhi hhj => h4 i j b hi hj (by simp) (by simp)⟩ rfl
            (fun b e => by
              rcases e with e | ⟨i, hi, hh, e⟩
              · exact .inl e
              · exact .inr ⟨i, hi, by simp, e⟩)
          have hin : ∀ b, blk (hs k) = some b → bks ρ id (.rows e e' sz n none hs m f) b := fun b e => .inr ⟨k, hp, by simp, e⟩
          have ha := ht.addOld (x := hs k) (c := .vec e' sz (m k) (f k)) (fun b e => ?_) ⟨ys, by rw [upd_same]; exact h5, h6⟩ rfl
          · refine kk _ _ ⟨_, _, (ha.put (d := d) (v := .own s.m) (x := hs k) (by rw [← hn]; simpa using hb.1) ⟨(upd_same ρ s.m _).symm, ?_⟩ (by show Nat.blt s.m (s.m + 1) = true; simp))⟩
            rw [upd_same]
            rcases h5.2 with ⟨e1, _⟩ | ⟨b, cap, cur, e1, _⟩
            · exact ⟨_, _, _, e1⟩
            · exact ⟨_, _, _, e1⟩
          · have eb : blk (hs k) = some b := by
              have e0 : blk (upd ρ s.m (hs k) s.m) = some b := e
              rwa [upd_same] at e0
            refine ⟨h.out id _ b hmem (hin b eb), h.mine id _ b hmem (hin b eb), fun i ci hi e2 => ?_⟩
            rcases List.mem_cons.1 hi with e3 | hi
            · obtain ⟨rfl, rfl⟩ := Prod.mk.inj e3
              rcases e2 with e2 | ⟨j, hj, hh, e2⟩
              · exact h3 k b hp (by simp) eb e2
              · exact h4 k j b hp hj (by simp) (by simp) (fun e5 => hh (by rw [e5])) eb e2
            · obtain ⟨hi, hne⟩ := mem_delH hi
              exact h.sep id i _ ci b hmem hi (Ne.symm hne) (hin b eb) e2
      · simp at hr
    · simp at hr
  · simp at hr

theorem Go.storeRow (hg : TysOK C.P g.tys) {all : Array Oper} {o : Oper} {rest : List Oper} {fs : Value → St} {p : Prop} (hr : rowSt g s o = some (fs, p)) (hp : p) (kk : ∀ v, Go C (.ops all rest :: K) (fs v) Φ) : Go C (.ops all (o :: rest) :: K) s Φ := by
  rintro a w ⟨ρ, F, h⟩
  unfold rowSt at hr
  split at hr
  · rename_i t pp xx hgd hd hop
    split at hr
    · rename_i id k id2 ti hev hev2 hlk
      split at hr
      · rename_i e e' sz n k0 hs m f e2 sz2 n2 f2 hgH hgH2
        cases hb : (kindSl ti.kind && Nat.beq ti.size 1 && Nat.beq e' e2 && Nat.beq sz sz2 && !(Nat.beq id id2)) with
        | false => rw [hb] at hr; simp at hr
        | true =>
          rw [hb] at hr
          simp only [cond_true, Option.some.injEq, Prod.mk.injEq] at hr
          obtain ⟨rfl, rfl⟩ := hr
          obtain ⟨rfl, hkn⟩ := hp
          simp only [Bool.and_eq_true, Bool.not_eq_true'] at hb
          obtain ⟨⟨⟨⟨b1, b2⟩, b3⟩, b4⟩, b5⟩ := hb
          have b2 := Nat.eq_of_beq_eq_true b2
          have b3 := Nat.eq_of_beq_eq_true b3
          have b4 := Nat.eq_of_beq_eq_true b4
          subst b3 b4
          have hne : id ≠ id2 := fun e => by rw [e] at b5; simp at b5
          have hm1 := get_mem hgH
          have hm2 := get_mem hgH2
          obtain ⟨xs, h1, h2, h3, h4⟩ := h.ch id _ hm1
          obtain ⟨ys, o1, o2⟩ := h.ch id2 _ hm2
          obtain ⟨bl, hbl, hv⟩ := (show R0 ρ F w (.vptr id 1 k 0) _ from (ev_sound h (pc_nil _) hev).1)
          obtain ⟨hx1, ad, sl, sc, hx2⟩ := (show R0 ρ F w (.own id2) _ from (ev_sound h (pc_nil _) hev2).1)
          have hti := lk_ok hg hlk
          have hcells : (ρ id2).cells = #[ρ id2] := by rw [hx2]; rfl
          rcases h1.2 with ⟨i1, i2⟩ | ⟨b', cap, cur, i1, i2, hheap, hnc, hcm, hcs, htk⟩
          · rw [i1] at hbl; simp [blk] at hbl
          have hbb : b' = bl := by rw [i1] at hbl; simpa [blk] using hbl
          subst hbb
          have hheap' : w.heap[b']? = some (.cells cur.toList.toArray e (0, 0)) := by simpa using hheap
          have hcl : cur.toList.length = cur.size := Array.length_toList
          have hxl := h1.1
          have hrun := store_run (P := C.P) hti (x := ρ id2) (cs := cur.toList) (o := k) (by rw [hcells, b2]; rfl) (by rw [hcells]; intro c hc; simp at hc; rw [hc, hx2]; rfl) hheap' (by rw [b2]; omega)
          rw [hcells] at hrun
          generalize hw' : w.setRow b' _ = w' at hrun
          have hw2 : w' = w.setRow b' (cur.toList.take k ++ [ρ id2] ++ cur.toList.drop (k + 1)).toArray := hw'.symm
          have hblt : b' < w.heap.size := (Array.getElem?_eq_some_iff.1 hheap).1
          have hm : Mod (some b') w w' := by rw [hw2]; exact mod_setRow hblt
          have hheap2 : w'.heap[b']? = some (.cells (cur.toList.take k ++ [ρ id2] ++ cur.toList.drop (k + 1)).toArray e (0, 0)) := by
            rw [hw2]
            exact setRow_heap w b' _ _ e (0, 0) hheap
          have hwF : ∀ k, F k → w'.heap[k]? = w.heap[k]? := fun k hk => hm.block k (h.lt k hk) (fun e => h.out id _ k hm1 (.inl (by rw [i1, ← Option.some.inj e]; rfl)) hk)
          have hsame : ∀ j c b, (j, c) ∈ s.H → j ≠ id → bks ρ j c b → w'.heap[b]? = w.heap[b]? := fun j c b hj hje e =>
            hm.block b ((h.ch j c hj).lt e) (fun e2 => h.sep id j _ c b hm1 hj (Ne.symm hje) (.inl (by rw [i1, ← Option.some.inj e2]; rfl)) e)
          have hrun2 : (execOp a.eval o).run C.P w = .ok .skip w' := by
            simp only [execOp, hop, hv, hx1, Sem.run_bind]
            rw [show (⟨b', k * 1 + 0, none⟩ : Addr) = ⟨b', k, none⟩ by simp]
            rw [hrun]
            rfl
          refine ops_next (x := undef) hgd (.inr ⟨hrun2, rfl⟩) ?_
          rw [hd]
          have hA : SatW C { L := mapL (kill id2) s.L, H := mapH (kill id2) (delH id (delH id2 s.H)), m := s.m } a w' ρ F := by
            refine h.change (kill id2) (fun u v hu hr => hr.kill (fun _ _ => rfl) (fun _ => _root_.id) hwF) (fun t v hv => ?_) (fun i ci hci => ?_) (fun _ => _root_.id) hwF (fun k hk => Nat.lt_of_lt_of_le (h.lt k hk) hm.size) (h.keeps (by rw [i1]; exact hm) (fun b e => h.mine id _ b hm1 (.inl e))) (Nat.le_refl _) h.sub (fun i hi => h.fixd.2 i hi)
            · obtain ⟨v0, h2, rfl⟩ := mem_mapL hv
              exact ⟨⟨v0, h2, rfl⟩, kill4_fresh (h.freshL t v0 h2)⟩
            · obtain ⟨c0, h2, rfl⟩ := mem_mapH hci
              obtain ⟨h2, hne1⟩ := mem_delH h2
              obtain ⟨h2, hne2⟩ := mem_delH h2
              exact ⟨⟨c0, h2, rfl⟩, killC_fresh (h.freshH i c0 h2).2, rfl, fun b e => by rw [bks_map] at e; exact ⟨hsame i c0 b h2 hne1 e, h.out i c0 b h2 e⟩⟩
          have hown2 : ∀ b, blk (ρ id2) = some b → bks ρ id2 (.vec e' sz n2 f2) b := fun b e => e
          have hrow : ∀ j b, j < n → j ≠ k → blk (hs j) = some b → bks ρ id (.rows e e' sz n (some k) hs m f) b := fun j b hj hjk e => .inr ⟨j, hj, fun e2 => hjk (Option.some.inj e2).symm, e⟩
          have hsp : ∀ j b, j < n → j ≠ k → blk (hs j) = some b → blk (ρ id2) ≠ some b := fun j b hj hjk e e2 =>
            h.sep id id2 _ _ b hm1 hm2 hne (hrow j b hj hjk e) (hown2 b e2)
          refine kk (ρ id2) _ w' ⟨ρ, F, hA.addCh (c := .rows e e' sz n none (fun i => if i = k then ρ id2 else hs i) (fun i => if i = k then n2 else m i) fun i => if i = k then f2 else f i) ?_ ?_ (h.freshH id _ hm1).1 rfl ?_⟩
          · refine ⟨xs.take k ++ [ρ id2] ++ xs.drop (k + 1), ⟨?_, .inr ⟨b', cap, _, i1, i2, hheap2, hnc, hcm, ?_, ?_⟩⟩, fun i hi _ => ?_, fun i b hi _ e => ?_, fun i j b hi hj _ _ hij e => ?_⟩
            · have := splice_len (xs := xs) (ys := [ρ id2]) (o := k) (by rw [hxl]; simp; omega)
              simp only [List.length_singleton] at this
              rw [this, hxl]
            · have := splice_len (xs := cur.toList) (ys := [ρ id2]) (o := k) (by simp; omega)
              simp only [List.length_singleton] at this
              rw [List.size_toArray, this, hcl]; exact hcs
            · have := splice_take (xs := cur.toList) (ys := [ρ id2]) (o := k) (N := n * 1) (by simp; omega) (by omega)
              simp only [List.length_singleton] at this
              rw [List.toList_toArray, this, htk]
            · have hget := splice_get (xs := xs) (ys := [ρ id2]) (o := k) (by rw [hxl]; simp; omega) i
              simp only [List.length_singleton] at hget
              by_cases hik : i = k
              · subst hik
                simp only [if_true]
                refine ⟨?_, ys, ownsRow_keep o1 (fun b e => hsame id2 _ b hm2 (Ne.symm hne) (hown2 b e)), o2.keep (fun _ => _root_.id) hwF⟩
                rw [hget, if_pos ⟨Nat.le_refl _, Nat.lt_succ_self _⟩]; simp
              · simp only [if_neg hik]
                obtain ⟨j1, zs, j2, j3⟩ := h2 i hi (fun e2 => hik (Option.some.inj e2).symm)
                refine ⟨by rw [hget, if_neg (by omega)]; exact j1, zs, ownsRow_keep j2 (fun b e => hm.block b (by
                  rcases j2.2 with ⟨e2, _⟩ | ⟨_, _, _, e2, _, e3, _⟩
                  · rw [e2] at e; simp [blk] at e
                  · rw [e2] at e; simp [blk] at e; subst e; exact (Array.getElem?_eq_some_iff.1 e3).1) (fun e2 => h3 i b hi (fun e3 => hik (Option.some.inj e3).symm) e (by rw [i1, ← Option.some.inj e2]; rfl))), j3.keep (fun _ => _root_.id) hwF⟩
            · by_cases hik : i = k
              · simp only [if_pos hik] at e
                exact fun e2 => h.sep id id2 _ _ b hm1 hm2 hne (.inl e2) (hown2 b e)
              · simp only [if_neg hik] at e
                exact h3 i b hi (fun e3 => hik (Option.some.inj e3).symm) e
            · by_cases hik : i = k
              · simp only [if_pos hik] at e
                have hjk : j ≠ k := fun e2 => hij (hik.trans e2.symm)
                simp only [if_neg hjk]
                exact fun e2 => hsp j b hj hjk e2 e
              · simp only [if_neg hik] at e
                by_cases hjk : j = k
                · simp only [if_pos hjk]
                  exact hsp i b hi hik e
                · simp only [if_neg hjk]
                  exact h4 i j b hi hj (fun e3 => hik (Option.some.inj e3).symm) (fun e3 => hjk (Option.some.inj e3).symm) hij e
          · rintro b (e | ⟨j, hj, _, e⟩)
            · refine ⟨h.out id _ b hm1 (.inl e), fun i ci hi hne3 e2 => ?_⟩
              obtain ⟨c0, h2', rfl⟩ := mem_mapH hi
              rw [bks_map] at e2
              exact h.sep id i _ c0 b hm1 (mem_delH (mem_delH h2').1).1 (Ne.symm hne3) (.inl e) e2
            · by_cases hjk : j = k
              · simp only [if_pos hjk] at e
                refine ⟨h.out id2 _ b hm2 (hown2 b e), fun i ci hi hne3 e2 => ?_⟩
                obtain ⟨c0, h2', rfl⟩ := mem_mapH hi
                rw [bks_map] at e2
                have hd2 := mem_delH (mem_delH h2').1
                exact h.sep id2 i _ c0 b hm2 hd2.1 (Ne.symm hd2.2) (hown2 b e) e2
              · simp only [if_neg hjk] at e
                refine ⟨h.out id _ b hm1 (hrow j b hj hjk e), fun i ci hi hne3 e2 => ?_⟩
                obtain ⟨c0, h2', rfl⟩ := mem_mapH hi
                rw [bks_map] at e2
                exact h.sep id i _ c0 b hm1 (mem_delH (mem_delH h2').1).1 (Ne.symm hne3) (hrow j b hj hjk e) e2
          · rintro b (e | ⟨j, hj, _, e⟩)
            · exact h.mine id _ b hm1 (.inl e)
            · by_cases hjk : j = k
              · simp only [if_pos hjk] at e
                exact h.mine id2 _ b hm2 (hown2 b e)
              · simp only [if_neg hjk] at e
                exact h.mine id _ b hm1 (hrow j b hj hjk e)
      · simp at hr
    · simp at hr
  · simp at hr

theorem sl_of_own {F' : Nat → Prop} {e : TypeId} {sz n : Nat} {f : Nat → List D} {v : Value} {xs : List Value} (hown : w.ownsRow 0 e sz v n xs) (hel : Elems F w sz n f xs) (hFF : ∀ k, F k → F' k) (hb : ∀ b, blk v = some b → F' b) : RD F' w (.sl sz n f) v := by
  rcases hown.2 with ⟨h1, h2⟩ | ⟨b, cap, cur, h1, _, h3, h4, h5, h6, h7⟩
  · subst h2; rw [h1]; exact .emp _ _ _ _
  · rw [h1]
    refine .sl sz n f b 0 cap (fun i j => (xs[i * sz + j]?).getD undef) (hb b (by rw [h1]; rfl)) h4 (fun i j hi hj => ?_) (fun i hi => (hel i hi).1) (fun i j d hi hd => ?_)
    · have hl := (hel i hi).1
      obtain ⟨c, c1, c2⟩ := (hel i hi).2 j _ (List.getElem?_eq_getElem (show j < (f i).length by omega))
      have := hown.cells (g := b) (by rw [h1]; rfl) _ _ c1
      rw [Addr.add_lit] at this
      rw [this, c1]; rfl
    · obtain ⟨c, c1, c2⟩ := (hel i hi).2 j d hd
      rw [c1]
      exact RD.mono hFF (fun _ _ => rfl) c2

/-- Rows that are written no more: a slice of data. -/
def closed (s : St) (id : Nat) : St :=
  match get s.H id with
  | some (.rows e e' sz n none hs m f) => ⟨s.L, (id, .vec e 1 n fun i => [.sl sz (m i) (f i)]) :: delH id s.H, s.m⟩
  | _ => s

theorem Go.close (id : Nat) (k : Go C K (closed s id) Φ) : Go C K s Φ := by
  rintro a w ⟨ρ, F, h⟩
  refine k a w ?_
  unfold closed
  split
  · rename_i e e' sz n hs m f hgH
    have hm1 := get_mem hgH
    obtain ⟨xs, h1, h2, h3, h4⟩ := h.ch id _ hm1
    let F' : Nat → Prop := fun b => F b ∨ ∃ k, k < n ∧ blk (hs k) = some b
    have hFF : ∀ k, F k → F' k := fun k hk => .inl hk
    have hin : ∀ k b, k < n → blk (hs k) = some b → bks ρ id (.rows e e' sz n none hs m f) b := fun k b hk e => .inr ⟨k, hk, by simp, e⟩
    have hA : SatW C { L := s.L, H := delH id s.H, m := s.m } a w ρ F' := by
      refine h.change (fun u => u) (fun u v hu hr => hr.keep (x := s.m) (fun _ _ => rfl) hFF (fun _ _ => rfl) (fresh_names (Nat.le_refl _) hu)) (fun t v hv => ⟨⟨v, hv, (map4_id v).symm⟩, h.freshL t v hv⟩) (fun i ci hci => ?_) hFF (fun _ _ => rfl) (fun b hb => ?_) h.keep (Nat.le_refl _) (fun b hb => ?_) h.fixd.2
      · obtain ⟨hci, hne⟩ := mem_delH hci
        refine ⟨⟨ci, hci, (chmap_id ci).symm⟩, (h.freshH i ci hci).2, rfl, fun b e => ⟨rfl, ?_⟩⟩
        rintro (hb | ⟨k, hk, hb⟩)
        · exact h.out i ci b hci e hb
        · exact h.sep i id ci _ b hci hm1 hne e (hin k b hk hb)
      · rcases hb with hb | ⟨k, hk, hb⟩
        · exact h.lt b hb
        · exact (h.ch id _ hm1).lt (hin k b hk hb)
      · rcases hb with hb | ⟨k, hk, hb⟩
        · exact h.sub b hb
        · exact .inr (h.mine id _ b hm1 (hin k b hk hb))
    refine ⟨ρ, F', hA.addCh (c := .vec e 1 n fun i => [.sl sz (m i) (f i)]) ⟨xs, h1, fun k hk => ⟨rfl, fun j d hj => ?_⟩⟩ (fun b e => ⟨?_, fun i ci hci hne e2 => ?_⟩) (h.freshH id _ hm1).1 rfl (fun b e => h.mine id _ b hm1 (.inl e))⟩
    · obtain ⟨h5, ys, h6, h7⟩ := h2 k hk (by simp)
      cases j with
      | zero =>
        simp at hj
        subst hj
        exact ⟨hs k, by rw [← h5]; congr 1; omega, sl_of_own h6 h7 hFF fun b hb => .inr ⟨k, hk, hb⟩⟩
      | succ j => simp at hj
    · rintro (hb | ⟨k, hk, hb⟩)
      · exact h.out id _ b hm1 (.inl e) hb
      · exact h3 k b hk (by simp) hb e
    · exact h.sep id i _ ci b hm1 (mem_delH hci).1 (Ne.symm hne) (.inl e) e2
  · exact ⟨ρ, F, h⟩

/-- A nil slice in a box is an owned one of no elements. -/
theorem Go.ownBox (id o : Nat) (e : TypeId) (sz : Nat) (f : Nat → List D) {us us' : List V} (hb : get s.H id = some (.box us)) (ho : us[o]? = some .nils) (hs : setL us o [.own s.m] = some us') (k : Go C K ⟨s.L, (id, .box us') :: delH id ((s.m, .vec e sz 0 f) :: s.H), s.m + 1⟩ Φ) : Go C K s Φ := by
  rintro a w ⟨ρ, F, h⟩
  have hm1 := get_mem hb
  have hlt := (h.freshH id _ hm1).1
  have hn := h.new (w' := w) (x := .slice none 0 0) (c := .vec e sz 0 f) ⟨rfl, rfl, rfl, Nat.le_refl _, fun _ _ _ => rfl⟩ (fun b hb => by simp [blk] at hb) ⟨[], ⟨by simp, .inl ⟨upd_same _ _ _, rfl⟩⟩, fun i hi => absurd hi (Nat.not_lt_zero _)⟩ rfl
  have hm2 : (id, Ch.box us) ∈ ((s.m, Ch.vec e sz 0 f) :: s.H) := List.mem_cons_of_mem _ hm1
  obtain ⟨b, ys, T, hb', hheap, hus⟩ := hn.ch id _ hm2
  obtain ⟨y, hy, hr⟩ := hus.get ho
  obtain rfl : y = .slice none 0 0 := hr
  have hty := setL_all2 (R := R1 (upd ρ s.m (.slice none 0 0)) F w) hs hus (ys := [.slice none 0 0]) ⟨⟨(upd_same _ _ _).symm, by rw [upd_same]; exact ⟨_, _, _, rfl⟩⟩, trivial⟩
  have hyl : o < ys.length := (List.getElem?_eq_some_iff.1 hy).1
  have heq : ys.take o ++ [.slice none 0 0] ++ ys.drop (o + [Value.slice none 0 0].length) = ys := by
    apply List.ext_getElem?
    intro j
    rw [splice_get (by simp; omega)]
    split
    · rename_i hj
      simp only [List.length_singleton] at hj
      obtain rfl : j = o := by omega
      rw [hy]; simp
    · rfl
  rw [heq] at hty
  have := hn.touch (c' := .box us') hm2 (w' := w) ⟨rfl, rfl, rfl, Nat.le_refl _, fun _ _ _ => rfl⟩ ⟨b, ys, T, hb', hheap, hty⟩ (all_setL hs (by simpa [Ch.all] using (hn.freshH id _ hm2).2) (by simp [V.all1, fresh]))
  exact k a w ⟨_, _, this⟩
end

namespace Cx
variable {P : Pg} {g : Cfg} {C : Ctx} (x : Cx P g C) {s s' s1 : St} {K K' : List Item} {Φ : Exit → St → Prop} {ob : List Prop}
include x
theorem loadRow {all : Array Oper} {o : Oper} {rest : List Oper} {p : Prop} (h : run g 1000 K s [] = .op ob all o rest K' s1) (ho : AllP ob) (hr : rowLd g s1 o = some (s', p)) (hp : p) (k : Go C (.ops all rest :: K') s' Φ) : Go C K s Φ :=
  x.op h ho (Go.loadRow x.ty x.n hr hp k)
theorem storeRow {all : Array Oper} {o : Oper} {rest : List Oper} {p : Prop} {fs : Value → St} (h : run g 1000 K s [] = .op ob all o rest K' s1) (ho : AllP ob) (hr : rowSt g s1 o = some (fs, p)) (hp : p) (k : ∀ v, Go C (.ops all rest :: K') (fs v) Φ) : Go C K s Φ :=
  x.op h ho (Go.storeRow x.ty hr hp k)
end Cx
end Go.Sx
