/- Texts put together: Sx30, Sx31, Sx32, Sx33, Sx34, Sx35, Sx36, Sx37, Sx38, Sx39. -/
import Derived.Test.YtgnnglfbpcjadaaGreatDoorSxE
import Derived.ScopeJumps
import Derived.OrdersHeld

/-
  Sx, part 30: slices of slices that grow: a row is taken out, a row is put back; rows that are written no more.
-/
set_option linter.unusedVariables false
set_option linter.unusedSimpArgs false
namespace Go.Sx

def kindSl : TK → Bool
  | .slice _ => true
  | _ => false

/-- A row's header is read: the row is taken out as a chunk of its own. -/
def rowLd (g : Cfg) (s : St) (o : Oper) : Option (St × Prop) :=
  match o.guard, o.dst, o.op with
  | none, some d, .load t x => match ev s.L [] x, lk g t with
    | some (.vptr id 1 k 0), some ti => match get s.H id with
      | some (.rows e e' sz n none hs m f) => bif Nat.blt d g.n && kindSl ti.kind then
          some (⟨put s.L d (.own s.m), (s.m, .vec e' sz (m k) (f k)) :: (id, .rows e e' sz n (some k) hs m f) :: delH id s.H, s.m + 1⟩, k < n) else none
      | _ => none
    | _, _ => none
  | _, _, _ => none

/-- A row is put back at its place. -/
def rowSt (g : Cfg) (s : St) (o : Oper) : Option ((Value → St) × Prop) :=
  match o.guard, o.dst, o.op with
  | none, none, .store t p x => match ev s.L [] p, ev s.L [] x, lk g t with
    | some (.vptr id 1 k 0), some (.own id2), some ti => match get s.H id, get s.H id2 with
      | some (.rows e e' sz n (some k0) hs m f), some (.vec e2 sz2 n2 f2) => bif kindSl ti.kind && Nat.beq ti.size 1 && Nat.beq e' e2 && Nat.beq sz sz2 && !(Nat.beq id id2) then
          some (fun v => ⟨mapL (kill id2) s.L, (id, .rows e e' sz n none (fun i => if i = k0 then v else hs i) (fun i => if i = k0 then n2 else m i) fun i => if i = k0 then f2 else f i) :: mapH (kill id2) (delH id (delH id2 s.H)), s.m⟩, k = k0 ∧ k0 < n) else none
      | _, _ => none
    | _, _, _ => none
  | _, _, _ => none

section
variable {C : Ctx} {s : St} {a : Act} {w w' : World} {ρ : Nat → Value} {F : Nat → Prop} {g : Cfg} {K : List Item} {Φ : Exit → St → Prop}

/-- A chunk whose blocks lie among those of the chunks that are no more. -/
theorem SatW.addOld (h : SatW C s a w ρ F) {x : Value} {c : Ch} (hb : ∀ b, bks (upd ρ s.m x) s.m c b → ¬ F b ∧ (C.w0.heap.size ≤ b ∨ C.E b) ∧ ∀ i ci, (i, ci) ∈ s.H → ¬ bks ρ i ci b) (hc : ChOK (upd ρ s.m x) F w s.m c) (hcf : c.all (fresh (s.m + 1)) = true) :
    SatW C { L := s.L, H := (s.m, c) :: s.H, m := s.m + 1 } a w (upd ρ s.m x) F := by
  have hρ : ∀ id, id ≠ s.m → upd ρ s.m x id = ρ id := fun id hid => by simp [upd, hid]
  have h1 : SatW C { L := s.L, H := s.H, m := s.m + 1 } a w (upd ρ s.m x) F := by
    refine h.change (fun u => u) (fun u v hu hr => hr.keep hρ (fun _ => id) (fun _ _ => rfl) (fresh_names (Nat.le_refl _) hu)) (fun t v hv => ⟨⟨v, hv, (map4_id v).symm⟩, all4_imp (fun u hu => fresh_mono (Nat.le_succ _) hu) (h.freshL t v hv)⟩) (fun i c hc => ?_) (fun _ => id) (fun _ _ => rfl) h.lt h.keep (Nat.le_succ _) h.sub (fun i hi => by have := h.fixd.1; rw [hρ i (by omega)]; exact h.fixd.2 i hi)
    obtain ⟨h2, h3⟩ := h.freshH i c hc
    exact ⟨⟨c, hc, (chmap_id c).symm⟩, chall_imp (fun u hu => fresh_mono (Nat.le_succ _) hu) h3, hρ i (by omega), fun b e => ⟨rfl, h.out i c b hc e⟩⟩
  refine h1.addCh hc (fun b e => ?_) (Nat.lt_succ_self _) hcf (fun b e => (hb b e).2.1)
  refine ⟨(hb b e).1, fun i ci hi hne e2 => ?_⟩
  rw [bks_congr (hρ i hne)] at e2
  exact (hb b e).2.2 i ci hi e2

theorem Go.loadRow (hg : TysOK C.P g.tys) (hn : g.n = C.n) {all : Array Oper} {o : Oper} {rest : List Oper} {s' : St} {p : Prop} (hr : rowLd g s o = some (s', p)) (hp : p) (kk : Go C (.ops all rest :: K) s' Φ) : Go C (.ops all (o :: rest) :: K) s Φ := by
  rintro a w ⟨ρ, F, h⟩
  unfold rowLd at hr
  split at hr
  · rename_i d t x hgd hd hop
    split at hr
    · rename_i id k ti hev hlk
      split at hr
      · rename_i e e' sz n hs m f hgH
        cases hb : (Nat.blt d g.n && kindSl ti.kind) with
        | false => rw [hb] at hr; simp at hr
        | true =>
          rw [hb] at hr
          simp only [cond_true, Option.some.injEq, Prod.mk.injEq] at hr
          obtain ⟨rfl, rfl⟩ := hr
          simp only [Bool.and_eq_true] at hb
          obtain ⟨xs, h1, h2, h3, h4⟩ := h.ch id _ (get_mem hgH)
          obtain ⟨bl, hbl, hv⟩ := (show R0 ρ F w (.vptr id 1 k 0) _ from (ev_sound h (pc_nil _) hev).1)
          obtain ⟨hx, ys, h5, h6⟩ := h2 k hp (by simp)
          have hcell : w.cell? ⟨bl, k * 1 + 0, none⟩ = some (hs k) := by
            have := h1.cells (g := bl) (by
              rcases h1.2 with ⟨e1, _⟩ | ⟨b, cap, cur, e1, _⟩
              · rw [e1] at hbl; simp [blk] at hbl
              · rw [e1] at hbl ⊢; simp [blk] at hbl; subst hbl; rfl) k _ hx
            rw [Addr.add_lit] at this
            simpa using this
          have hti := lk_ok hg hlk
          have hagg : isAggK ti.kind = false := by
            have := hb.2
            unfold kindSl at this
            split at this
            · rename_i hk; rw [hk]; rfl
            · cases this
          have hrun : (execOp a.eval o).run C.P w = .ok (.value (hs k)) w := by
            simp only [execOp, hop, hv]
            refine run_v ?_
            simp only [Instr.loadAt, Instr.sureAddr, Sem.run_bind, Sem.run_pure, Result.andThen, loadVar, run_isAgg hti, hagg, Bool.false_eq_true, if_false, run_load, hcell]
          refine ops_next hgd (.inl hrun) ?_
          rw [hd]
          have hmem := get_mem hgH
          have ht := h.touch (c' := .rows e e' sz n (some k) hs m f) hmem (w' := w) ⟨rfl, rfl, rfl, Nat.le_refl _, fun _ _ _ => rfl⟩ ⟨xs, h1, fun i hi hh => h2 i hi (by simp), fun i b hi hh => h3 i b hi (by simp), fun i j b hi hj hhi hhj => h4 i j b hi hj (by simp) (by simp)⟩ rfl
            (fun b e => by
              rcases e with e | ⟨i, hi, hh, e⟩
              · exact .inl e
              · exact .inr ⟨i, hi, by simp, e⟩)
          have hin : ∀ b, blk (hs k) = some b → bks ρ id (.rows e e' sz n none hs m f) b := fun b e => .inr ⟨k, hp, by simp, e⟩
          have ha := ht.addOld (x := hs k) (c := .vec e' sz (m k) (f k)) (fun b e => ?_) ⟨ys, by rw [upd_same]; exact h5, h6⟩ rfl
          · refine kk _ _ ⟨_, _, (ha.put (d := d) (v := .own s.m) (x := hs k) (by rw [← hn]; simpa using hb.1) ⟨(upd_same ρ s.m _).symm, ?_⟩ (by show Nat.blt s.m (s.m + 1) = true; simp))⟩
            rw [upd_same]
            rcases h5.2 with ⟨e1, _⟩ | ⟨b, cap, cur, e1, _⟩
            · exact .inl ⟨_, _, _, e1⟩
            · exact .inl ⟨_, _, _, e1⟩
          · have eb : blk (hs k) = some b := by
              have e0 : blk (upd ρ s.m (hs k) s.m) = some b := e
              rwa [upd_same] at e0
            refine ⟨h.out id _ b hmem (hin b eb), h.mine id _ b hmem (hin b eb), fun i ci hi e2 => ?_⟩
            rcases List.mem_cons.1 hi with e3 | hi
            · obtain ⟨rfl, rfl⟩ := Prod.mk.inj e3
              rcases e2 with e2 | ⟨j, hj, hh, e2⟩
              · exact h3 k b hp (by simp) eb e2
              · exact h4 k j b hp hj (by simp) (by simp) (fun e5 => hh (by rw [e5])) eb e2
            · obtain ⟨hi, hne⟩ := mem_delH hi
              exact h.sep id i _ ci b hmem hi (Ne.symm hne) (hin b eb) e2
      · simp at hr
    · simp at hr
  · simp at hr

theorem Go.storeRow (hg : TysOK C.P g.tys) {all : Array Oper} {o : Oper} {rest : List Oper} {fs : Value → St} {p : Prop} (hr : rowSt g s o = some (fs, p)) (hp : p) (kk : ∀ v, Go C (.ops all rest :: K) (fs v) Φ) : Go C (.ops all (o :: rest) :: K) s Φ := by
  rintro a w ⟨ρ, F, h⟩
  unfold rowSt at hr
  split at hr
  · rename_i t pp xx hgd hd hop
    split at hr
    · rename_i id k id2 ti hev hev2 hlk
      split at hr
      · rename_i e e' sz n k0 hs m f e2 sz2 n2 f2 hgH hgH2
        cases hb : (kindSl ti.kind && Nat.beq ti.size 1 && Nat.beq e' e2 && Nat.beq sz sz2 && !(Nat.beq id id2)) with
        | false => rw [hb] at hr; simp at hr
        | true =>
          rw [hb] at hr
          simp only [cond_true, Option.some.injEq, Prod.mk.injEq] at hr
          obtain ⟨rfl, rfl⟩ := hr
          obtain ⟨rfl, hkn⟩ := hp
          simp only [Bool.and_eq_true, Bool.not_eq_true'] at hb
          obtain ⟨⟨⟨⟨b1, b2⟩, b3⟩, b4⟩, b5⟩ := hb
          have b2 := Nat.eq_of_beq_eq_true b2
          have b3 := Nat.eq_of_beq_eq_true b3
          have b4 := Nat.eq_of_beq_eq_true b4
          subst b3 b4
          have hne : id ≠ id2 := fun e => by rw [e] at b5; simp at b5
          have hm1 := get_mem hgH
          have hm2 := get_mem hgH2
          obtain ⟨xs, h1, h2, h3, h4⟩ := h.ch id _ hm1
          obtain ⟨ys, o1, o2⟩ := h.ch id2 _ hm2
          obtain ⟨bl, hbl, hv⟩ := (show R0 ρ F w (.vptr id 1 k 0) _ from (ev_sound h (pc_nil _) hev).1)
          obtain ⟨hx1, _⟩ := (show R0 ρ F w (.own id2) _ from (ev_sound h (pc_nil _) hev2).1)
          obtain ⟨ad, sl, sc, hx2⟩ : ∃ ad sl sc, ρ id2 = .slice ad sl sc := by rcases o1.2 with ⟨e1, _⟩ | ⟨b, cap, cur, e1, _⟩ <;> exact ⟨_, _, _, e1⟩
          have hti := lk_ok hg hlk
          have hcells : (ρ id2).cells = #[ρ id2] := by rw [hx2]; rfl
          rcases h1.2 with ⟨i1, i2⟩ | ⟨b', cap, cur, i1, i2, hheap, hnc, hcm, hcs, htk⟩
          · rw [i1] at hbl; simp [blk] at hbl
          have hbb : b' = bl := by rw [i1] at hbl; simpa [blk] using hbl
          subst hbb
          have hheap' : w.heap[b']? = some (.cells cur.toList.toArray e (0, 0)) := by simpa using hheap
          have hcl : cur.toList.length = cur.size := Array.length_toList
          have hxl := h1.1
          have hrun := store_run (P := C.P) hti (x := ρ id2) (cs := cur.toList) (o := k) (by rw [hcells, b2]; rfl) (by rw [hcells]; intro c hc; simp at hc; rw [hc, hx2]; rfl) hheap' (by rw [b2]; omega)
          rw [hcells] at hrun
          generalize hw' : w.setRow b' _ = w' at hrun
          have hw2 : w' = w.setRow b' (cur.toList.take k ++ [ρ id2] ++ cur.toList.drop (k + 1)).toArray := hw'.symm
          have hblt : b' < w.heap.size := (Array.getElem?_eq_some_iff.1 hheap).1
          have hm : Mod (some b') w w' := by rw [hw2]; exact mod_setRow hblt
          have hheap2 : w'.heap[b']? = some (.cells (cur.toList.take k ++ [ρ id2] ++ cur.toList.drop (k + 1)).toArray e (0, 0)) := by
            rw [hw2]
            exact setRow_heap w b' _ _ e (0, 0) hheap
          have hwF : ∀ k, F k → w'.heap[k]? = w.heap[k]? := fun k hk => hm.block k (h.lt k hk) (fun e => h.out id _ k hm1 (.inl (by rw [i1, ← Option.some.inj e]; rfl)) hk)
          have hsame : ∀ j c b, (j, c) ∈ s.H → j ≠ id → bks ρ j c b → w'.heap[b]? = w.heap[b]? := fun j c b hj hje e =>
            hm.block b ((h.ch j c hj).lt e) (fun e2 => h.sep id j _ c b hm1 hj (Ne.symm hje) (.inl (by rw [i1, ← Option.some.inj e2]; rfl)) e)
          have hrun2 : (execOp a.eval o).run C.P w = .ok .skip w' := by
            simp only [execOp, hop, hv, hx1, Sem.run_bind]
            rw [show (⟨b', k * 1 + 0, none⟩ : Addr) = ⟨b', k, none⟩ by simp]
            rw [hrun]
            rfl
          refine ops_next (x := undef) hgd (.inr ⟨hrun2, rfl⟩) ?_
          rw [hd]
          have hA : SatW C { L := mapL (kill id2) s.L, H := mapH (kill id2) (delH id (delH id2 s.H)), m := s.m } a w' ρ F := by
            refine h.change (kill id2) (fun u v hu hr => hr.kill (fun _ _ => rfl) (fun _ => _root_.id) hwF) (fun t v hv => ?_) (fun i ci hci => ?_) (fun _ => _root_.id) hwF (fun k hk => Nat.lt_of_lt_of_le (h.lt k hk) hm.size) (h.keeps (by rw [i1]; exact hm) (fun b e => h.mine id _ b hm1 (.inl e))) (Nat.le_refl _) h.sub (fun i hi => h.fixd.2 i hi)
            · obtain ⟨v0, h2, rfl⟩ := mem_mapL hv
              exact ⟨⟨v0, h2, rfl⟩, kill4_fresh (h.freshL t v0 h2)⟩
            · obtain ⟨c0, h2, rfl⟩ := mem_mapH hci
              obtain ⟨h2, hne1⟩ := mem_delH h2
              obtain ⟨h2, hne2⟩ := mem_delH h2
              exact ⟨⟨c0, h2, rfl⟩, killC_fresh (h.freshH i c0 h2).2, rfl, fun b e => by rw [bks_map] at e; exact ⟨hsame i c0 b h2 hne1 e, h.out i c0 b h2 e⟩⟩
          have hown2 : ∀ b, blk (ρ id2) = some b → bks ρ id2 (.vec e' sz n2 f2) b := fun b e => e
          have hrow : ∀ j b, j < n → j ≠ k → blk (hs j) = some b → bks ρ id (.rows e e' sz n (some k) hs m f) b := fun j b hj hjk e => .inr ⟨j, hj, fun e2 => hjk (Option.some.inj e2).symm, e⟩
          have hsp : ∀ j b, j < n → j ≠ k → blk (hs j) = some b → blk (ρ id2) ≠ some b := fun j b hj hjk e e2 =>
            h.sep id id2 _ _ b hm1 hm2 hne (hrow j b hj hjk e) (hown2 b e2)
          refine kk (ρ id2) _ w' ⟨ρ, F, hA.addCh (c := .rows e e' sz n none (fun i => if i = k then ρ id2 else hs i) (fun i => if i = k then n2 else m i) fun i => if i = k then f2 else f i) ?_ ?_ (h.freshH id _ hm1).1 rfl ?_⟩
          · refine ⟨xs.take k ++ [ρ id2] ++ xs.drop (k + 1), ⟨?_, .inr ⟨b', cap, _, i1, i2, hheap2, hnc, hcm, ?_, ?_⟩⟩, fun i hi _ => ?_, fun i b hi _ e => ?_, fun i j b hi hj _ _ hij e => ?_⟩
            · have := splice_len (xs := xs) (ys := [ρ id2]) (o := k) (by rw [hxl]; simp; omega)
              simp only [List.length_singleton] at this
              rw [this, hxl]
            · have := splice_len (xs := cur.toList) (ys := [ρ id2]) (o := k) (by simp; omega)
              simp only [List.length_singleton] at this
              rw [List.size_toArray, this, hcl]; exact hcs
            · have := splice_take (xs := cur.toList) (ys := [ρ id2]) (o := k) (N := n * 1) (by simp; omega) (by omega)
              simp only [List.length_singleton] at this
              rw [List.toList_toArray, this, htk]
            · have hget := splice_get (xs := xs) (ys := [ρ id2]) (o := k) (by rw [hxl]; simp; omega) i
              simp only [List.length_singleton] at hget
              by_cases hik : i = k
              · subst hik
                simp only [if_true]
                refine ⟨?_, ys, ownsRow_keep o1 (fun b e => hsame id2 _ b hm2 (Ne.symm hne) (hown2 b e)), o2.keep (fun _ => _root_.id) hwF⟩
                rw [hget, if_pos ⟨Nat.le_refl _, Nat.lt_succ_self _⟩]; simp
              · simp only [if_neg hik]
                obtain ⟨j1, zs, j2, j3⟩ := h2 i hi (fun e2 => hik (Option.some.inj e2).symm)
                refine ⟨by rw [hget, if_neg (by omega)]; exact j1, zs, ownsRow_keep j2 (fun b e => hm.block b (by
                  rcases j2.2 with ⟨e2, _⟩ | ⟨_, _, _, e2, _, e3, _⟩
                  · rw [e2] at e; simp [blk] at e
                  · rw [e2] at e; simp [blk] at e; subst e; exact (Array.getElem?_eq_some_iff.1 e3).1) (fun e2 => h3 i b hi (fun e3 => hik (Option.some.inj e3).symm) e (by rw [i1, ← Option.some.inj e2]; rfl))), j3.keep (fun _ => _root_.id) hwF⟩
            · by_cases hik : i = k
              · simp only [if_pos hik] at e
                exact fun e2 => h.sep id id2 _ _ b hm1 hm2 hne (.inl e2) (hown2 b e)
              · simp only [if_neg hik] at e
                exact h3 i b hi (fun e3 => hik (Option.some.inj e3).symm) e
            · by_cases hik : i = k
              · simp only [if_pos hik] at e
                have hjk : j ≠ k := fun e2 => hij (hik.trans e2.symm)
                simp only [if_neg hjk]
                exact fun e2 => hsp j b hj hjk e2 e
              · simp only [if_neg hik] at e
                by_cases hjk : j = k
                · simp only [if_pos hjk]
                  exact hsp i b hi hik e
                · simp only [if_neg hjk]
                  exact h4 i j b hi hj (fun e3 => hik (Option.some.inj e3).symm) (fun e3 => hjk (Option.some.inj e3).symm) hij e
          · rintro b (e | ⟨j, hj, _, e⟩)
            · refine ⟨h.out id _ b hm1 (.inl e), fun i ci hi hne3 e2 => ?_⟩
              obtain ⟨c0, h2', rfl⟩ := mem_mapH hi
              rw [bks_map] at e2
              exact h.sep id i _ c0 b hm1 (mem_delH (mem_delH h2').1).1 (Ne.symm hne3) (.inl e) e2
            · by_cases hjk : j = k
              · simp only [if_pos hjk] at e
                refine ⟨h.out id2 _ b hm2 (hown2 b e), fun i ci hi hne3 e2 => ?_⟩
                obtain ⟨c0, h2', rfl⟩ := mem_mapH hi
                rw [bks_map] at e2
                have hd2 := mem_delH (mem_delH h2').1
                exact h.sep id2 i _ c0 b hm2 hd2.1 (Ne.symm hd2.2) (hown2 b e) e2
              · simp only [if_neg hjk] at e
                refine ⟨h.out id _ b hm1 (hrow j b hj hjk e), fun i ci hi hne3 e2 => ?_⟩
                obtain ⟨c0, h2', rfl⟩ := mem_mapH hi
                rw [bks_map] at e2
                exact h.sep id i _ c0 b hm1 (mem_delH (mem_delH h2').1).1 (Ne.symm hne3) (hrow j b hj hjk e) e2
          · rintro b (e | ⟨j, hj, _, e⟩)
            · exact h.mine id _ b hm1 (.inl e)
            · by_cases hjk : j = k
              · simp only [if_pos hjk] at e
                exact h.mine id2 _ b hm2 (hown2 b e)
              · simp only [if_neg hjk] at e
                exact h.mine id _ b hm1 (hrow j b hj hjk e)
      · simp at hr
    · simp at hr
  · simp at hr

theorem sl_of_own {F' : Nat → Prop} {e : TypeId} {sz n : Nat} {f : Nat → List D} {v : Value} {xs : List Value} (hown : w.ownsRow 0 e sz v n xs) (hel : Elems F w sz n f xs) (hFF : ∀ k, F k → F' k) (hb : ∀ b, blk v = some b → F' b) : RD F' w (.sl sz n f) v := by
  rcases hown.2 with ⟨h1, h2⟩ | ⟨b, cap, cur, h1, _, h3, h4, h5, h6, h7⟩
  · subst h2; rw [h1]; exact .emp _ _ _ _
  · rw [h1]
    refine .sl sz n f b 0 cap (fun i j => (xs[i * sz + j]?).getD undef) (hb b (by rw [h1]; rfl)) h4 (fun i j hi hj => ?_) (fun i hi => (hel i hi).1) (fun i j d hi hd => ?_)
    · have hl := (hel i hi).1
      obtain ⟨c, c1, c2⟩ := (hel i hi).2 j _ (List.getElem?_eq_getElem (show j < (f i).length by omega))
      have := hown.cells (g := b) (by rw [h1]; rfl) _ _ c1
      rw [Addr.add_lit] at this
      rw [this, c1]; rfl
    · obtain ⟨c, c1, c2⟩ := (hel i hi).2 j d hd
      rw [c1]
      exact RD.mono hFF (fun _ _ => rfl) c2

/-- Rows that are written no more: a slice of data. -/
def closed (s : St) (id : Nat) : St :=
  match get s.H id with
  | some (.rows e e' sz n none hs m f) => ⟨s.L, (id, .vec e 1 n fun i => [.sl sz (m i) (f i)]) :: delH id s.H, s.m⟩
  | _ => s

theorem Go.close (id : Nat) (k : Go C K (closed s id) Φ) : Go C K s Φ := by
  rintro a w ⟨ρ, F, h⟩
  refine k a w ?_
  unfold closed
  split
  · rename_i e e' sz n hs m f hgH
    have hm1 := get_mem hgH
    obtain ⟨xs, h1, h2, h3, h4⟩ := h.ch id _ hm1
    let F' : Nat → Prop := fun b => F b ∨ ∃ k, k < n ∧ blk (hs k) = some b
    have hFF : ∀ k, F k → F' k := fun k hk => .inl hk
    have hin : ∀ k b, k < n → blk (hs k) = some b → bks ρ id (.rows e e' sz n none hs m f) b := fun k b hk e => .inr ⟨k, hk, by simp, e⟩
    have hA : SatW C { L := s.L, H := delH id s.H, m := s.m } a w ρ F' := by
      refine h.change (fun u => u) (fun u v hu hr => hr.keep (x := s.m) (fun _ _ => rfl) hFF (fun _ _ => rfl) (fresh_names (Nat.le_refl _) hu)) (fun t v hv => ⟨⟨v, hv, (map4_id v).symm⟩, h.freshL t v hv⟩) (fun i ci hci => ?_) hFF (fun _ _ => rfl) (fun b hb => ?_) h.keep (Nat.le_refl _) (fun b hb => ?_) h.fixd.2
      · obtain ⟨hci, hne⟩ := mem_delH hci
        refine ⟨⟨ci, hci, (chmap_id ci).symm⟩, (h.freshH i ci hci).2, rfl, fun b e => ⟨rfl, ?_⟩⟩
        rintro (hb | ⟨k, hk, hb⟩)
        · exact h.out i ci b hci e hb
        · exact h.sep i id ci _ b hci hm1 hne e (hin k b hk hb)
      · rcases hb with hb | ⟨k, hk, hb⟩
        · exact h.lt b hb
        · exact (h.ch id _ hm1).lt (hin k b hk hb)
      · rcases hb with hb | ⟨k, hk, hb⟩
        · exact h.sub b hb
        · exact .inr (h.mine id _ b hm1 (hin k b hk hb))
    refine ⟨ρ, F', hA.addCh (c := .vec e 1 n fun i => [.sl sz (m i) (f i)]) ⟨xs, h1, fun k hk => ⟨rfl, fun j d hj => ?_⟩⟩ (fun b e => ⟨?_, fun i ci hci hne e2 => ?_⟩) (h.freshH id _ hm1).1 rfl (fun b e => h.mine id _ b hm1 (.inl e))⟩
    · obtain ⟨h5, ys, h6, h7⟩ := h2 k hk (by simp)
      cases j with
      | zero =>
        simp at hj
        subst hj
        exact ⟨hs k, by rw [← h5]; congr 1; omega, sl_of_own h6 h7 hFF fun b hb => .inr ⟨k, hk, hb⟩⟩
      | succ j => simp at hj
    · rintro (hb | ⟨k, hk, hb⟩)
      · exact h.out id _ b hm1 (.inl e) hb
      · exact h3 k b hk (by simp) hb e
    · exact h.sep id i _ ci b hm1 (mem_delH hci).1 (Ne.symm hne) (.inl e) e2
  · exact ⟨ρ, F, h⟩

/-- A nil slice in a box is an owned one of no elements. -/
theorem Go.ownBox (id o : Nat) (e : TypeId) (sz : Nat) (f : Nat → List D) {us us' : List V} (hb : get s.H id = some (.box us)) (ho : us[o]? = some .nils) (hs : setL us o [.own s.m] = some us') (k : Go C K ⟨s.L, (id, .box us') :: delH id ((s.m, .vec e sz 0 f) :: s.H), s.m + 1⟩ Φ) : Go C K s Φ := by
  rintro a w ⟨ρ, F, h⟩
  have hm1 := get_mem hb
  have hlt := (h.freshH id _ hm1).1
  have hn := h.new (w' := w) (x := .slice none 0 0) (c := .vec e sz 0 f) ⟨rfl, rfl, rfl, Nat.le_refl _, fun _ _ _ => rfl⟩ (fun b hb => by simp [blk] at hb) ⟨[], ⟨by simp, .inl ⟨upd_same _ _ _, rfl⟩⟩, fun i hi => absurd hi (Nat.not_lt_zero _)⟩ rfl
  have hm2 : (id, Ch.box us) ∈ ((s.m, Ch.vec e sz 0 f) :: s.H) := List.mem_cons_of_mem _ hm1
  obtain ⟨b, ys, T, hb', hheap, hus⟩ := hn.ch id _ hm2
  obtain ⟨y, hy, hr⟩ := hus.get ho
  obtain rfl : y = .slice none 0 0 := hr
  have hty := setL_all2 (R := R1 (upd ρ s.m (.slice none 0 0)) F w) hs hus (ys := [.slice none 0 0]) ⟨⟨(upd_same _ _ _).symm, by rw [upd_same]; exact .inl ⟨_, _, _, rfl⟩⟩, trivial⟩
  have hyl : o < ys.length := (List.getElem?_eq_some_iff.1 hy).1
  have heq : ys.take o ++ [.slice none 0 0] ++ ys.drop (o + [Value.slice none 0 0].length) = ys := by
    apply List.ext_getElem?
    intro j
    rw [splice_get (by simp; omega)]
    split
    · rename_i hj
      simp only [List.length_singleton] at hj
      obtain rfl : j = o := by omega
      rw [hy]; simp
    · rfl
  rw [heq] at hty
  have := hn.touch (c' := .box us') hm2 (w' := w) ⟨rfl, rfl, rfl, Nat.le_refl _, fun _ _ _ => rfl⟩ ⟨b, ys, T, hb', hheap, hty⟩ (all_setL hs (by simpa [Ch.all] using (hn.freshH id _ hm2).2) (by simp [V.all1, fresh]))
  exact k a w ⟨_, _, this⟩
end

namespace Cr
variable {P : Pg} {g : Cfg} {C : Ctx} (x : Cr P g C) {s s' s1 : St} {K K' : List Item} {Φ : Exit → St → Prop} {ob : List Prop}
include x
theorem loadRow {all : Array Oper} {o : Oper} {rest : List Oper} {p : Prop} (h : run g 1000 K s [] = .op ob all o rest K' s1) (ho : AllP ob) (hr : rowLd g s1 o = some (s', p)) (hp : p) (k : Go C (.ops all rest :: K') s' Φ) : Go C K s Φ :=
  x.op h ho (Go.loadRow x.ty x.n hr hp k)
theorem storeRow {all : Array Oper} {o : Oper} {rest : List Oper} {p : Prop} {fs : Value → St} (h : run g 1000 K s [] = .op ob all o rest K' s1) (ho : AllP ob) (hr : rowSt g s1 o = some (fs, p)) (hp : p) (k : ∀ v, Go C (.ops all rest :: K') (fs v) Φ) : Go C K s Φ :=
  x.op h ho (Go.storeRow x.ty hr hp k)
end Cr
end Go.Sx

/-
  Sx, part 31: data that read alike stand for one another.
-/
set_option linter.unusedVariables false
set_option linter.unusedSimpArgs false
namespace Go.Sx
theorem veq0_d {d d' : D} (h : d = d') : VEq0 (.d d) (.d d') := by subst h; exact DEq.rfl' d

theorem act_put_same {a : Act} {t : Nat} {x : Value} (hx : a.tmps[t]? = some x) : a.put (some t) x = a := by
  cases a with
  | mk tmps defers =>
    simp only [Act.put, Act.mk.injEq, and_true]
    apply Array.ext
    · simp
    · intro i h1 h2
      by_cases hi : t = i
      · subst hi
        have := (Array.getElem?_eq_some_iff.1 hx).2
        simp [this]
      · rw [Array.getElem_setIfInBounds_ne _ hi]

/-- A slot's data, read as other data that read alike. -/
theorem Go.setD {C : Ctx} {s : St} {K : List Item} {Φ : Exit → St → Prop} (t : Nat) {d d' : D} (h : get s.L t = some (.d d)) (hq : DQ d d') (k : Go C K { s with L := put s.L t (.d d') } Φ) : Go C K s Φ := by
  rintro a w ⟨ρ, F, hs⟩
  obtain ⟨x, hx, hr⟩ := hs.slot t _ (get_mem h)
  have hlt : t < a.tmps.size := (Array.getElem?_eq_some_iff.1 hx).1
  have := hs.put (d := t) (v := .d d') (x := x) (by rw [← hs.size]; exact hlt) (hq.sound hr) rfl
  rw [act_put_same hx] at this
  exact k a w ⟨ρ, F, this⟩

/-- A slot with no slice, as data of none. -/
theorem Go.setNil {C : Ctx} {s : St} {K : List Item} {Φ : Exit → St → Prop} (t : Nat) (sz : Nat) (f : Nat → List D) (h : get s.L t = some .nils) (k : Go C K { s with L := put s.L t (.d (.sl sz 0 f)) } Φ) : Go C K s Φ := by
  rintro a w ⟨ρ, F, hs⟩
  obtain ⟨x, hx, hr⟩ := hs.slot t _ (get_mem h)
  obtain rfl : x = .slice none 0 0 := hr
  have hlt : t < a.tmps.size := (Array.getElem?_eq_some_iff.1 hx).1
  have := hs.put (d := t) (v := .d (.sl sz 0 f)) (x := .slice none 0 0) (by rw [← hs.size]; exact hlt) (.emp _ _ _ _) rfl
  rw [act_put_same hx] at this
  exact k a w ⟨ρ, F, this⟩
end Go.Sx

/-
  Sx, part 32: instructions, blocks, bodies: as data.
-/
set_option linter.unusedVariables false
set_option linter.unusedSimpArgs false
namespace Go.Sx

theorem conf_bool {x : D} (h : Conf1 .bool x) : ∃ b, x = .bool b := by
  cases h with
  | bool b => exact ⟨b, rfl⟩
theorem conf_str {x : D} (h : Conf1 .str x) : ∃ s, x = .str s ∧ s.size ≤ maxLen ∧ s.size ≤ reachBytes := by
  cases h with
  | str s h1 h2 => exact ⟨s, rfl, h1, h2⟩

/-- An instruction: kind, sort, where to, what of, what else, arguments, an array, a number, a place. -/
structure OpV where
  k : Int
  s : Int
  a : Int
  b : Int
  c : Int
  l : List Int
  m : List Int
  v : Int
  e : Int
instance : Inhabited OpV := ⟨⟨0, 0, 0, 0, 0, [], [], 0, 0⟩⟩
def dOp (o : OpV) : List D := [.int .u8 o.k, .int .u8 o.s, .int .i64 o.a, .int .i64 o.b, .int .i64 o.c, dInts o.l, dInts o.m, .int .i64 o.v, .int .i64 o.e]
def dOps (l : List OpV) : D := .sl 9 l.length fun j => dOp (l.getD j default)
def dBlocks (bs : List (List OpV)) : D := .sl 1 bs.length fun i => [dOps (bs.getD i [])]
def opTy (b b' : Nat) : List DTy := [.int .u8, .int .u8, .int .i64, .int .i64, .int .i64, .sl b [.int .i64], .sl b' [.int .i64], .int .i64, .int .i64]
/-- An instruction whose numbers fit. -/
structure OpV.Fits (o : OpV) : Prop where
  k : (Lit.int .u8 o.k).wf = true
  s : (Lit.int .u8 o.s).wf = true
  a : (Lit.int .i64 o.a).wf = true
  b : (Lit.int .i64 o.b).wf = true
  c : (Lit.int .i64 o.c).wf = true
  v : (Lit.int .i64 o.v).wf = true
  e : (Lit.int .i64 o.e).wf = true
  l : o.l.length ≤ maxLen ∧ ∀ y ∈ o.l, (Lit.int .i64 y).wf = true
  m : o.m.length ≤ maxLen ∧ ∀ y ∈ o.m, (Lit.int .i64 y).wf = true

theorem conf_op {b b' : Nat} {ds : List D} (h : Conf (opTy b b') ds) : ∃ o : OpV, o.Fits ∧ ds.length = 9 ∧ ∀ (j : Nat) (d d' : D), ds[j]? = some d → (dOp o)[j]? = some d' → DQ d d' := by
  obtain ⟨hl, hc⟩ := h
  match ds, hl with
  | [d0, d1, d2, d3, d4, d5, d6, d7, d8], _ =>
    obtain ⟨n0, rfl, w0⟩ := conf_int (hc 0 _ _ rfl rfl)
    obtain ⟨n1, rfl, w1⟩ := conf_int (hc 1 _ _ rfl rfl)
    obtain ⟨n2, rfl, w2⟩ := conf_int (hc 2 _ _ rfl rfl)
    obtain ⟨n3, rfl, w3⟩ := conf_int (hc 3 _ _ rfl rfl)
    obtain ⟨n4, rfl, w4⟩ := conf_int (hc 4 _ _ rfl rfl)
    obtain ⟨l5, q5, w5, z5⟩ := conf_ints (hc 5 _ _ rfl rfl)
    obtain ⟨l6, q6, w6, z6⟩ := conf_ints (hc 6 _ _ rfl rfl)
    obtain ⟨n7, rfl, w7⟩ := conf_int (hc 7 _ _ rfl rfl)
    obtain ⟨n8, rfl, w8⟩ := conf_int (hc 8 _ _ rfl rfl)
    refine ⟨⟨n0, n1, n2, n3, n4, l5, l6, n7, n8⟩, ⟨w0, w1, w2, w3, w4, w7, w8, ⟨w5.1, z5⟩, ⟨w6.1, z6⟩⟩, rfl, fun j d d' hd hd' => ?_⟩
    match j with
    | 0 => simp [dOp] at hd hd'; subst hd hd'; exact .refl _
    | 1 => simp [dOp] at hd hd'; subst hd hd'; exact .refl _
    | 2 => simp [dOp] at hd hd'; subst hd hd'; exact .refl _
    | 3 => simp [dOp] at hd hd'; subst hd hd'; exact .refl _
    | 4 => simp [dOp] at hd hd'; subst hd hd'; exact .refl _
    | 5 => simp [dOp] at hd hd'; subst hd hd'; exact q5
    | 6 => simp [dOp] at hd hd'; subst hd hd'; exact q6
    | 7 => simp [dOp] at hd hd'; subst hd hd'; exact .refl _
    | 8 => simp [dOp] at hd hd'; subst hd hd'; exact .refl _
    | j + 9 => simp at hd

theorem getD_map_range {α : Type} {n i : Nat} (f : Nat → α) (d : α) (h : i < n) : ((List.range n).map f).getD i d = f i := by
  rw [List.getD_eq_getElem?_getD, List.getElem?_map, List.getElem?_range h]; rfl

theorem conf_ops {z b b' : Nat} {x : D} (h : Conf1 (.sl z (opTy b b')) x) : ∃ l : List OpV, DQ x (dOps l) ∧ (l.length ≤ maxLen ∧ l.length * z ≤ reachBytes) ∧ ∀ o ∈ l, o.Fits := by
  cases h with
  | sl _ _ n f hn hz hl hc =>
    have each : ∀ i, i < n → ∃ o : OpV, o.Fits ∧ (f i).length = 9 ∧ ∀ (j : Nat) (d d' : D), (f i)[j]? = some d → (dOp o)[j]? = some d' → DQ d d' := fun i hi =>
      conf_op ⟨hl i hi, fun j t d ht hd => hc i j t d hi ht hd⟩
    let g : Nat → OpV := fun i => if h : i < n then Classical.choose (each i h) else default
    have hg : ∀ i, i < n → (g i).Fits ∧ (f i).length = 9 ∧ ∀ (j : Nat) (d d' : D), (f i)[j]? = some d → (dOp (g i))[j]? = some d' → DQ d d' := fun i hi => by
      have e : g i = Classical.choose (each i hi) := by simp only [g, hi, dite_true]
      rw [e]
      exact Classical.choose_spec (each i hi)
    refine ⟨(List.range n).map g, ?_, by simpa using ⟨hn, hz⟩, fun o ho => ?_⟩
    · unfold dOps
      rw [show ((List.range n).map g).length = n by simp]
      refine .sl 9 n _ _ (fun i hi => (hg i hi).2.1) fun i j d d' hi hd hd' => ?_
      rw [getD_map_range g default hi] at hd'
      exact (hg i hi).2.2 j d d' hd hd'
    · obtain ⟨i, hi, rfl⟩ := List.mem_map.1 ho
      exact (hg i (List.mem_range.1 hi)).1

theorem conf_blocks {y z b b' : Nat} {x : D} (h : Conf1 (.sl y [.sl z (opTy b b')]) x) : ∃ bs : List (List OpV), DQ x (dBlocks bs) ∧ (bs.length ≤ maxLen ∧ bs.length * y ≤ reachBytes) ∧ ∀ l ∈ bs, (l.length ≤ maxLen ∧ l.length * z ≤ reachBytes) ∧ ∀ o ∈ l, o.Fits := by
  obtain ⟨n, g, hq, hn, hg⟩ := conf_one h
  let row : Nat → List OpV := fun i => if h : i < n then Classical.choose (conf_ops (hg i h)) else []
  have hrow : ∀ i, i < n → DQ (g i) (dOps (row i)) ∧ ((row i).length ≤ maxLen ∧ (row i).length * z ≤ reachBytes) ∧ ∀ o ∈ row i, o.Fits := fun i hi => by
    have e : row i = Classical.choose (conf_ops (hg i hi)) := by simp only [row, hi, dite_true]
    rw [e]
    exact Classical.choose_spec (conf_ops (hg i hi))
  refine ⟨(List.range n).map row, hq.trans ?_, by simpa using hn, fun l hl => ?_⟩
  · unfold dBlocks
    rw [show ((List.range n).map row).length = n by simp]
    refine .sl 1 n _ _ (fun i hi => rfl) fun i j d d' hi hd hd' => ?_
    match j with
    | 0 =>
      simp only [List.getElem?_cons_zero, Option.some.injEq] at hd hd'
      subst hd hd'
      rw [getD_map_range row [] hi]
      exact (hrow i hi).1
    | j + 1 => simp at hd
  · obtain ⟨i, hi, rfl⟩ := List.mem_map.1 hl
    exact (hrow i (List.mem_range.1 hi)).2

/-- A body: two numbers, and its blocks. -/
theorem conf_body {F : Nat → Prop} {w : World} {ρ : Nat → Value} {y z b b' : Nat} {ds : List D} {cs : List Value} (h : Conf [.int .i64, .int .i64, .sl y [.sl z (opTy b b')]] ds) (hr : All2 (RD F w) ds cs) :
    ∃ (p q : Int) (bs : List (List OpV)), ((Lit.int .i64 p).wf = true ∧ (Lit.int .i64 q).wf = true ∧ (bs.length ≤ maxLen ∧ bs.length * y ≤ reachBytes) ∧ ∀ l ∈ bs, (l.length ≤ maxLen ∧ l.length * z ≤ reachBytes) ∧ ∀ o ∈ l, o.Fits) ∧
      R3 ρ F w (.agg [vi p, vi q, .d (dBlocks bs)]) (.agg cs.toArray) := by
  obtain ⟨hl, hc⟩ := h
  match ds, hl, cs, hr with
  | [d0, d1, d2], _, [c0, c1, c2], ⟨r0, r1, r2, _⟩ =>
    obtain ⟨p, rfl, w0⟩ := conf_int (hc 0 _ _ rfl rfl)
    obtain ⟨q, rfl, w1⟩ := conf_int (hc 1 _ _ rfl rfl)
    obtain ⟨bs, hq, w2, w3⟩ := conf_blocks (hc 2 _ _ rfl rfl)
    exact ⟨p, q, bs, ⟨w0, w1, w2, w3⟩, ⟨_, rfl, r0, r1, hq.sound r2, trivial⟩⟩

theorem dq_ints {n : Nat} {f : Nat → List D} (l : List Int) (hn : n = l.length) (h : ∀ i, i < n → f i = [.int .i64 (l.getD i 0)]) : DQ (.sl 1 n f) (dInts l) := by
  subst hn
  refine .sl 1 _ _ _ (fun i hi => congrArg List.length (h i hi)) fun i j d d' hi hd hd' => ?_
  rw [h i hi] at hd
  rw [Option.some.inj (hd.symm.trans hd')]
  exact .refl _

theorem dq_rows {n : Nat} {f : Nat → List D} (to : List (List Int)) (hn : n = to.length) (h : ∀ i, i < n → ∃ d, f i = [d] ∧ DQ d (dInts (to.getD i []))) : DQ (.sl 1 n f) (dRows to) := by
  subst hn
  refine .sl 1 _ _ _ (fun i hi => ?_) fun i j d d' hi hd hd' => ?_
  · obtain ⟨d, e, _⟩ := h i hi
    rw [e]; rfl
  · obtain ⟨d0, e, hq⟩ := h i hi
    rw [e] at hd
    match j with
    | 0 =>
      obtain rfl : d0 = d := Option.some.inj hd
      obtain rfl := Option.some.inj hd'
      exact hq
    | j + 1 => simp at hd

end Go.Sx

/-
  Sx, part 33: scopes in which the run jumps back to a label.
-/
set_option linter.unusedVariables false
set_option linter.unusedSimpArgs false
namespace Go.Sx

/-- The least measure of what stands for a state. -/
theorem least_of {p : Nat → Prop} (h : ∃ n, p n) : ∃ n, p n ∧ ∀ m, p m → n ≤ m := by
  obtain ⟨n, hn⟩ := h
  induction n using Nat.strongRecOn with
  | _ n ih =>
    by_cases hx : ∃ m, m < n ∧ p m
    · obtain ⟨m, h1, h2⟩ := hx
      exact ih m h1 h2
    · exact ⟨n, hn, fun m hm => by
        rcases Nat.lt_or_ge m n with h1 | h1
        · exact absurd ⟨m, h1, hm⟩ hx
        · exact h1⟩

/-- The end of a scope's body: what is behind it; a return; a jump to l: J. -/
def JumpK (C : Ctx) (K : List Item) (l : Nat) (J : St → Prop) (Φ : Exit → St → Prop) : Exit → St → Prop
  | .normal, s => Go C K s Φ
  | .goto l', s => l' = l ∧ J s
  | .ret, s => Φ .ret s
  | _, _ => False

theorem den_retK {C : Ctx} {Q : Exit → Act → World → Prop} {a : Act} {w : World} : ∀ {K : List Item}, den C Q K .ret a w = Q .ret a w
  | [] => rfl
  | .blk i :: K => by simp only [den, Exit.inBlock]; exact den_retK
  | .code c :: K => by simp only [den]; exact den_retK
  | .ops _ _ :: K => by simp only [den]; exact den_retK
  | .back _ :: K => by simp only [den]; exact den_retK

theorem Cx.jumps {P : Pg} {g : Cfg} {C : Ctx} (x : Cx P g C) {s s' : St} {K K' : List Item} {Φ : Exit → St → Prop} {ob : List Prop} {c rest : Code} {α : Type} (l : Nat) (I : α → St) (μ : α → Nat) (h : run g 1000 K s [] = .code ob (.scope c) K' s') (ho : AllP ob) (hf : findLabel c l = some rest)
    (first : Go C [.code c] s' (JumpK C K' l (fun s => ∃ y, LE g.fix s (I y)) Φ))
    (pass : ∀ y, Go C [.code rest] (I y) (JumpK C K' l (fun s => ∃ z, μ z < μ y ∧ LE g.fix s (I z)) Φ)) : Go C K s Φ := by
  refine st x.ty x.n x.fix h ⟨ho, ?_⟩
  intro a w hs
  rw [den_code]
  let p : Act → World → Nat → Prop := fun a w n => ∃ y, μ y = n ∧ Sat C (I y) a w
  let ms : Act → World → Nat := fun a w => @dite Nat (∃ n, p a w n) (Classical.propDecidable _) (fun h => Classical.choose (least_of h)) (fun _ => 0)
  have hms : ∀ a w (h : ∃ n, p a w n), p a w (ms a w) ∧ ∀ m, p a w m → ms a w ≤ m := fun a w h => by
    have e : ms a w = Classical.choose (least_of h) := by
      show @dite Nat (∃ n, p a w n) (Classical.propDecidable _) _ _ = _
      rw [dif_pos h]
    rw [e]
    exact Classical.choose_spec (least_of h)
  have conv : ∀ (J : St → Prop) (J' : Act → World → Prop), (∀ s a w, Sat C s a w → J s → J' a w) → ∀ e a w, conc C (JumpK C K' l J Φ) e a w → Exit.jump l J' (den C (conc C Φ) K') e a w := by
    rintro J J' hJ e a w ⟨s, hs, hj⟩
    cases e with
    | normal => exact hj a w hs
    | goto l' => exact ⟨hj.1, hJ s a w hs hj.2⟩
    | ret =>
      show den C (conc C Φ) K' .ret a w
      rw [den_retK]
      exact ⟨s, hs, hj⟩
    | _ => exact hj.elim
  refine x.ofWp ?_
  refine wp_scope_jumps l (fun a w => ∃ n, p a w n) ms hf (wp_mono (x.toWp (first a w hs)) (conv _ _ fun s a w hs ⟨y, hy⟩ => ⟨μ y, y, rfl, LE.sat (x.fix ▸ hy) hs⟩)) fun a w hp => ?_
  obtain ⟨⟨y, hy, hs⟩, hmin⟩ := hms a w hp
  refine wp_mono (x.toWp (pass y a w hs)) (conv _ _ fun s a' w' hs' ⟨z, hz, hle⟩ => ?_)
  have hp' : ∃ n, p a' w' n := ⟨μ z, z, rfl, LE.sat (x.fix ▸ hle) hs'⟩
  refine ⟨hp', ?_⟩
  have := (hms a' w' hp').2 _ ⟨z, rfl, LE.sat (x.fix ▸ hle) hs'⟩
  omega
end Go.Sx

/-
  Sx, part 34: scopes in which the run jumps back to a label: what stands ahead of the label comes once; each pass is shown once.
-/
set_option linter.unusedVariables false
set_option linter.unusedSimpArgs false
namespace Go.Sx

/-- What stands ahead of a label, and what stands behind it. -/
def cutAt (l : Nat) : Code → Option (List Code × Code)
  | .seq (.label l') b => bif Nat.beq l' l then some ([], b) else match cutAt l b with
    | some (f, r) => some (.label l' :: f, r)
    | none => none
  | .seq a b => match cutAt l b with
    | some (f, r) => some (a :: f, r)
    | none => none
  | _ => none

def codes : List Code → List Item → List Item
  | [], K => K
  | c :: r, K => .code c :: codes r K

/-- The end of what stands ahead of a label. -/
def HeadK (Φ : Exit → St → Prop) : Exit → St → Prop
  | .ret, s => Φ .ret s
  | _, _ => False

theorem den_other {C : Ctx} {Q : Exit → Act → World → Prop} {K : List Item} {e : Exit} (he : e ≠ .normal) {a : Act} {w : World} : ∀ f : List Code, den C Q (codes f K) e a w = den C Q K e a w
  | [] => rfl
  | c :: r => by
    have := den_other (C := C) (Q := Q) (K := K) he (a := a) (w := w) r
    cases e with
    | normal => exact absurd rfl he
    | _ => exact this

theorem den_front {C : Ctx} {Φ : Exit → St → Prop} {Q : Exit → Act → World → Prop} {J : St → Prop} {K : List Item}
    (h1 : ∀ s a w, Sat C s a w → J s → den C Q K .normal a w) (h2 : ∀ s a w, Sat C s a w → Φ .ret s → den C Q K .ret a w) :
    ∀ (f : List Code) (a : Act) (w : World), den C (conc C (HeadK Φ)) (codes f [.back J]) .normal a w → den C Q (codes f K) .normal a w
  | [], a, w, h => by
    obtain ⟨s, hs, hj⟩ := h
    exact h1 s a w hs hj
  | c :: r, a, w, h => by
    refine wq_mono h fun e a w hq => ?_
    cases e with
    | normal => exact den_front h1 h2 r a w hq
    | ret =>
      have hq : den C (conc C (HeadK Φ)) (codes r [.back J]) .ret a w := hq
      rw [den_other (by simp)] at hq
      show den C Q (codes r K) .ret a w
      rw [den_other (by simp)]
      obtain ⟨s, hs, hj⟩ := hq
      exact h2 s a w hs hj
    | _ =>
      have := hq
      change den C (conc C (HeadK Φ)) (codes r [.back J]) _ a w at this
      rw [den_other (by simp)] at this
      obtain ⟨s, _, hj⟩ := this
      exact hj.elim

theorem cut_den {C : Ctx} {Q : Exit → Act → World → Prop} {l : Nat} : ∀ (c : Code) {f : List Code} {r : Code} (h : cutAt l c = some (f, r)) {a : Act} {w : World}, den C Q (codes f [.code r]) .normal a w → den C Q [.code c] .normal a w
  | .seq x b, f, r, h, a, w, hd => by
    refine wp_seq_den ?_
    have plain : (match cutAt l b with | some (f, r) => some (x :: f, r) | none => none) = some (f, r) → den C Q [.code x, .code b] .normal a w := fun h => by
      split at h
      · rename_i f' r' hb
        simp only [Option.some.injEq, Prod.mk.injEq] at h
        obtain ⟨rfl, rfl⟩ := h
        refine wq_mono hd fun e a w hq => ?_
        cases e with
        | normal => exact cut_den b hb hq
        | _ =>
          have := hq
          change den C Q (codes f' [.code r']) _ a w at this
          rw [den_other (by simp)] at this
          exact this
      · cases h
    cases x with
    | label l' =>
      simp only [cutAt] at h
      cases hb : Nat.beq l' l with
      | true =>
        rw [hb] at h
        simp only [cond_true, Option.some.injEq, Prod.mk.injEq] at h
        obtain ⟨rfl, rfl⟩ := h
        rw [den_code]
        exact wq_label hd
      | false =>
        rw [hb] at h
        exact plain h
    | _ => exact plain h
  | .skip, f, r, h, a, w, hd => by cases h
  | .region .., f, r, h, a, w, hd => by cases h
  | .cond .., f, r, h, a, w, hd => by cases h
  | .loop .., f, r, h, a, w, hd => by cases h
  | .block .., f, r, h, a, w, hd => by cases h
  | .exit .., f, r, h, a, w, hd => by cases h
  | .ret, f, r, h, a, w, hd => by cases h
  | .goto .., f, r, h, a, w, hd => by cases h
  | .label .., f, r, h, a, w, hd => by cases h
  | .scope .., f, r, h, a, w, hd => by cases h

theorem Cx.jumpBack {P : Pg} {g : Cfg} {C : Ctx} (x : Cx P g C) {s s' : St} {K K' : List Item} {Φ : Exit → St → Prop} {ob : List Prop} {c r : Code} {f : List Code} {α : Type} (l : Nat) (I : α → St) (μ : α → Nat) (h : run g 1000 K s [] = .code ob (.scope c) K' s') (ho : AllP ob) (hf : findLabel c l = some (.seq .skip r)) (hc : cutAt l c = some (f, r))
    (first : Go C (codes f [.back fun s => ∃ y, LE g.fix s (I y)]) s' (HeadK Φ))
    (pass : ∀ y, Go C [.code r] (I y) (JumpK C K' l (fun s => ∃ z, μ z < μ y ∧ LE g.fix s (I z)) Φ)) : Go C K s Φ := by
  refine x.jumps l I μ h ho hf ?_ fun y a w hs => ?_
  · intro a w hs
    refine cut_den c hc (den_front (K := [.code r]) (Φ := Φ) (J := fun s => ∃ y, LE g.fix s (I y)) (fun s a w hs hj => ?_) (fun s a w hs hr => ?_) f a w (first a w hs))
    · obtain ⟨y, hy⟩ := hj
      refine wq_mono (pass y a w (LE.sat (x.fix ▸ hy) hs)) fun e a w hq => ?_
      obtain ⟨s, hs, hj⟩ := hq
      cases e with
      | goto l' => exact ⟨s, hs, hj.1, by obtain ⟨z, _, hz⟩ := hj.2; exact ⟨z, hz⟩⟩
      | normal => exact ⟨s, hs, hj⟩
      | ret => exact ⟨s, hs, hj⟩
      | _ => exact hj.elim
    · exact ⟨s, hs, hr⟩
  · refine wp_seq_den ?_
    rw [den_code]
    exact wq_skip (pass y a w hs)
end Go.Sx

/-
  Sx, part 35: a row of a slice of slices that is held: it is a chunk of its own, and its place still tells it.
-/
set_option linter.unusedVariables false
set_option linter.unusedSimpArgs false
namespace Go.Sx

def forgot (s : St) (id k : Nat) : St :=
  match get s.H id with
  | some (.rows e e' sz n none hs m f) => ⟨s.L, (id, .rows e e' sz n (some k) hs m f) :: delH id s.H, s.m⟩
  | _ => s
def heldS (s : St) (id k : Nat) : Option (St × Prop) :=
  match get s.H id with
  | some (.rows e e' sz n none hs m f) => some (⟨s.L, (id, .held e e' sz n k (.own s.m) hs m f) :: delH id ((s.m, .vec e' sz (m k) (f k)) :: (id, .rows e e' sz n (some k) hs m f) :: delH id s.H), s.m + 1⟩, k < n)
  | _ => none
def letgo (s : St) (id : Nat) : Option (Value → St) :=
  match get s.H id with
  | some (.held e e' sz n k (.own id2) hs m f) => match get s.H id2 with
    | some (.vec e2 sz2 n2 f2) => bif Nat.beq e' e2 && Nat.beq sz sz2 && !(Nat.beq id id2) then
        some fun v => ⟨mapL (kill id2) s.L, (id, .rows e e' sz n none (fun i => if i = k then v else hs i) (fun i => if i = k then n2 else m i) fun i => if i = k then f2 else f i) :: mapH (kill id2) (delH id (delH id2 s.H)), s.m⟩ else none
    | _ => none
  | _ => none

section
variable {C : Ctx} {s : St} {a : Act} {w w' : World} {ρ : Nat → Value} {F : Nat → Prop} {g : Cfg} {K : List Item} {Φ : Exit → St → Prop}

theorem SatW.forget (h : SatW C s a w ρ F) {id k : Nat} {e e' : TypeId} {sz n : Nat} {hs : Nat → Value} {m : Nat → Nat} {f : Nat → Nat → List D} (hm : (id, .rows e e' sz n none hs m f) ∈ s.H) :
    SatW C ⟨s.L, (id, .rows e e' sz n (some k) hs m f) :: delH id s.H, s.m⟩ a w ρ F := by
  obtain ⟨xs, h1, h2, h3, h4⟩ := h.ch id _ hm
  exact h.touch (c' := .rows e e' sz n (some k) hs m f) hm (w' := w) ⟨rfl, rfl, rfl, Nat.le_refl _, fun _ _ _ => rfl⟩ ⟨xs, h1, fun i hi hh => h2 i hi (by simp), fun i b hi hh => h3 i b hi (by simp), fun i j b hi hj hhi hhj => h4 i j b hi hj (by simp) (by simp)⟩ rfl
    (fun b e => by
      rcases e with e | ⟨i, hi, hh, e⟩
      · exact .inl e
      · exact .inr ⟨i, hi, by simp, e⟩)

/-- A row is forgotten: its place may be written. -/
theorem Go.forget (id k : Nat) (kk : Go C K (forgot s id k) Φ) : Go C K s Φ := by
  rintro a w ⟨ρ, F, h⟩
  refine kk a w ?_
  unfold forgot
  split
  · rename_i hgH
    exact ⟨ρ, F, h.forget (get_mem hgH)⟩
  · exact ⟨ρ, F, h⟩

/-- A row is held. -/
theorem Go.hold (id k : Nat) {s' : St} {p : Prop} (hr : heldS s id k = some (s', p)) (hp : p) (kk : Go C K s' Φ) : Go C K s Φ := by
  rintro a w ⟨ρ, F, h⟩
  unfold heldS at hr
  split at hr
  · rename_i e e' sz n hs m f hgH
    simp only [Option.some.injEq, Prod.mk.injEq] at hr
    obtain ⟨rfl, rfl⟩ := hr
    have hmem := get_mem hgH
    have hidm := (h.freshH id _ hmem).1
    obtain ⟨xs, h1, h2, h3, h4⟩ := h.ch id _ hmem
    obtain ⟨hx, ys, h5, h6⟩ := h2 k hp (by simp)
    have ht := h.forget (k := k) hmem
    have hin : ∀ b, blk (hs k) = some b → bks ρ id (.rows e e' sz n none hs m f) b := fun b e => .inr ⟨k, hp, by simp, e⟩
    have ha := ht.addOld (x := hs k) (c := .vec e' sz (m k) (f k)) (fun b e => ?_) ⟨ys, by rw [upd_same]; exact h5, h6⟩ rfl
    · have hne : id ≠ s.m := by omega
      have hρ : upd ρ s.m (hs k) id = ρ id := by simp [upd, hne]
      have hm2 : (id, Ch.rows e e' sz n (some k) hs m f) ∈ ((s.m, Ch.vec e' sz (m k) (f k)) :: (id, Ch.rows e e' sz n (some k) hs m f) :: delH id s.H) := by simp
      refine kk _ _ ⟨_, _, ha.touch (c' := .held e e' sz n k (.own s.m) hs m f) hm2 (w' := w) ⟨rfl, rfl, rfl, Nat.le_refl _, fun _ _ _ => rfl⟩ ⟨xs, by rw [hρ]; exact h1, fun _ => ⟨hs k, hx, (upd_same ρ s.m _).symm, ?_⟩, fun i hi hh => h2 i hi (by simp), fun i b hi hh => by rw [hρ]; exact h3 i b hi (by simp), fun i j b hi hj hhi hhj => h4 i j b hi hj (by simp) (by simp)⟩ (by show Nat.blt s.m (s.m + 1) = true; simp) (fun b e => ?_)⟩
      · rw [upd_same]
        rcases h5.2 with ⟨e1, _⟩ | ⟨b, cap, cur, e1, _⟩
        · exact .inl ⟨_, _, _, e1⟩
        · exact .inl ⟨_, _, _, e1⟩
      · rcases e with e | ⟨i, hi, hh, e⟩
        · exact .inl e
        · exact .inr ⟨i, hi, fun e2 => hh (Option.some.inj e2).symm, e⟩
    · have eb : blk (hs k) = some b := by
        have e0 : blk (upd ρ s.m (hs k) s.m) = some b := e
        rwa [upd_same] at e0
      refine ⟨h.out id _ b hmem (hin b eb), h.mine id _ b hmem (hin b eb), fun i ci hi e2 => ?_⟩
      rcases List.mem_cons.1 hi with e3 | hi
      · obtain ⟨rfl, rfl⟩ := Prod.mk.inj e3
        rcases e2 with e2 | ⟨j, hj, hh, e2⟩
        · exact h3 k b hp (by simp) eb e2
        · exact h4 k j b hp hj (by simp) (by simp) (fun e5 => hh (by rw [e5])) eb e2
      · obtain ⟨hi, hne⟩ := mem_delH hi
        exact h.sep id i _ ci b hmem hi (Ne.symm hne) (hin b eb) e2
  · simp at hr

/-- A row that was held is among its rows again. -/
theorem Go.letgo (id : Nat) {fs : Value → St} (hr : letgo s id = some fs) (kk : ∀ v, Go C K (fs v) Φ) : Go C K s Φ := by
  rintro a w ⟨ρ, F, h⟩
  unfold Sx.letgo at hr
  split at hr
  · rename_i e e' sz n k id2 hs m f hgH
    split at hr
    · rename_i e2 sz2 n2 f2 hgH2
      cases hb : (Nat.beq e' e2 && Nat.beq sz sz2 && !(Nat.beq id id2)) with
      | false => rw [hb] at hr; simp at hr
      | true =>
        rw [hb] at hr
        simp only [cond_true, Option.some.injEq] at hr
        subst hr
        simp only [Bool.and_eq_true, Bool.not_eq_true'] at hb
        obtain ⟨⟨b3, b4⟩, b5⟩ := hb
        have b3 := Nat.eq_of_beq_eq_true b3
        have b4 := Nat.eq_of_beq_eq_true b4
        subst b3 b4
        have hne : id ≠ id2 := fun e => by rw [e] at b5; simp at b5
        have hm1 := get_mem hgH
        have hm2 := get_mem hgH2
        obtain ⟨xs, h1, h0, h2, h3, h4⟩ := h.ch id _ hm1
        obtain ⟨ys, o1, o2⟩ := h.ch id2 _ hm2
        have hA : SatW C { L := mapL (kill id2) s.L, H := mapH (kill id2) (delH id (delH id2 s.H)), m := s.m } a w ρ F := by
          refine h.change (kill id2) (fun u v hu hr => hr.kill (fun _ _ => rfl) (fun _ => _root_.id) (fun _ _ => rfl)) (fun t v hv => ?_) (fun i ci hci => ?_) (fun _ => _root_.id) (fun _ _ => rfl) h.lt h.keep (Nat.le_refl _) h.sub (fun i hi => h.fixd.2 i hi)
          · obtain ⟨v0, h2, rfl⟩ := mem_mapL hv
            exact ⟨⟨v0, h2, rfl⟩, kill4_fresh (h.freshL t v0 h2)⟩
          · obtain ⟨c0, h2, rfl⟩ := mem_mapH hci
            obtain ⟨h2, hne1⟩ := mem_delH h2
            obtain ⟨h2, hne2⟩ := mem_delH h2
            exact ⟨⟨c0, h2, rfl⟩, killC_fresh (h.freshH i c0 h2).2, rfl, fun b e => by rw [bks_map] at e; exact ⟨rfl, h.out i c0 b h2 e⟩⟩
        have hown2 : ∀ b, blk (ρ id2) = some b → bks ρ id2 (.vec e' sz n2 f2) b := fun b e => e
        have hrow : ∀ j b, j < n → j ≠ k → blk (hs j) = some b → bks ρ id (.held e e' sz n k (.own id2) hs m f) b := fun j b hj hjk e => .inr ⟨j, hj, hjk, e⟩
        have hsp : ∀ j b, j < n → j ≠ k → blk (hs j) = some b → blk (ρ id2) ≠ some b := fun j b hj hjk e e2 =>
          h.sep id id2 _ _ b hm1 hm2 hne (hrow j b hj hjk e) (hown2 b e2)
        refine kk (ρ id2) _ w ⟨ρ, F, hA.addCh (c := .rows e e' sz n none (fun i => if i = k then ρ id2 else hs i) (fun i => if i = k then n2 else m i) fun i => if i = k then f2 else f i) ?_ ?_ (h.freshH id _ hm1).1 rfl ?_⟩
        · refine ⟨xs, h1, fun i hi _ => ?_, fun i b hi _ e => ?_, fun i j b hi hj _ _ hij e => ?_⟩
          · by_cases hik : i = k
            · subst hik
              simp only [if_true]
              obtain ⟨y, hy, hu⟩ := h0 hi
              exact ⟨by rw [hy, (show R0 ρ F w (.own id2) y from hu).1], ys, o1, o2⟩
            · simp only [if_neg hik]
              exact h2 i hi hik
          · by_cases hik : i = k
            · simp only [if_pos hik] at e
              exact fun e2 => h.sep id id2 _ _ b hm1 hm2 hne (.inl e2) (hown2 b e)
            · simp only [if_neg hik] at e
              exact h3 i b hi hik e
          · by_cases hik : i = k
            · simp only [if_pos hik] at e
              have hjk : j ≠ k := fun e2 => hij (hik.trans e2.symm)
              simp only [if_neg hjk]
              exact fun e2 => hsp j b hj hjk e2 e
            · simp only [if_neg hik] at e
              by_cases hjk : j = k
              · simp only [if_pos hjk]
                exact hsp i b hi hik e
              · simp only [if_neg hjk]
                exact h4 i j b hi hj hik hjk hij e
        · rintro b (e | ⟨j, hj, _, e⟩)
          · refine ⟨h.out id _ b hm1 (.inl e), fun i ci hi hne3 e2 => ?_⟩
            obtain ⟨c0, h2', rfl⟩ := mem_mapH hi
            rw [bks_map] at e2
            exact h.sep id i _ c0 b hm1 (mem_delH (mem_delH h2').1).1 (Ne.symm hne3) (.inl e) e2
          · by_cases hjk : j = k
            · simp only [if_pos hjk] at e
              refine ⟨h.out id2 _ b hm2 (hown2 b e), fun i ci hi hne3 e2 => ?_⟩
              obtain ⟨c0, h2', rfl⟩ := mem_mapH hi
              rw [bks_map] at e2
              have hd2 := mem_delH (mem_delH h2').1
              exact h.sep id2 i _ c0 b hm2 hd2.1 (Ne.symm hd2.2) (hown2 b e) e2
            · simp only [if_neg hjk] at e
              refine ⟨h.out id _ b hm1 (hrow j b hj hjk e), fun i ci hi hne3 e2 => ?_⟩
              obtain ⟨c0, h2', rfl⟩ := mem_mapH hi
              rw [bks_map] at e2
              exact h.sep id i _ c0 b hm1 (mem_delH (mem_delH h2').1).1 (Ne.symm hne3) (hrow j b hj hjk e) e2
        · rintro b (e | ⟨j, hj, _, e⟩)
          · exact h.mine id _ b hm1 (.inl e)
          · by_cases hjk : j = k
            · simp only [if_pos hjk] at e
              exact h.mine id2 _ b hm2 (hown2 b e)
            · simp only [if_neg hjk] at e
              exact h.mine id _ b hm1 (hrow j b hj hjk e)
    · simp at hr
  · simp at hr
end
end Go.Sx

/-
  Sx, part 36: an operation under a guard whose answer is known.
-/
set_option linter.unusedVariables false
set_option linter.unusedSimpArgs false
namespace Go.Sx

/-- The slot that a guard reads. -/
def guardOf (L : List (Nat × V)) (all : Array Oper) (o : Oper) : Option (Bool × Bool) :=
  match o.guard with
  | some (j, u) => match all.toList[j]? with
    | some p => match p.dst with
      | some t => match get L t with
        | some (.d (.bool b)) => some (b, u)
        | _ => none
      | none => none
    | none => none
  | none => none

section
variable {C : Ctx} {s : St} {K : List Item} {Φ : Exit → St → Prop}
theorem guard_wanted {a : Act} {w : World} {ρ : Nat → Value} {F : Nat → Prop} (h : SatW C s a w ρ F) {all : Array Oper} {o : Oper} {b u : Bool} (hg : guardOf s.L all o = some (b, u)) : Region.wanted o (yielded all a.tmps) = true ↔ b = u := by
  unfold guardOf at hg
  split at hg
  · rename_i j u' hgd
    split at hg
    · rename_i p hp
      split at hg
      · rename_i t ht
        split at hg
        · rename_i b' hb
          simp only [Option.some.injEq, Prod.mk.injEq] at hg
          obtain ⟨rfl, rfl⟩ := hg
          obtain ⟨x, hx, hr⟩ := h.slot t _ (get_mem hb)
          cases (show RD F w _ _ from hr)
          have hp' : all[j]? = some p := by rw [← Array.getElem?_toList]; exact hp
          simp [Region.wanted, hgd, yielded, hp', ht, hx]
        · simp at hg
      · simp at hg
    · simp at hg
  · simp at hg

/-- It is wanted. -/
theorem Go.want {all : Array Oper} {o : Oper} {rest : List Oper} {b u : Bool} (hg : guardOf s.L all o = some (b, u)) (hb : b = u) (k : Go C (.ops all ({ o with guard := none } :: rest) :: K) s Φ) : Go C (.ops all (o :: rest) :: K) s Φ := by
  intro a w hs
  obtain ⟨ρ, F, h⟩ := hs
  have hw := (guard_wanted h hg).2 hb
  have := k a w ⟨ρ, F, h⟩
  have this : wqList C.rd C.P all (den C (conc C Φ) K) ({ o with guard := none } :: rest) a w := this
  show wqList C.rd C.P all _ (o :: rest) a w
  refine ⟨?_, ?_⟩
  · have h2 := this.1
    unfold wpList at h2 ⊢
    rw [if_pos hw]
    rw [if_pos (by rfl)] at h2
    exact h2
  · have h2 := this.2
    unfold wpListIn at h2 ⊢
    rw [if_pos hw]
    rw [if_pos (by rfl)] at h2
    exact h2
end

namespace Cr
variable {P : Pg} {g : Cfg} {C : Ctx} (x : Cr P g C) {s s' : St} {K K' : List Item} {Φ : Exit → St → Prop} {ob : List Prop}
include x
theorem want {all : Array Oper} {o : Oper} {rest : List Oper} {b u : Bool} (h : run g 1000 K s [] = .op ob all o rest K' s') (ho : AllP ob) (hg : guardOf s'.L all o = some (b, u)) (hb : b = u) (k : Go C (.ops all ({ o with guard := none } :: rest) :: K') s' Φ) : Go C K s Φ :=
  x.op h ho (Go.want hg hb k)
end Cr
end Go.Sx

/-
  Sx, part 37: functions that may end in a panic, which holds a struct of numbers.
-/
set_option linter.unusedVariables false
set_option linter.unusedSimpArgs false
namespace Go.Sx

/-- How a function ends. -/
inductive Out where
  | ret (r : V) (H' : List Ch)
  | die (t : TypeId) (ns : List (IntKind × Int))

def dieV (t : TypeId) (ns : List (IntKind × Int)) : Value := .iface t (.agg (ns.map fun x => Value.int x.1 x.2).toArray)
def dieC (t : TypeId) (ns : List (IntKind × Int)) : List PanicEntry := [{ v := dieV t ns, recovered := false }]

/-- **A CONTRACT OF DEATH**: called so, the function panics. -/
def Dies (P : Pg) (f : FuncId) (args : List V) (H : List Ch) (t : TypeId) (ns : List (IntKind × Int)) : Prop :=
  Callable P.P f ∧ freshAll args H H.length = true ∧
  ∀ (w : World) (F : Nat → Prop) (ρ : Nat → Value) (vals : List Value), (∀ k, F k → k < w.heap.size) → EnvOK P.env F w → Holds ρ F w H → All2 (R3 ρ F w) args vals →
    Calls P.P f vals.toArray w fun e w' => e = .panicked (dieC t ns) ∧ Keeps w (ownB ρ H) w'

def ProcO (P : Pg) (f : FuncId) (fix : Nat) (args : List V) (H : List Ch) : Out → Prop
  | .ret r H' => Proc P f fix args H r H'
  | .die t ns => Dies P f args H t ns

def RetD (t : TypeId) (ns : List (IntKind × Int)) : Exit → St → Prop := fun e s => e = .panic (dieC t ns) ∧ s.L = []
def RetO (g : Cfg) (rs : List ResultVar) (ids : List Nat) : Out → Exit → St → Prop
  | .ret r H' => Ret g rs ids r H'
  | .die t ns => RetD t ns
def okOut (g : Cfg) (args : List V) (H : List Ch) : Out → Bool
  | .ret r H' => Nat.ble args.length g.n && freshAll args H H.length && freshAll [r] H' H'.length && Nat.ble g.fix H.length && Nat.ble H.length H'.length
  | .die _ _ => Nat.ble args.length g.n && freshAll args H H.length && Nat.ble g.fix H.length

/-- Panics forget the slots that a statement's operations write. -/
def QuietP (ops : Array Oper) (Φ : Exit → St → Prop) : Prop := ∀ c s, Φ (.panic c) s → ∀ t v, (t, v) ∈ s.L → isG v = false ∧ ∀ o ∈ ops.toList, o.dst ≠ some t
theorem quiet_nil {ops : Array Oper} {s : St} (h : s.L = []) : ∀ t v, (t, v) ∈ s.L → isG v = false ∧ ∀ o ∈ ops.toList, o.dst ≠ some t := fun t v hv => by rw [h] at hv; cases hv
theorem RetD.quiet {ops : Array Oper} {t : TypeId} {ns : List (IntKind × Int)} : QuietP ops (RetD t ns) := fun c s h => quiet_nil h.2
theorem RetO.quiet {ops : Array Oper} {g : Cfg} {rs : List ResultVar} {ids : List Nat} : ∀ {o : Out}, QuietP ops (RetO g rs ids o)
  | .ret _ _ => fun c s h => absurd h (Ret.noPanic c s)
  | .die _ _ => RetD.quiet
theorem NoPanic.quiet {ops : Array Oper} {Φ : Exit → St → Prop} (h : NoPanic Φ) : QuietP ops Φ := fun c s hh => absurd hh (h c s)
theorem RetO.noGoto {g : Cfg} {rs : List ResultVar} {ids : List Nat} : ∀ {o : Out}, NoGoto (RetO g rs ids o)
  | .ret _ _ => Ret.noGoto
  | .die _ _ => fun l s h => by cases h.1

theorem den_pan {C : Ctx} {Q : Exit → Act → World → Prop} : ∀ (K : List Item) (c : _) (a : Act) (w : World), den C Q K (.panic c) a w = Q (.panic c) a w
  | [], c, a, w => rfl
  | .code _ :: K, c, a, w => den_pan K c a w
  | .ops _ _ :: K, c, a, w => den_pan K c a w
  | .blk _ :: K, c, a, w => den_pan K c a w
  | .back _ :: K, c, a, w => den_pan K c a w

section
variable {C : Ctx} {s : St} {a : Act} {w w' : World} {ρ : Nat → Value} {F : Nat → Prop} {g : Cfg}

theorem RS_tmps {tmps tmps' : Array Value} {v : V} {x : Value} (hg : isG v = false) (h : RS tmps ρ F w v x) : RS tmps' ρ F w v x := by
  cases v <;> first | exact h | cases hg

/-- A state does not hang on slots of which it says nothing. -/
theorem Sat.put_quiet {d : Option Nat} {v : Value} (hs : ∀ t v, (t, v) ∈ s.L → isG v = false ∧ d ≠ some t) (h : Sat C s (a.put d v) w) : Sat C s a w := by
  obtain ⟨ρ, F, h⟩ := h
  refine ⟨ρ, F, { size := ?_, defers := ?_, slot := fun t u hu => ?_, ch := h.ch, sep := h.sep, out := h.out, freshL := h.freshL, freshH := h.freshH, lt := h.lt, mine := h.mine, sub := h.sub, base := h.base, fixd := h.fixd, keep := h.keep, env := h.env }⟩
  · have := h.size
    cases d with
    | none => exact this
    | some d => simpa [Act.put] using this
  · have := h.defers
    cases d with
    | none => exact this
    | some d => exact this
  · obtain ⟨x, hx, hr⟩ := h.slot t u hu
    obtain ⟨h1, h2⟩ := hs t u hu
    refine ⟨x, ?_, RS_tmps h1 hr⟩
    cases d with
    | none => exact hx
    | some d =>
      have hne : d ≠ t := fun e => h2 (by rw [e])
      simp only [Act.put] at hx
      rwa [Array.getElem?_setIfInBounds_ne hne] at hx

theorem den_quiet {Φ : Exit → St → Prop} {ops : Array Oper} (hΦ : QuietP ops Φ) (K : List Item) (c : _) {o : Oper} (ho : o ∈ ops.toList) (v : Value) (a : Act) (w : World) (h : den C (conc C Φ) K (.panic c) (a.put o.dst v) w) : den C (conc C Φ) K (.panic c) a w := by
  rw [den_pan] at h ⊢
  obtain ⟨s, h1, h2⟩ := h
  exact ⟨s, h1.put_quiet fun t v hv => ⟨(hΦ c s h2 t v hv).1, (hΦ c s h2 t v hv).2 o ho⟩, h2⟩

def okD (m : Nat) (is : List Nat) (k : Nat) : Bool := nodupB is && is.all (fun i => Nat.blt i m) && Nat.beq is.length k

/-- What is handed to a call. -/
theorem call_args (h : SatW C s a w ρ F) {q : List (Nat × Bool)} (hq : pcA a.tmps q) {o : Oper} {f : FuncId} {A : List V} (hco : callOf s.L q o = some (f, A)) (hcall : Callable C.P f)
    {is : List Nat} {args : List V} {H : List Ch} (hfr : freshAll args H H.length = true) (hA : AEq A (args.map (V.map3 (ren0 is)))) (hok : okD s.m is H.length = true) (hH : HLE s.H (rnH is is H)) :
    ∃ vals : List Value, (execOp a.eval o).run C.P w = .ok (.enter f vals.toArray) w ∧ All2 (R3 (fun i => ρ (nth is i)) F w) args vals ∧ Holds (fun i => ρ (nth is i)) F w H := by
  unfold callOf at hco
  split at hco
  · rename_i c hop
    split at hco
    · rename_i fo hc
      split at hco
      · rename_i f' caps A' he hes
        simp only [Option.some.injEq, Prod.mk.injEq] at hco
        obtain ⟨rfl, rfl⟩ := hco
        obtain ⟨cs, hcs, hcaps⟩ := (show R1 ρ F w (.fn f' caps) _ from (ev_sound h hq he).1)
        have hargs := (evs_sound h hq hes).1
        simp only [okD, Bool.and_eq_true, List.all_eq_true] at hok
        obtain ⟨⟨o1, o2⟩, o4⟩ := hok
        have hisl := Nat.eq_of_beq_eq_true o4
        simp only [freshAll, Bool.and_eq_true, List.all_eq_true] at hfr
        have hvals : c.args.map a.eval ++ cs.toArray = (c.args.toList.map a.eval ++ cs).toArray := by
          cases c.args; simp
        have hall : All2 (R3 ρ F w) (A' ++ caps) (c.args.toList.map a.eval ++ cs) := hargs.app (hcaps.mono fun u v hr => R3_of (R2_of (R1_of hr)))
        have hall2 := AEq_sound hA hall
        have hall3 : All2 (R3 (fun i => ρ (nth is i)) F w) args (c.args.toList.map a.eval ++ cs) := hall2.unmap fun u v hu hr => R3.unren (k := H.length) (fun _ _ => rfl) (hfr.1 u hu) hr
        refine ⟨_, by rw [← hvals]; exact run_call hop hc hcs hcall w, hall3, ?_⟩
        have hx : ∀ i, i < H.length → ∃ c, H[i]? = some c ∧ ∃ c0, (nth is i, c0) ∈ s.H ∧ ChEq c0 (c.map (ren0 is)) := fun i hi => by
          obtain ⟨c0, k1, k2⟩ := rnH_mem hisl hH (List.getElem?_eq_getElem hi)
          exact ⟨_, List.getElem?_eq_getElem hi, c0, k1, k2⟩
        refine ⟨fun i c hc => ?_, fun i j b hi hj hij e => ?_, fun i b hi e => ?_⟩
        · have hi := (List.getElem?_eq_some_iff.1 hc).1
          obtain ⟨c', hc', c0, k1, k2⟩ := hx i hi
          rw [hc] at hc'
          obtain rfl := Option.some.inj hc'
          exact ChOK.unren (k := H.length) (ρ := fun i => ρ (nth is i)) (fun _ _ => rfl) hi (hfr.2 c (List.mem_of_getElem? hc)).1 (ChEq_sound k2 (h.ch _ _ k1))
        · obtain ⟨_, _, c0, k1, _⟩ := hx i hi
          obtain ⟨_, _, c1, k3, _⟩ := hx j hj
          exact fun e2 => h.sep _ _ c0 c1 b k1 k3 (nodupB_sound o1 i j (by omega) (by omega) hij) (bks_main e) (bks_main e2)
        · obtain ⟨_, _, c0, k1, _⟩ := hx i hi
          exact h.out _ c0 b k1 (bks_main e)
      · simp at hco
    · simp at hco
  · simp at hco

/-- The slots of which a panic says something. -/
def keepL (pins : List Nat) : List (Nat × V) → List (Nat × V)
  | [] => []
  | (t, v) :: r => bif inL t pins && !isG v then (t, v) :: keepL pins r else keepL pins r
theorem keepL_mem {pins : List Nat} {t : Nat} {v : V} : ∀ {L : List (Nat × V)}, (t, v) ∈ keepL pins L → (t, v) ∈ L
  | (t', v') :: r, h => by
    simp only [keepL] at h
    cases hb : (inL t' pins && !isG v') with
    | true =>
      rw [hb] at h
      simp only [cond_true, List.mem_cons] at h
      rcases h with h | h
      · rw [h]; exact List.mem_cons_self
      · exact List.mem_cons_of_mem _ (keepL_mem h)
    | false => rw [hb] at h; exact List.mem_cons_of_mem _ (keepL_mem h)
/-- What is left where a call has died: all but what it was handed. -/
theorem SatW.died (pins : List Nat) (h : SatW C s a w ρ F) {is : List Nat} {H : List Ch} (hok : okD s.m is H.length = true) (hH : HLE s.H (rnH is is H)) (hk : Keeps w (ownB (fun i => ρ (nth is i)) H) w') :
    SatW C ⟨keepL pins s.L, delAll is s.H, s.m⟩ a w' ρ F := by
  simp only [okD, Bool.and_eq_true, List.all_eq_true] at hok
  obtain ⟨⟨o1, o2⟩, o4⟩ := hok
  have hisl := Nat.eq_of_beq_eq_true o4
  have hE : ∀ b, ownB (fun i => ρ (nth is i)) H b → ∃ p c0, p < is.length ∧ (nth is p, c0) ∈ s.H ∧ bks ρ (nth is p) c0 b := fun b hb => by
    obtain ⟨p, hp, hb⟩ := hb
    obtain ⟨c0, k1, _⟩ := rnH_mem hisl hH (List.getElem?_eq_getElem hp)
    exact ⟨p, c0, by omega, k1, bks_main hb⟩
  have hwF : ∀ k, F k → w'.heap[k]? = w.heap[k]? := fun k hk' => hk.block k (h.lt k hk') (fun hb => by
    obtain ⟨p, c0, hp, k1, k2⟩ := hE k hb
    exact h.out _ c0 k k1 k2 hk')
  have hkeepC : Keeps C.w0 C.E w' := ⟨hk.os.trans h.keep.os, hk.tape.trans h.keep.tape, hk.output.trans h.keep.output, Nat.le_trans h.keep.size hk.size, fun k hk0 hne => by
    refine (hk.block k (Nat.lt_of_lt_of_le hk0 h.keep.size) (fun hb => ?_)).trans (h.keep.block k hk0 hne)
    obtain ⟨p, c0, hp, k1, k2⟩ := hE k hb
    rcases h.mine _ c0 k k1 k2 with h1 | h1
    · omega
    · exact hne h1⟩
  refine h.change (fun u => u) (fun u v hu hr => hr.keep (x := s.m) (fun _ _ => rfl) (fun _ => id) hwF (fresh_names (Nat.le_refl _) hu)) (fun t v hv => ⟨⟨v, keepL_mem hv, (map4_id v).symm⟩, h.freshL t v (keepL_mem hv)⟩) (fun i c hc => ?_) (fun _ => id) hwF (fun k hk' => Nat.lt_of_lt_of_le (h.lt k hk') hk.size) hkeepC (Nat.le_refl _) h.sub h.fixd.2
  obtain ⟨hc, hni⟩ := delAll_mem hc
  refine ⟨⟨c, hc, (chmap_id c).symm⟩, (h.freshH i c hc).2, rfl, fun b e => ⟨hk.block b ((h.ch i c hc).lt e) (fun hb => ?_), h.out i c b hc e⟩⟩
  obtain ⟨p, c1, hp, k1, k2⟩ := hE b hb
  exact h.sep i (nth is p) c c1 b hc k1 (fun e2 => hni (by rw [e2]; exact nth_mem hp)) e k2

theorem Oper.upon_enter' {P : Program} {o : Oper} {a : Act} {w : World} {f : FuncId} {vals : Array Value} {K : Act → World → Prop} {Q : Exit → Act → World → Prop} (h : (execOp a.eval o).run P w = .ok (.enter f vals) w) {c : List PanicEntry} {R : World → Prop}
    (hc : Calls P f vals w fun e w' => e = .panicked c ∧ R w') (hQ : ∀ w', R w' → Q (.panic c) a w') {rr : Option Nat} : wqO rr P o a w K Q := by
  refine wqO_of h trivial ?_
  rw [Oper.upon_enter]
  refine hc.mono ?_
  rintro e w' ⟨rfl, hr⟩
  exact hQ w' hr
end

namespace Cr
variable {P : Pg} {g : Cfg} {C : Ctx} (x : Cr P g C) {s s' : St} {K K' : List Item} {Φ : Exit → St → Prop} {ob : List Prop}
include x
/-- A call that panics; the slots that are pinned stay told. -/
theorem dieP (pins is : List Nat) {all : Array Oper} {o : Oper} {rest : List Oper} {args A : List V} {H : List Ch} {f d : Nat} {t : TypeId} {ns : List (IntKind × Int)} (h : run g 1000 K s [] = .op ob all o rest K' s') (ho : AllP ob)
    (hco : callInfo g s' o = some (f, A, d)) (hp : Dies P f args H t ns) (hA : AEq A (args.map (V.map3 (ren0 is)))) (hok : okD s'.m is H.length = true) (hH : HLE s'.H (rnH is is H))
    (k : Φ (.panic (dieC t ns)) ⟨keepL pins s'.L, delAll is s'.H, s'.m⟩) : Go C K s Φ := by
  refine st x.ty x.n x.fix h ⟨ho, ?_⟩
  unfold callInfo at hco
  split at hco
  · rename_i d' hg hd
    cases hb : Nat.blt d' g.n with
    | false => rw [hb] at hco; simp at hco
    | true =>
      rw [hb] at hco
      simp only [cond_true] at hco
      split at hco
      · rename_i f' A' hc
        simp only [Option.some.injEq, Prod.mk.injEq] at hco
        obtain ⟨rfl, rfl, rfl⟩ := hco
        rintro a w ⟨ρ, F, hs⟩
        obtain ⟨h1, h2, h3⟩ := hp
        rw [← x.progP] at h1 h3
        obtain ⟨vals, r1, r2, r3⟩ := call_args hs (pc_nil _) hc h1 h2 hA hok hH
        have henv : EnvOK P.env F w := by have := hs.env; rwa [show C.env = P.env from congrArg Pg.env x.prog] at this
        show wqList C.rd C.P all (den C (conc C Φ) K') (o :: rest) a w
        refine wqList_plain hg fun N hN => ?_
        refine Oper.upon_enter' r1 (h3 w F _ vals hs.lt henv r3 r2) fun w' hk => ?_
        rw [den_pan]
        exact ⟨_, ⟨ρ, F, hs.died pins hok hH hk⟩, k⟩
      · simp at hco
  · simp at hco

/-- A call that panics. -/
theorem die (is : List Nat) {all : Array Oper} {o : Oper} {rest : List Oper} {args A : List V} {H : List Ch} {f d : Nat} {t : TypeId} {ns : List (IntKind × Int)} (h : run g 1000 K s [] = .op ob all o rest K' s') (ho : AllP ob)
    (hco : callInfo g s' o = some (f, A, d)) (hp : Dies P f args H t ns) (hA : AEq A (args.map (V.map3 (ren0 is)))) (hok : okD s'.m is H.length = true) (hH : HLE s'.H (rnH is is H))
    (k : Φ (.panic (dieC t ns)) ⟨[], delAll is s'.H, s'.m⟩) : Go C K s Φ :=
  dieP x [] is h ho hco hp hA hok hH (by
    have : ∀ L, keepL [] L = [] := fun L => by induction L with
      | nil => rfl
      | cons e L ih => obtain ⟨t, v⟩ := e; simp [keepL, inL, ih]
    rw [this]; exact k)

/-- A panic. -/
theorem raise {all : Array Oper} {o : Oper} {rest : List Oper} {y : Operand} {t : TypeId} {ns : List (IntKind × Int)} (h : run g 1000 K s [] = .op ob all o rest K' s') (ho : AllP ob) (hgd : o.guard = none) (hop : o.op = .panic y) (hy : ev s'.L [] y = some (.d (.ifc t ns)))
    (k : Φ (.panic (dieC t ns)) ⟨[], s'.H, s'.m⟩) : Go C K s Φ := by
  refine st x.ty x.n x.fix h ⟨ho, ?_⟩
  rintro a w ⟨ρ, F, hs⟩
  show wqList C.rd C.P all (den C (conc C Φ) K') (o :: rest) a w
  refine wqList_plain hgd fun N hN => ?_
  have hv := (ev_sound hs (pc_nil _) hy).1
  generalize hev : a.eval y = vy at hv
  cases (show RD F w _ _ from hv)
  have hrun : (execOp a.eval o).run C.P w = .halt (.panic (dieV t ns)) w := by
    simp only [execOp, hop, hev, Instr.panic]
    rfl
  refine wqO_halt hrun ?_
  rw [den_pan]
  exact ⟨⟨[], s'.H, s'.m⟩, ⟨ρ, F, { size := hs.size, defers := hs.defers, slot := fun t v hv => (by cases hv), ch := hs.ch, sep := hs.sep, out := hs.out, freshL := fun t v hv => (by cases hv), freshH := hs.freshH, lt := hs.lt, mine := hs.mine, sub := hs.sub, base := hs.base, fixd := hs.fixd, keep := hs.keep, env := hs.env }⟩, k⟩
end Cr

/-- How a contract of death is proved. -/
theorem Dies.intro {P : Pg} {f : FuncId} {fn : Func} {c : Code} {args : List V} {H : List Ch} {t : TypeId} {ns : List (IntKind × Int)} (hf : P.P.funcs[f]? = some fn) (hb : fn.body = some c) (hname : (fn.name == "runtime.NumGoroutine") = false)
    {g : Cfg} (hn : g.n = fn.ntmps) (hlen : Nat.ble args.length g.n = true) (hfr : freshAll args H H.length = true) (hfx : Nat.ble g.fix H.length = true)
    (hgo : ∀ (C : Ctx), C.pg = P → g.n = C.n → g.fix = C.fix → C.rd = none → Go C [.code c] ⟨ixV 0 args, ixC 0 H, H.length⟩ (RetD t ns)) : Dies P f args H t ns := by
  refine ⟨⟨fn, hf, by rw [hb]; rfl, hname⟩, hfr, fun w F ρ vals hF hE hH hargs => ?_⟩
  have hfx' : g.fix ≤ H.length := by simpa using hfx
  have hlen' : args.length ≤ g.n := by simpa using hlen
  have hvl := hargs.length
  simp only [freshAll, Bool.and_eq_true, List.all_eq_true] at hfr
  let C : Ctx := { P := P.P, env := P.env, n := g.n, w0 := w, E := ownB ρ H, F0 := F, ρ0 := ρ, fix := g.fix, defs := [] }
  refine calls_of_wp hf hb ?_
  have hsat : Sat C ⟨ixV 0 args, ixC 0 H, H.length⟩ { tmps := vals.toArray ++ Array.replicate (fn.ntmps - vals.toArray.size) undef, defers := [] } w := by
    refine ⟨ρ, F, { size := ?_, defers := .start rfl, slot := ?_, ch := ?_, sep := ?_, out := ?_, freshL := ?_, freshH := ?_, lt := hF, mine := ?_, sub := fun k hk => .inl hk, base := fun _ hk => hk, fixd := ⟨hfx', fun _ _ => rfl⟩, keep := ⟨rfl, rfl, rfl, Nat.le_refl _, fun _ _ _ => rfl⟩, env := hE }⟩
    · simp only [Array.size_append, List.size_toArray, Array.size_replicate]
      show _ = g.n
      omega
    · intro t v hv
      obtain ⟨_, hv⟩ := mem_ixV hv
      obtain ⟨x, hx, hr⟩ := hargs.get hv
      refine ⟨x, ?_, RS_of hr⟩
      simp only [Nat.sub_zero] at hx
      have : t < vals.length := (List.getElem?_eq_some_iff.1 hx).1
      rw [Array.getElem?_append_left (by simpa using this)]
      simpa using hx
    · intro i c hc
      obtain ⟨_, hc⟩ := mem_ixC hc
      exact hH.ch i c (by simpa using hc)
    · intro i j ci cj b hi hj hij e
      obtain ⟨_, hi⟩ := mem_ixC hi
      obtain ⟨_, hj⟩ := mem_ixC hj
      exact fun e2 => hH.sep i j b (by simpa using (List.getElem?_eq_some_iff.1 hi).1) (by simpa using (List.getElem?_eq_some_iff.1 hj).1) hij (bks_plain (hfr.2 ci (List.mem_of_getElem? hi)).2 e) (bks_plain (hfr.2 cj (List.mem_of_getElem? hj)).2 e2)
    · intro i ci b hi e
      obtain ⟨_, hi⟩ := mem_ixC hi
      exact hH.out i b (by simpa using (List.getElem?_eq_some_iff.1 hi).1) (bks_plain (hfr.2 ci (List.mem_of_getElem? hi)).2 e)
    · intro t v hv
      obtain ⟨_, hv⟩ := mem_ixV hv
      obtain ⟨x, hx, hr⟩ := hargs.get hv
      have := hfr.1 v (List.mem_of_getElem? hv)
      cases v <;> first | exact this | exact (show False from hr).elim
    · intro i ci hi
      obtain ⟨_, hi⟩ := mem_ixC hi
      exact ⟨by simpa using (List.getElem?_eq_some_iff.1 hi).1, (hfr.2 ci (List.mem_of_getElem? hi)).1⟩
    · intro i ci b hi e
      obtain ⟨_, hi⟩ := mem_ixC hi
      exact .inr ⟨i, by simpa using (List.getElem?_eq_some_iff.1 hi).1, bks_plain (hfr.2 ci (List.mem_of_getElem? hi)).2 e⟩
  refine wp_mono (wq_none.1 (hgo C rfl rfl rfl rfl _ _ hsat)) ?_
  rintro e a' w' ⟨s', ⟨ρ', F', h'⟩, rfl, _⟩
  exact ⟨h'.defers.none rfl, rfl, h'.keep⟩

/-- Either end. -/
theorem ProcO.mk {P : Pg} (g : Cfg) (htys : TysOK P.P g.tys) (ids : List Nat) {f : FuncId} {fn : Func} {c : Code} {args : List V} {H : List Ch} {out : Out} {rs : List ResultVar} (hf : P.P.funcs[f]? = some fn) (hb : fn.body = some c) (hname : (fn.name == "runtime.NumGoroutine") = false)
    (hn : g.n = fn.ntmps) (hrs : fn.results = rs.toArray) (hok : okOut g args H out = true)
    (hgo : ∀ (C : Ctx), Cx P g C → Go C [.code c] ⟨ixL args, ixH H, lenL H⟩ (RetO g rs ids out)) : ProcO P f g.fix args H out := by
  cases out with
  | ret r H' => exact Proc.mk g htys ids hf hb hname hn hrs hok hgo
  | die t ns =>
    simp only [okOut, Bool.and_eq_true] at hok
    exact Dies.intro hf hb hname hn hok.1.1 hok.1.2 hok.2 fun C e1 e2 e3 e4 => by rw [← ixL_eq, ← ixH_eq, ← lenL_eq]; exact hgo C ⟨⟨e1, e2, e3, htys⟩, e4⟩
end Go.Sx

/-
  Sx, part 38: a frame, and statements that draw their order in which a call may come before or after what reads other memory.
-/
set_option linter.unusedVariables false
set_option linter.unusedSimpArgs false
namespace Go.Sx

/-- The blocks of the chunks `is`. -/
def blocksOf (ρ : Nat → Value) (H : List (Nat × Ch)) (is : List Nat) : Nat → Prop := fun b => ∃ i c, inL i is = true ∧ (i, c) ∈ H ∧ bks ρ i c b

def onlyIn (is : List Nat) : List (Nat × Ch) → List (Nat × Ch)
  | [] => []
  | (i, c) :: r => bif inL i is then (i, c) :: onlyIn is r else onlyIn is r
theorem onlyIn_mem {is : List Nat} {H : List (Nat × Ch)} {i : Nat} {c : Ch} (h : (i, c) ∈ onlyIn is H) : (i, c) ∈ H ∧ inL i is = true := by
  induction H with
  | nil => cases h
  | cons e r ih =>
    obtain ⟨j, d⟩ := e
    unfold onlyIn at h
    cases hj : inL j is with
    | false => rw [hj] at h; simp at h; exact ⟨List.mem_cons_of_mem _ (ih h).1, (ih h).2⟩
    | true =>
      rw [hj] at h
      simp only [cond_true, List.mem_cons, Prod.mk.injEq] at h
      rcases h with ⟨rfl, rfl⟩ | h
      · exact ⟨by simp, hj⟩
      · exact ⟨List.mem_cons_of_mem _ (ih h).1, (ih h).2⟩

section
variable {C : Ctx} {s : St} {a : Act} {w : World} {ρ : Nat → Value} {F : Nat → Prop}

/-- The context of a part that owns the chunks `is` alone. -/
def Ctx.sub (C : Ctx) (s : St) (is : List Nat) (w : World) (ρ : Nat → Value) (F : Nat → Prop) : Ctx := { C with w0 := w, E := blocksOf ρ s.H is, F0 := F, ρ0 := ρ, fix := s.m }

theorem SatW.frame (h : SatW C s a w ρ F) (is : List Nat) : SatW (C.sub s is w ρ F) ⟨s.L, onlyIn is s.H, s.m⟩ a w ρ F where
  size := h.size
  defers := h.defers
  slot := h.slot
  ch i c hi := h.ch i c (onlyIn_mem hi).1
  sep i j ci cj b hi hj := h.sep i j ci cj b (onlyIn_mem hi).1 (onlyIn_mem hj).1
  out i c b hi := h.out i c b (onlyIn_mem hi).1
  freshL := h.freshL
  freshH i c hi := h.freshH i c (onlyIn_mem hi).1
  lt := h.lt
  mine i c b hi e := .inr ⟨i, c, (onlyIn_mem hi).2, (onlyIn_mem hi).1, e⟩
  sub k hk := .inl hk
  base k hk := hk
  fixd := ⟨Nat.le_refl _, fun _ _ => rfl⟩
  keep := ⟨rfl, rfl, rfl, Nat.le_refl _, fun _ _ _ => rfl⟩
  env := h.env

theorem SatW.unframe (h : SatW C s a w ρ F) {is : List Nat} {s1 : St} {a1 : Act} {w1 : World} {ρ1 : Nat → Value} {F1 : Nat → Prop} (h1 : SatW (C.sub s is w ρ F) s1 a1 w1 ρ1 F1) :
    SatW C ⟨s1.L, app3 s1.H (delAll is s.H), s1.m⟩ a1 w1 ρ1 F1 := by
  have hm : s.m ≤ s1.m := h1.fixd.1
  have hρ : ∀ i, i < s.m → ρ1 i = ρ i := h1.fixd.2
  have hE : ∀ b, blocksOf ρ s.H is b → C.w0.heap.size ≤ b ∨ C.E b := fun b ⟨i, c, _, hi, e⟩ => h.mine i c b hi e
  have hFw : ∀ k, F k → w1.heap[k]? = w.heap[k]? := fun k hk => h1.keep.block k (h.lt k hk) fun ⟨i, c, _, hi, e⟩ => h.out i c k hi e hk
  have hrest : ∀ {i c b}, (i, c) ∈ delAll is s.H → bks ρ i c b → b < w.heap.size ∧ ¬ blocksOf ρ s.H is b := fun {i c b} hi e => by
    obtain ⟨hi, hni⟩ := delAll_mem hi
    refine ⟨(h.ch i c hi).lt e, fun ⟨j, d, hj, hjd, e2⟩ => h.sep i j c d b hi hjd (fun e3 => hni (by rw [e3]; exact inL_iff.1 hj)) e e2⟩
  have split : ∀ {i c}, (i, c) ∈ app3 s1.H (delAll is s.H) → (i, c) ∈ s1.H ∨ (i, c) ∈ delAll is s.H := fun {i c} hi => by rw [app3_eq] at hi; exact List.mem_append.1 hi
  have hbk : ∀ {i c b}, (i, c) ∈ delAll is s.H → (bks ρ1 i c b ↔ bks ρ i c b) := fun {i c b} hi => by
    rw [bks_congr (hρ i (h.freshH i c (delAll_mem hi).1).1)]
  exact
    { size := h1.size, defers := h1.defers, slot := h1.slot, freshL := h1.freshL, lt := h1.lt, env := h1.env
      ch := fun i c hi => by
        rcases split hi with hi | hi
        · exact h1.ch i c hi
        · obtain ⟨hi2, hni⟩ := delAll_mem hi
          have := ChOK.keep (x := 0) (p := fresh s.m) (k := fun u => u) (ρ' := ρ1) (F' := F1) (w' := w1) (fun u v hu hr => by
            have := R0.killIn (xs := []) (m := s.m) (ρ' := ρ1) (F' := F1) (w' := w1) (fun i hi _ => hρ i hi) (fun k hk => h1.base k hk) hFw hu hr
            rwa [show killIn [] u = u by cases u <;> rfl] at this) (fun k hk => h1.base k hk) hFw (hρ i (h.freshH i c hi2).1) (fun b e => by
              obtain ⟨e1, e2⟩ := hrest hi e
              exact h1.keep.block b e1 e2) (h.freshH i c hi2).2 (h.ch i c hi2)
          rwa [chmap_id] at this
      sep := fun i j ci cj b hi hj hij e => by
        have cross : ∀ {i j ci cj b}, (i, ci) ∈ s1.H → (j, cj) ∈ delAll is s.H → bks ρ1 i ci b → ¬ bks ρ1 j cj b := fun {i j ci cj b} hi hj e e2 => by
          obtain ⟨e3, e4⟩ := hrest hj ((hbk hj).1 e2)
          rcases h1.mine i ci b hi e with h5 | h5
          · exact absurd (show w.heap.size ≤ b from h5) (by omega)
          · exact e4 h5
        rcases split hi with hi | hi <;> rcases split hj with hj | hj
        · exact h1.sep i j ci cj b hi hj hij e
        · exact cross hi hj e
        · exact fun e2 => cross hj hi e2 e
        · exact fun e2 => h.sep i j ci cj b (delAll_mem hi).1 (delAll_mem hj).1 hij ((hbk hi).1 e) ((hbk hj).1 e2)
      out := fun i c b hi e => by
        rcases split hi with hi | hi
        · exact h1.out i c b hi e
        · intro hF
          have e0 := (hbk hi).1 e
          obtain ⟨e3, e4⟩ := hrest hi e0
          rcases h1.sub b hF with h5 | h5 | h5
          · exact h.out i c b (delAll_mem hi).1 e0 h5
          · exact absurd (show w.heap.size ≤ b from h5) (by omega)
          · exact e4 h5
      freshH := fun i c hi => by
        rcases split hi with hi | hi
        · exact h1.freshH i c hi
        · obtain ⟨h5, h6⟩ := h.freshH i c (delAll_mem hi).1
          exact ⟨Nat.lt_of_lt_of_le h5 hm, chall_imp (fun u hu => fresh_mono hm hu) h6⟩
      mine := fun i c b hi e => by
        rcases split hi with hi | hi
        · rcases h1.mine i c b hi e with h5 | h5
          · exact .inl (Nat.le_trans h.keep.size h5)
          · exact hE b h5
        · exact h.mine i c b (delAll_mem hi).1 ((hbk hi).1 e)
      sub := fun k hk => by
        rcases h1.sub k hk with h5 | h5 | h5
        · exact h.sub k h5
        · exact .inr (.inl (Nat.le_trans h.keep.size h5))
        · exact .inr (hE k h5)
      base := fun k hk => h1.base k (h.base k hk)
      fixd := ⟨Nat.le_trans h.fixd.1 hm, fun i hi => by rw [hρ i (Nat.lt_of_lt_of_le hi h.fixd.1)]; exact h.fixd.2 i hi⟩
      keep := ⟨h1.keep.os.trans h.keep.os, h1.keep.tape.trans h.keep.tape, h1.keep.output.trans h.keep.output, Nat.le_trans h.keep.size h1.keep.size, fun k hk hne => by
        refine (h1.keep.block k (Nat.lt_of_lt_of_le hk h.keep.size) fun hb => ?_).trans (h.keep.block k hk hne)
        rcases hE k hb with h5 | h5
        · omega
        · exact hne h5⟩ }
end

section
variable {P : Program} {ops : Array Oper} {md : Region.Mode} {Q : Exit → Act → World → Prop} {T : List Nat} {S : World → Prop}

/-- f operations more, none of T, come up; S holds behind each. -/
def wpAnyP (P : Program) (md : Region.Mode) (ops : Array Oper) (Q : Exit → Act → World → Prop) (S : World → Prop) (T : List Nat) (L : Array Bool → Act → World → Prop) : Nat → Array Bool → Act → World → Prop
  | 0, listed, a, w => L listed a w
  | f + 1, listed, a, w => Region.ready md ops listed ≠ [] ∧ ∀ i ∈ Region.ready md ops listed, i ∉ T ∧ wpOp P ops Q i (fun a' w' => S w' ∧ wpAnyP P md ops Q S T L f (listed.setIfInBounds i true) a' w') a w

theorem wpAny_of_P {g : Nat} {L : Array Bool → Act → World → Prop} (hL : ∀ listed a w, L listed a w → wpAny P md ops Q g listed a w) :
    ∀ (f : Nat) (listed : Array Bool) (a : Act) (w : World), wpAnyP P md ops Q S T L f listed a w → wpAny P md ops Q (f + g) listed a w
  | 0, listed, a, w, h => by rw [Nat.zero_add]; exact hL _ _ _ h
  | f + 1, listed, a, w, h => by
    rw [show f + 1 + g = (f + g) + 1 by omega]
    exact ⟨fun h0 => absurd h0 h.1, fun i hi => wpOp_mono (fun a' w' h' => wpAny_of_P hL f _ a' w' h'.2) (h.2 i hi).2⟩

theorem wpAnyP_first {B : List Nat} {i : Nat} {oi : Oper} {v : Value} {L : Array Bool → Act → World → Prop} (hi : ops[i]? = some oi) (hsel : ∀ (j : Nat) (o : Oper) cs b, ops[j]? = some o → o.op ≠ .select cs b)
    (hQ : ∀ c a w, Q (.panic c) (a.put oi.dst v) w → Q (.panic c) a w) (hs : sinkL md ops (headOf T) B = true) (hc : chainL md ops T = true) (hin : i ∈ B)
    (hdone : ∀ listed a w, L listed a w → ∀ j ∈ Region.ready md ops listed, j ∈ T) :
    ∀ (f : Nat) (listed : Array Bool) (a : Act) (w : World), Inv md ops T listed →
      (∀ j oj, ops[j]? = some oj → j ≠ i → listed.getD j true = false → (∀ e ∈ oj.after, Region.binds md e = true → e.on ≠ i) → oi.apart ops oj = true) →
      i ∈ Region.ready md ops listed → YieldsIf P ops S oi v a → S w →
      wpAnyP P md ops Q S T L f (listed.setIfInBounds i true) (a.put oi.dst v) w → wpAnyP P md ops Q S T L (f + 1) listed a w := by
  intro f
  induction f with
  | zero =>
    intro listed a w inv _ hr hy hS H
    have hun := (mem_ready.1 hr).1
    refine ⟨fun h => (by rw [h] at hr; cases hr), fun j hj => ?_⟩
    have hjn := tail_not inv hs hc hin hun hj
    refine ⟨hjn, ?_⟩
    by_cases hji : j = i
    · subst hji; exact hy.wpOp hi hS ⟨hS, H⟩
    · exact absurd (hdone _ _ _ H j (ready_mono hj hji)) hjn
  | succ f ih =>
    intro listed a w inv hfree hr hy hS H
    have hun := (mem_ready.1 hr).1
    refine ⟨fun h => (by rw [h] at hr; cases hr), fun j hj => ?_⟩
    have hjn := tail_not inv hs hc hin hun hj
    refine ⟨hjn, ?_⟩
    by_cases hji : j = i
    · subst hji; exact hy.wpOp hi hS ⟨hS, H⟩
    · have h1 := (H.2 j (ready_mono hj hji)).2
      obtain ⟨hjun, oj, hoj, hall⟩ := mem_ready.1 hj
      have hnot : ∀ e ∈ oj.after, Region.binds md e = true → e.on ≠ i := fun e he hb heq => by
        have h1 := hall e he hb
        rw [heq, getD_both hun] at h1
        cases h1
      have h2 := wpOp_putIf hoj (hfree j oj hoj hji hjun hnot) (fun cs b => hsel i oi cs b hi) (fun cs b => hsel j oj cs b hoj) hQ hy h1
      have hfree' : ∀ k ok, ops[k]? = some ok → k ≠ i → (listed.setIfInBounds j true).getD k true = false →
          (∀ e ∈ ok.after, Region.binds md e = true → e.on ≠ i) → oi.apart ops ok = true := fun k ok hk hki hun hno => by
        refine hfree k ok hk hki ?_ hno
        by_cases hjk : j = k
        · subst hjk; exact hjun
        · rw [getD_set_ne true hjk] at hun; exact hun
      refine wpOp_mono (fun a' w' h3 => ⟨h3.2.1, ih (listed.setIfInBounds j true) a' w' (inv.set hj hjn) hfree' (ready_mono hr (Ne.symm hji)) h3.1 h3.2.1 ?_⟩) h2
      rw [Array.setIfInBounds_comm _ _ hji]
      exact h3.2.2

/-- Operations that only read, one behind the other; each yields its value in every world of S. -/
def ReadsIf (P : Program) (ops : Array Oper) (S : World → Prop) (R : Act → Prop) : List Oper → Act → Prop
  | [], a => R a
  | o :: r, a => ∃ v, YieldsIf P ops S o v a ∧ ReadsIf P ops S R r (a.put o.dst v)
theorem ReadsIf_app {R : Act → Prop} : ∀ {l l' : List Oper} {a : Act}, ReadsIf P ops S R (l ++ l') a → ReadsIf P ops S (fun a => ReadsIf P ops S R l' a) l a
  | [], _, _, h => h
  | _ :: _, _, _, ⟨v, h1, h2⟩ => ⟨v, h1, ReadsIf_app h2⟩

/-- Operations that come up one behind the other; S holds behind each. -/
def wpChain (P : Program) (ops : Array Oper) (Q : Exit → Act → World → Prop) (S : World → Prop) (R : Act → World → Prop) : List Nat → Act → World → Prop
  | [], a, w => R a w
  | i :: r, a, w => wpOp P ops Q i (fun a' w' => S w' ∧ wpChain P ops Q S R r a' w') a w

def seqP (md : Region.Mode) (ops : Array Oper) (T : List Nat) : List Nat → Array Bool → Bool
  | [], l => seqL md ops T l
  | i :: r, l => decide (Region.ready md ops l = [i]) && !memN i T && seqP md ops T r (l.setIfInBounds i true)
def planD (md : Region.Mode) (ops : Array Oper) (A B E T : List Nat) : Bool :=
  Region.noSelect ops && Nat.beq (A.length + B.length + E.length + T.length) ops.size && !T.isEmpty && T.all (fun t => Nat.blt t ops.size) && sinkL md ops (headOf T) (app3 B E) && chainL md ops T &&
  planA md ops T A (Array.replicate ops.size false) fun l => planQ md ops T B l fun l => seqP md ops T E l

theorem seqP_sound {R : Act → World → Prop} : ∀ (E : List Nat) (listed : Array Bool) (a : Act) (w : World), seqP md ops T E listed = true → wpChain P ops Q S R E a w → wpAnyP P md ops Q S T (fun l a w => seqL md ops T l = true ∧ R a w) E.length listed a w
  | [], listed, a, w, h, hc => ⟨h, hc⟩
  | i :: r, listed, a, w, h, hc => by
    simp only [seqP, Bool.and_eq_true, decide_eq_true_eq, Bool.not_eq_true'] at h
    obtain ⟨⟨h1, h2⟩, h3⟩ := h
    refine ⟨fun h => (by rw [h1] at h; cases h), fun k hk => ?_⟩
    rw [h1] at hk
    obtain rfl := List.mem_singleton.1 hk
    exact ⟨fun hm => (by rw [memN_iff.2 hm] at h2; cases h2), wpOp_mono (fun a' w' h' => ⟨h'.1, seqP_sound r _ a' w' h3 h'.2⟩) hc⟩

theorem op_mem {ops : Array Oper} {i : Nat} {o : Oper} (h : ops[i]? = some o) : o ∈ ops.toList := List.mem_of_getElem? (i := i) (by rw [Array.getElem?_toList]; exact h)

theorem planS_sound (hs : Region.noSelect ops = true) {B0 : List Nat} (hsk : sinkL md ops (headOf T) B0 = true) (hc : chainL md ops T = true) (hQ : ∀ c (o : Oper) v a w, o ∈ ops.toList → Q (.panic c) (a.put o.dst v) w → Q (.panic c) a w)
    {R : Act → World → Prop} {E : List Nat} {w : World} (hS : S w) :
    ∀ (B : List Nat) (listed : Array Bool) (a : Act), (∀ i ∈ B, i ∈ B0) → Inv md ops T listed → planQ md ops T B listed (fun l => seqP md ops T E l) = true →
      ReadsIf P ops S (fun a => wpChain P ops Q S R E a w) (pickL ops.toList B) a → wpAnyP P md ops Q S T (fun l a w => seqL md ops T l = true ∧ R a w) (B.length + E.length) listed a w
  | [], listed, a, _, inv, hp, h => by rw [List.length_nil, Nat.zero_add]; exact seqP_sound E listed a w hp h
  | i :: r, listed, a, hB, inv, hp, h => by
    simp only [planQ, Bool.and_eq_true] at hp
    obtain ⟨o, ho, hr, hf, hiT⟩ := stepB_some hp.1
    rw [pick_cons (by simpa using ho)] at h
    obtain ⟨v, hy, hK⟩ := h
    rw [show (i :: r).length + E.length = (r.length + E.length) + 1 by simp; omega]
    refine wpAnyP_first ho (Region.noSelect_spec hs) (fun c a w => hQ c o _ a w (op_mem ho)) hsk hc (hB i (by simp)) ?_ (r.length + E.length) listed a w inv (Region.free_spec ho hf) hr hy hS
      (planS_sound hs hsk hc hQ hS r _ _ (fun j hj => hB j (List.mem_cons_of_mem _ hj)) (inv.set hr hiT) hp.2 hK)
    rintro l a' w' ⟨hl, _⟩ j hj
    cases hT : T with
    | nil => rw [hT] at hl; simp only [seqL, List.isEmpty_iff] at hl; rw [hl] at hj; cases hj
    | cons t T' =>
      rw [hT] at hl
      simp only [seqL, Bool.and_eq_true, decide_eq_true_eq] at hl
      rw [hl.1] at hj
      simpa using .inl (List.mem_singleton.1 hj)

theorem planM_sound (hs : Region.noSelect ops = true) (hQ : ∀ c (o : Oper) v a w, o ∈ ops.toList → Q (.panic c) (a.put o.dst v) w → Q (.panic c) a w) {f : Nat} {k : Array Bool → Bool} {R : Act → Prop} {w : World} (hw : S w)
    (hk : ∀ listed a, Inv md ops T listed → k listed = true → R a → wpAny P md ops Q f listed a w) :
    ∀ (A : List Nat) (listed : Array Bool) (a : Act), Inv md ops T listed → planA md ops T A listed k = true → ReadsIf P ops S R (pickL ops.toList A) a → wpAny P md ops Q (A.length + f) listed a w
  | [], listed, a, inv, hp, h => by rw [List.length_nil, Nat.zero_add]; exact hk _ _ inv hp h
  | i :: r, listed, a, inv, hp, h => by
    simp only [planA, Bool.and_eq_true] at hp
    obtain ⟨⟨hp1, hm⟩, hp2⟩ := hp
    obtain ⟨o, ho, hr, hf, hiT⟩ := stepB_some hp1
    rw [pick_cons (by simpa using ho)] at h
    obtain ⟨v, hy, hK⟩ := h
    rw [show (i :: r).length + f = (r.length + f) + 1 by simp; omega]
    simp only [isMove, ho] at hm
    have hgo : ∀ x : Operand, o.guard = none → (∀ w', (execOp a.eval o).run P w' = .ok (.value (a.eval x)) w') → wpAny P md ops Q (r.length + f + 1) listed a w := fun x hg hv => by
      have hwt : Region.wanted o (yielded ops a.tmps) = true := by simp [Region.wanted, hg]
      rcases hy with ⟨_, h2⟩ | ⟨h2, _⟩
      · have h3 := h2 w hw
        rw [hv] at h3
        simp only [Result.ok.injEq, Next.value.injEq, and_true] at h3
        subst h3
        exact wpAny_take ho hs hf (by simpa using hr) (fun c a w => hQ c o _ a w (op_mem ho)) (.inl ⟨hwt, hv⟩) (planM_sound hs hQ hw hk r _ _ (inv.set hr hiT) hp2 hK)
      · rw [hwt] at h2; cases h2
    split at hm
    · rename_i x hg hop
      exact hgo x hg fun w' => by unfold execOp; rw [hop]; rfl
    · rename_i x hg hop
      exact hgo x hg fun w' => by unfold execOp; rw [hop]; rfl
    · cases hm

/-- **A statement that draws its order: copies (A), what only reads (B), operations that come one behind the other (E) but are free against B, and what is left (T).** -/
theorem wp_region_draw {id : Nat} {a : Act} {w : World} {A B E T : List Nat} (hm : P.follows .mixedOrders = true) (hp : planD .any ops A B E T = true) (hQ : ∀ c (o : Oper) v a w, o ∈ ops.toList → Q (.panic c) (a.put o.dst v) w → Q (.panic c) a w) (hS : S { w with drawn := w.drawn + 1 })
    (h : ReadsIf P ops S (fun a' => wpChain P ops Q S (fun a w => wpList P ops Q (pickL ops.toList T) a w) E a' { w with drawn := w.drawn + 1 }) (pickL ops.toList A ++ pickL ops.toList B) a) : (Code.region id ops true).wp P Q a w := by
  simp only [planD, Bool.and_eq_true] at hp
  obtain ⟨⟨⟨⟨⟨⟨hs, hsz⟩, hT⟩, hTl⟩, hsk⟩, hch⟩, hpl⟩ := hp
  refine wp_region_any hm ?_
  have inv0 : Inv .any ops T (Array.replicate ops.size false) := ⟨by simp, fun j oj _ hl => (by rw [getD_replicate_false] at hl; cases hl), fun t _ => getD_replicate_false _ _⟩
  have hsz := Nat.eq_of_beq_eq_true hsz
  have e : A.length + (B.length + E.length + T.length) = ops.size := by omega
  have key : wpAny P .any ops Q (A.length + (B.length + E.length + T.length)) (Array.replicate ops.size false) a { w with drawn := w.drawn + 1 } := ?_
  · rw [e] at key; exact key
  refine planM_sound (S := S) (T := T) (R := fun a => ReadsIf P ops S (fun a' => wpChain P ops Q S (fun a w => wpList P ops Q (pickL ops.toList T) a w) E a' { w with drawn := w.drawn + 1 }) (pickL ops.toList B) a) hs hQ hS
    (fun listed a inv hk hl => ?_) A _ a inv0 hpl (ReadsIf_app h)
  have hB := planS_sound (md := .any) hs hsk hch hQ hS B listed a (fun i hi => (by rw [app3_eq]; exact List.mem_append_left _ hi)) inv hk hl
  refine wpAny_of_P (g := T.length) (fun l a' w' hL => seqL_sound T l a' w' (fun t ht => ?_) hL.1 hL.2) _ _ _ _ hB
  have := List.all_eq_true.1 hTl t ht
  simpa using this
end
end Go.Sx

/-
  Sx, part 39: the word for drawn statements with a call among what only reads.
-/
set_option linter.unusedVariables false
set_option linter.unusedSimpArgs false
namespace Go.Sx

section
variable {C : Ctx} {s : St} {a : Act} {w : World} {ρ : Nat → Value} {F : Nat → Prop} {g : Cfg}

theorem SatW.less {L : List (Nat × V)} {H : List (Nat × Ch)} {m : Nat} (h : SatW C ⟨L, H, m⟩ a w ρ F) (is : List Nat) : SatW C ⟨L, delAll is H, m⟩ a w ρ F :=
  { size := h.size, defers := h.defers, slot := h.slot, freshL := h.freshL, lt := h.lt, sub := h.sub, base := h.base, fixd := h.fixd, keep := h.keep, env := h.env
    ch := fun i c hi => h.ch i c (delAll_mem hi).1
    sep := fun i j ci cj b hi hj => h.sep i j ci cj b (delAll_mem hi).1 (delAll_mem hj).1
    out := fun i c b hi => h.out i c b (delAll_mem hi).1
    freshH := fun i c hi => h.freshH i c (delAll_mem hi).1
    mine := fun i c b hi => h.mine i c b (delAll_mem hi).1 }

theorem qrun_reads (hg : TysOK C.P g.tys) (hn : g.n = C.n) {all : Array Oper} {S : World → Prop} {is : List Nat} {H0 : List (Nat × Ch)} (hS : ∀ w', S w' → Agr (fun k => ¬ blocksOf ρ H0 is k) w w') {m : Nat} {s' : St} {ob' : List Prop} :
    ∀ (n : Nat) (l : List Oper) (L : List (Nat × V)) (ob : List Prop), qrun g all n l ⟨L, delAll is H0, m⟩ ob = .done ob' s' → AllP ob' →
      AllP ob ∧ s'.m = m ∧ ∀ a, SatW C ⟨L, H0, m⟩ a w ρ F → ReadsIf C.P all S (fun a' => SatW C ⟨s'.L, H0, m⟩ a' w ρ F) l a := by
  intro n
  induction n with
  | zero => intro l L ob h; simp [qrun] at h
  | succ n ih =>
    intro l L ob h hob
    have facts : ∀ {L a}, SatW C ⟨L, H0, m⟩ a w ρ F → (∀ k, F k → ¬ blocksOf ρ H0 is k) ∧ ∀ i c k, (i, c) ∈ delAll is H0 → blk (ρ i) = some k → ¬ blocksOf ρ H0 is k := fun {L a} hw =>
      ⟨fun k hk ⟨i, c, _, hi, e⟩ => hw.out i c k hi e hk, fun i c k hi e ⟨j, d, hj, hjd, e2⟩ =>
        hw.sep i j c d k (delAll_mem hi).1 hjd (fun e3 => (delAll_mem hi).2 (by rw [e3]; exact inL_iff.1 hj)) (bks_main e) e2⟩
    cases l with
    | nil =>
      unfold qrun at h
      simp only [fS_eq, fO_eq, QEv.done.injEq] at h
      obtain ⟨rfl, rfl⟩ := h
      exact ⟨hob, rfl, fun a hw => hw⟩
    | cons o rest =>
    unfold qrun at h
    simp only at h
    split at h
    · rename_i hgd
      split at h
      · rename_i v p hrd
        split at h
        · rename_i d hd
          cases hb : Nat.blt d g.n with
          | false => rw [hb] at h; simp at h
          | true =>
            rw [hb] at h
            simp only [cond_true, f3_eq, fL_eq, fA_eq] at h
            obtain ⟨h1, h2, h2'⟩ := ih _ _ _ h hob
            obtain ⟨h3, h4⟩ := AllP_app h1
            refine ⟨h3, h2, fun a hw => ?_⟩
            obtain ⟨f1, f2⟩ := facts hw
            obtain ⟨x, r1, r2, r3⟩ := rd_soundB hg (hw.less is) (pc_nil _) hrd h4 f1 f2
            refine ⟨x, .inl ⟨by simp [Region.wanted, hgd], fun w' hw' => r3 w' (hS w' hw')⟩, ?_⟩
            rw [hd]
            exact h2' _ (hw.put (by rw [← hn]; simpa using hb) r1 r2)
        · simp at h
      · rw [fS_eq, fO_eq] at h; simp at h
    · rename_i j u hgd
      split at h
      · simp at h
      · rename_i q hq
        split at h
        · rename_i v p hrd
          split at h
          · rename_i d hd
            cases hb : (Nat.blt d g.n && !(q.any fun e => Nat.beq e.1 d) && v.all3 (fresh m)) with
            | false => rw [hb] at h; simp at h
            | true =>
              rw [hb] at h
              simp only [cond_true, fIs_eq, f3_eq, fL_eq, fP_eq, fA_eq] at h
              simp only [Bool.and_eq_true, Bool.not_eq_true'] at hb
              obtain ⟨⟨b1, b2⟩, b3⟩ := hb
              obtain ⟨h1, h2, h2'⟩ := ih _ _ _ h hob
              obtain ⟨h3, h4⟩ := AllP_app h1
              refine ⟨h3, h2, fun a hw => ?_⟩
              obtain ⟨f1, f2⟩ := facts hw
              have hgp := gpath_sound hw hq
              have hwant : Region.wanted o (yielded all a.tmps) = true ↔ pcA a.tmps q := by
                rw [← hgp]; simp [Region.wanted, hgd]
              by_cases hpc : pcA a.tmps q
              · obtain ⟨x, r1, r2, r3⟩ := rd_soundB hg (hw.less is) hpc hrd (imps_sound (hw.less is) hpc h4) f1 f2
                refine ⟨x, .inl ⟨hwant.2 hpc, fun w' hw' => r3 w' (hS w' hw')⟩, ?_⟩
                rw [hd]
                exact h2' _ (hw.putS (by rw [← hn]; simpa using b1) ⟨fun _ => r1, fun hno => (hno ((pcA_put b2).2 hpc)).elim⟩ b3)
              · refine ⟨undef, .inr ⟨by cases hw' : Region.wanted o (yielded all a.tmps) with | false => rfl | true => exact absurd (hwant.1 hw') hpc, rfl⟩, ?_⟩
                rw [hd]
                exact h2' _ (hw.putS (by rw [← hn]; simpa using b1) ⟨fun hp => (hpc ((pcA_put b2).1 hp)).elim, fun _ => rfl⟩ b3)
          · simp at h
        · rw [fS_eq, fO_eq] at h; simp at h
end

/-- Panics within the part. -/
def FrP (Φ : Exit → St → Prop) (rest : List (Nat × Ch)) : Exit → St → Prop := fun e s => (∃ c, e = .panic c) ∧ s.L = s.L ∧ Φ e ⟨s.L, app3 s.H rest, s.m⟩

/-- What is left to do behind what only reads: E one by one, in the part's own context; then T. -/
def chainGo (C C1 : Ctx) (ops : Array Oper) (T : List Nat) (K : List Item) (Φ : Exit → St → Prop) (rest : List (Nat × Ch)) : List Nat → St → Prop
  | [], s => Go C (.ops ops (pickL ops.toList T) :: K) ⟨s.L, app3 s.H rest, s.m⟩ Φ
  | i :: r, s => Go C1 [.ops ops (pickL ops.toList [i]), .back (chainGo C C1 ops T K Φ rest r)] s (FrP Φ rest)

theorem Oper.upon_exits {P : Program} {o : Oper} {a : Act} {K K' : Act → World → Prop} {Q Q' : Exit → Act → World → Prop} (hK : ∀ a w, K a w → K' a w) (hp : ∀ c a w, Q (.panic c) a w → Q' (.panic c) a w) (ho : ∀ a w, ¬ Q .outgrown a w) : ∀ {r : Result Next}, o.upon P a K Q r → o.upon P a K' Q' r := by
  intro r h
  cases r with
  | ok n w' =>
    cases n <;> simp only [Oper.upon] at h ⊢ <;>
      first
        | exact hK _ _ h
        | exact Calls.mono h (fun e w'' he => by
            cases e with
            | returned v => exact hK _ _ he
            | panicked c => exact hp _ _ _ he
            | outgrown => exact absurd he (fun ⟨a, w, hq⟩ => ho a w hq))
        | exact Rows.mono h (fun _ _ he => hK _ _ he)
  | halt x w' =>
    cases x <;> simp only [Oper.upon] at h ⊢
    exact hp _ _ _ h

theorem Cx.draw {P : Pg} {g : Cfg} {C : Ctx} (x : Cx P g C) {s s' : St} {K K' : List Item} {Φ : Exit → St → Prop} {ob : List Prop} (is A B E T : List Nat) {id : Nat} {ops : Array Oper} (h : run g 1000 K s [] = .code ob (.region id ops true) K' s') (ho : AllP ob) (hm : P.P.follows .mixedOrders = true) (hB : planD .any ops A B E T = true) (hΦ : QuietP ops Φ)
    {ob2 : List Prop} {s2 : St} (hq : qrun g ops 1000 (pickL ops.toList (app3 A B)) ⟨s'.L, delAll is s'.H, s'.m⟩ [] = .done ob2 s2) (ho2 : AllP ob2)
    (k : ∀ C1, Cx P { g with fix := s'.m } C1 → chainGo C C1 ops T K' Φ (delAll is s'.H) E ⟨s2.L, onlyIn is s'.H, s'.m⟩) : Go C K s Φ := by
  refine st x.ty x.n x.fix h ⟨ho, ?_⟩
  rintro a w ⟨ρ, F, hs⟩
  have hd : Mod none w { w with drawn := w.drawn + 1 } := ⟨rfl, rfl, rfl, Nat.le_refl _, fun _ _ _ => rfl⟩
  have hs1 := hs.mod hd
  generalize hw1 : ({ w with drawn := w.drawn + 1 } : World) = w1 at hs1
  let S : World → Prop := fun w' => ∀ k, k < w1.heap.size → ¬ blocksOf ρ s'.H is k → w'.heap[k]? = w1.heap[k]?
  have hS : ∀ w', S w' → Agr (fun k => ¬ blocksOf ρ s'.H is k) w1 w' := fun w' hw' k hk hlt => hw' k hlt hk
  obtain ⟨_, hm2, hreads⟩ := qrun_reads (F := F) x.ty x.n (S := S) hS 1000 _ _ _ hq ho2
  have hpk : pickL ops.toList (app3 A B) = pickL ops.toList A ++ pickL ops.toList B := by
    rw [app3_eq]
    clear k hB hq hreads
    induction A with
    | nil => rfl
    | cons i r ih =>
      simp only [List.cons_append, pickL]
      split <;> simp [ih]
  rw [hpk] at hreads
  refine x.ofWp ?_
  have hP : C.P.follows .mixedOrders = true := x.progP.symm ▸ hm
  refine wp_region_draw (S := S) hP hB (fun c o v a w ho hq => den_quiet hΦ K' c ho v a w hq) (by rw [hw1]; exact fun k _ _ => rfl) ?_
  rw [hw1]
  have hmono : ∀ {R R' : Act → Prop}, (∀ a, R a → R' a) → ∀ (l : List Oper) (a : Act), ReadsIf C.P ops S R l a → ReadsIf C.P ops S R' l a := fun {R R'} hR l => by
    induction l with
    | nil => exact fun a h => hR a h
    | cons o r ih => exact fun a ⟨v, h1, h2⟩ => ⟨v, h1, ih _ h2⟩
  refine hmono (fun a' hsa => ?_) _ a (hreads a hs1)
  -- the chain
  let C1 := C.sub s' is w1 ρ F
  have hx1 : Cx P { g with fix := s'.m } C1 := ⟨⟨x.prog, x.n, rfl, x.tys⟩, x.rd⟩
  have key : ∀ (E : List Nat) (s1 : St) (a : Act) (w2 : World), Sat C1 s1 a w2 → chainGo C C1 ops T K' Φ (delAll is s'.H) E s1 → wpChain C.P ops (den C (conc C Φ) K') S (fun a w => wpList C.P ops (den C (conc C Φ) K') (pickL ops.toList T) a w) E a w2 := by
    intro E
    induction E with
    | nil =>
      rintro s1 a2 w2 ⟨ρ1, F1, h1⟩ hgo
      exact (show wqList C.rd C.P ops (den C (conc C Φ) K') (pickL ops.toList T) a2 w2 from hgo a2 w2 ⟨ρ1, F1, hsa.unframe (s := ⟨s2.L, s'.H, s'.m⟩) (is := is) h1⟩).1
    | cons i r ih =>
      rintro s1 a2 w2 hs1' hgo
      have h5 : wpList C1.P ops (den C1 (conc C1 (FrP Φ (delAll is s'.H))) [.back (chainGo C C1 ops T K' Φ (delAll is s'.H) r)]) (pickL ops.toList [i]) a2 w2 := (show wqList C1.rd C1.P ops (den C1 (conc C1 (FrP Φ (delAll is s'.H))) [.back (chainGo C C1 ops T K' Φ (delAll is s'.H) r)]) (pickL ops.toList [i]) a2 w2 from hgo a2 w2 hs1').1
      have hK : ∀ a w, den C1 (conc C1 (FrP Φ (delAll is s'.H))) [.back (chainGo C C1 ops T K' Φ (delAll is s'.H) r)] .normal a w → S w ∧ wpChain C.P ops (den C (conc C Φ) K') S (fun a w => wpList C.P ops (den C (conc C Φ) K') (pickL ops.toList T) a w) r a w := by
        rintro a3 w3 ⟨s3, hs3, hj⟩
        refine ⟨?_, ih s3 a3 w3 hs3 hj⟩
        obtain ⟨ρ3, F3, h3⟩ := hs3
        exact fun k hk hb => h3.keep.block k hk hb
      have hp : ∀ c a w, den C1 (conc C1 (FrP Φ (delAll is s'.H))) [.back (chainGo C C1 ops T K' Φ (delAll is s'.H) r)] (.panic c) a w → den C (conc C Φ) K' (.panic c) a w := by
        rintro c a3 w3 ⟨s3, ⟨ρ3, F3, h3⟩, _, hl, hphi⟩
        rw [den_pan]
        have h6 := hsa.unframe (s := ⟨s2.L, s'.H, s'.m⟩) (is := is) h3
        exact ⟨_, ⟨ρ3, F3, h6⟩, hphi⟩
      have hog : ∀ a w, ¬ den C1 (conc C1 (FrP Φ (delAll is s'.H))) [.back (chainGo C C1 ops T K' Φ (delAll is s'.H) r)] .outgrown a w := by
        rintro a3 w3 ⟨s3, _, ⟨c, hc⟩, _⟩
        cases hc
      show wpOp C.P ops _ i _ a2 w2
      unfold wpOp
      cases ho : ops[i]? with
      | none =>
        simp only [pickL, Array.getElem?_toList, ho] at h5
        exact hK _ _ h5
      | some o =>
        simp only [pickL, Array.getElem?_toList, ho] at h5
        unfold wpList at h5
        simp only
        split at h5
        · rename_i hw
          rw [if_pos hw]
          rcases h5 with h5 | ⟨_, a4, w4, h6⟩
          · exact .inl (Oper.upon_exits (fun a w h => hK a w h) hp hog h5)
          · exact absurd h6 (hog a4 w4)
        · rename_i hw
          rw [if_neg hw]
          exact hK _ _ h5
  refine key E ⟨s2.L, onlyIn is s'.H, s'.m⟩ a' w1 ⟨ρ, F, ?_⟩ (k C1 hx1)
  exact (hsa.frame (s := ⟨s2.L, s'.H, s'.m⟩) is)
end Go.Sx
