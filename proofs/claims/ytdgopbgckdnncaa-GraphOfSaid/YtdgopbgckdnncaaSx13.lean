/-
  Sx, part 13: append; ALL OPERATIONS THAT TURN MEMORY, in one theorem.
-/
import Derived.Test.YtdgopbgckdnncaaSx12
set_option linter.unusedVariables false
set_option linter.unusedSimpArgs false
namespace Go.Sx
section
variable {C : Ctx} {s s' : St} {a : Act} {w w' : World} {ρ : Nat → Value} {F : Nat → Prop} {g : Cfg}

/-- What is appended: its cells, one behind the other. -/
theorem parts_flat (h : SatW C s a w ρ F) {y : V} {sz n : Nat} {f : Nat → List D} {vy : Value} (hp : parts s.H y = some (sz, n, f)) (hy : R3 ρ F w y vy) :
    (∃ cap, vy = .slice none 0 cap ∧ n = 0) ∨ ∃ ad cap news, vy = .slice (some ad) n cap ∧ news.length = n * sz ∧ (∀ j u, news[j]? = some u → w.cell? (ad.add j) = some u) ∧ (∀ u ∈ news, u.oneCell' = true) ∧ Elems F w sz n f news := by
  rcases parts_sound h hp hy with ⟨ad, cap, rfl, rfl⟩ | ⟨b, o, cap, cs, rfl, hn, hlen, hc⟩
  · cases ad with
    | none => exact .inl ⟨cap, rfl, rfl⟩
    | some ad => exact .inr ⟨ad, cap, [], rfl, by simp, by simp, by simp, fun i hi => by omega⟩
  · have at_k : ∀ j u, ((List.range (n * sz)).map fun k => cs (k / sz) (k % sz))[j]? = some u → w.cell? ⟨b, o + j, none⟩ = some u ∧ u.oneCell' = true := by
      intro j u hj
      rw [List.getElem?_map, Option.map_eq_some_iff] at hj
      obtain ⟨k, hk, rfl⟩ := hj
      have hlt : j < n * sz := by simpa using (List.getElem?_eq_some_iff.1 hk).1
      rw [List.getElem?_range hlt] at hk
      obtain rfl := Option.some.inj hk
      have hpos : 0 < sz := by
        rcases Nat.eq_zero_or_pos sz with e0 | hp
        · rw [e0] at hlt; omega
        · exact hp
      have hi : j / sz < n := (Nat.div_lt_iff_lt_mul hpos).2 hlt
      have hm : j % sz < (f (j / sz)).length := by rw [hlen _ hi]; exact Nat.mod_lt _ hpos
      obtain ⟨h1, h2⟩ := hc (j / sz) (j % sz) _ hi (List.getElem?_eq_getElem hm)
      have e : j / sz * sz + j % sz = j := Nat.div_add_mod' j sz
      rw [e] at h1
      exact ⟨h1, h2.one⟩
    refine .inr ⟨⟨b, o, none⟩, cap, (List.range (n * sz)).map fun k => cs (k / sz) (k % sz), rfl, by simp, fun j u hj => ?_, fun u hu => ?_, fun i hi => ?_⟩
    · have := at_k j u hj
      rw [Addr.add_lit]; exact this.1
    · obtain ⟨j, hj⟩ := List.getElem?_of_mem hu
      exact (at_k j u hj).2
    · refine ⟨hlen i hi, fun j d hj => ?_⟩
      have hj' : j < sz := by rw [← hlen i hi]; exact (List.getElem?_eq_some_iff.1 hj).1
      obtain ⟨h1, h2⟩ := hc i j d hi hj
      refine ⟨cs i j, ?_, h2⟩
      have hlt : i * sz + j < n * sz := by
        have := Nat.mul_le_mul_right sz (show i + 1 ≤ n by omega)
        rw [Nat.add_mul, Nat.one_mul] at this
        omega
      have hpos : 0 < sz := by omega
      have e1 : (i * sz + j) / sz = i := by rw [Nat.mul_comm, Nat.mul_add_div hpos, Nat.div_eq_of_lt hj']; rfl
      have e2 : (i * sz + j) % sz = j := by rw [Nat.mul_comm, Nat.mul_add_mod, Nat.mod_eq_of_lt hj']
      rw [List.getElem?_map, List.getElem?_range hlt]
      simp [e1, e2]

theorem app_elems {sz n m : Nat} {f h : Nat → List D} {xs news : List Value} (hx : Elems F w sz n f xs) (hxl : xs.length = n * sz) (hn : Elems F w sz m h news) : Elems F w sz (n + m) (app n f h) (xs ++ news) := by
  intro i hi
  unfold app
  by_cases hin : i < n
  · rw [zipIte_pos hin]
    obtain ⟨h1, h2⟩ := hx i hin
    refine ⟨h1, fun j d hj => ?_⟩
    obtain ⟨c, c1, c2⟩ := h2 j d hj
    exact ⟨c, by rw [List.getElem?_append_left (List.getElem?_eq_some_iff.1 c1).1]; exact c1, c2⟩
  · rw [zipIte_neg hin]
    obtain ⟨h1, h2⟩ := hn (i - n) (by omega)
    refine ⟨h1, fun j d hj => ?_⟩
    obtain ⟨c, c1, c2⟩ := h2 j d hj
    refine ⟨c, ?_, c2⟩
    have e : i * sz = n * sz + (i - n) * sz := by rw [← Nat.add_mul]; congr 1; omega
    rw [List.getElem?_append_right (by omega), hxl, ← c1]
    congr 1; omega

theorem append_none {P : Program} {t ty e : TypeId} {te : TI} (hu : P.underlying t = some (.slice e)) (hte : te.OK P e) {sz : Nat} {v : Value} {n : Nat} {xs : List Value} (hown : w.ownsRow 0 e sz v n xs) (cap : Nat) :
    (Builtin.append_ #[t, t] ty #[v, .slice none 0 cap]).run P w = .ok v w := by
  obtain ⟨i, z, h1, _⟩ := hte.info
  rcases hown.2 with ⟨rfl, rfl⟩ | ⟨g, c, cur, rfl, _, _, hnc, _⟩
  · simp [Builtin.append_, run_und hu, sizeOf, typeInfo, h1, Builtin.lenOf, Builtin.firstCells]
  · simp [Builtin.append_, run_und hu, sizeOf, typeInfo, h1, Builtin.lenOf, Builtin.firstCells, hnc, storeCells]

/-- An append, and where its result lies. -/
theorem append_run {P : Program} {t ty e : TypeId} {te : TI} (hu : P.underlying t = some (.slice e)) (hte : te.OK P e) (hsz : 0 < te.size)
    {v : Value} {n : Nat} {xs : List Value} (hown : w.ownsRow 0 e te.size v n xs) {ad : Addr} {m c : Nat} {news : List Value} (hl : news.length = m * te.size) (hnews : ∀ j u, news[j]? = some u → w.cell? (ad.add j) = some u) (h1 : ∀ u ∈ news, u.oneCell' = true)
    (hb1 : (n + m) * te.bytes ≤ big) (hb2 : n + m ≤ big) :
    ∃ v' w', (Builtin.append_ #[t, t] ty #[v, .slice (some ad) m c]).run P w = .ok v' w' ∧ w'.ownsRow 0 e te.size v' (n + m) (xs ++ news) ∧ w.grownBy w' v.ownBlock ∧ ∀ b, blk v' = some b → w.heap.size ≤ b ∨ blk v = some b := by
  obtain ⟨i, z, i1, i2, i3, i4, i5, _⟩ := hte.info
  unfold big at hb1 hb2
  have h63 : n + m ≤ maxLen := by simp only [maxLen]; omega
  obtain ⟨v', w', r1, r2, r3, _⟩ := run_append_own (P := P) w 0 t ty e i z te.size te.bytes hu i1 i4 i2 i3 i5 hsz v n xs hown ad m c news hl hnews h1 h63 hb1 (Nat.zero_le _)
  refine ⟨v', w', r1, r2, r3, fun b hb => ?_⟩
  rcases hown.2 with ⟨rfl, rfl⟩ | ⟨gg, cap, cur, rfl, _, hg, hnc, hcm, hcs, htake⟩
  · by_cases hm : m = 0
    · subst hm
      have hn : news = [] := List.eq_nil_of_length_eq_zero (by simpa using hl)
      subst hn
      have : (Builtin.append_ #[t, t] ty #[.slice none 0 0, .slice (some ad) 0 c]).run P w = .ok (.slice none 0 0) w := by
        simp [Builtin.append_, run_und hu, sizeOf, typeInfo, i1, Builtin.lenOf, Builtin.firstCells, loadCells, loadCellsFrom]
      rw [this] at r1
      simp only [Result.ok.injEq] at r1
      rw [← r1.1] at hb
      simp [blk] at hb
    · have hr := run_append_nil (P := P) w t ty e i z hu i1 i4 ad m c news (by rw [hl, i2]) hnews (by omega) (by simp only [maxLen] at h63; omega) (by rw [i3]; simp only [Nat.zero_add] at hb1; omega)
      rw [hr] at r1
      simp only [Result.ok.injEq] at r1
      rw [← r1.1] at hb
      simp only [blk, Option.some.injEq] at hb
      exact .inl (by omega)
  · by_cases hroom : n + m ≤ cap
    · have hfit : n * i.size + news.length ≤ cur.size := by rw [hl, hcs, i2, ← Nat.add_mul]; exact Nat.mul_le_mul_right _ hroom
      have hr := run_append_room (P := P) w t ty e i hu i1 gg n cap cur hg ad m c news (by rw [hl, i2]) hnews h1 hroom hfit
      rw [hr] at r1
      simp only [Result.ok.injEq] at r1
      rw [← r1.1] at hb
      exact .inr hb
    · have holds : ∀ j u, xs[j]? = some u → w.cell? ((⟨gg, 0, none⟩ : Addr).add j) = some u := hown.cells (g := gg) rfl
      have hr := run_append_grow (P := P) w t ty e i z hu i1 i4 ⟨gg, 0, none⟩ n cap xs (by rw [hown.1, i2]) holds ad m c news (by rw [hl, i2]) hnews (by omega) (by simp only [maxLen] at h63; omega) (growslice_fits (by omega) (by rw [i3]; exact hb1))
      rw [hr] at r1
      simp only [Result.ok.injEq] at r1
      rw [← r1.1] at hb
      simp only [blk, Option.some.injEq] at hb
      exact .inl (by omega)

theorem names_R {x : Nat} {y : V} (h : names x y = false) {vy : Value} (hp : ∃ z, parts s.H y = some z) : True := trivial

theorem app_sound (hg : TysOK C.P g.tys) (hfx : g.fix = C.fix) (h : SatW C s a w ρ F) {d : Nat} (hd : d < C.n) {t t' ty : TypeId} {x y : V} {vx vy : Value} {ob : List Prop} (he : appE g s d t t' x y = some (s', ob)) (hob : AllP ob) (hx : R3 ρ F w x vx) (hy : R3 ρ F w y vy) :
    ∃ r w', (Builtin.append_ #[t, t'] ty #[vx, vy]).run C.P w = .ok r w' ∧ Sat C s' (a.put (some d) r) w' := by
  unfold appE at he
  cases htt : Nat.beq t t' with
  | false => rw [htt] at he; simp at he
  | true =>
    rw [htt] at he
    simp only [cond_true] at he
    have htt := Nat.eq_of_beq_eq_true htt
    subst htt
    split at he
    · simp at he
    · rename_i e te hse
      obtain ⟨hu, hte, _⟩ := sliceE_sound hg hse
      split at he
      · -- onto nil
        split at he
        · rename_i sz m hh hp
          cases hc : (Nat.beq sz te.size && Nat.ble 1 sz) with
          | false => rw [hc] at he; simp at he
          | true =>
            rw [hc] at he
            simp only [cond_true] at he
            simp only [Bool.and_eq_true] at hc
            have hsz := Nat.eq_of_beq_eq_true hc.1
            have hpos : 1 ≤ sz := by simpa using hc.2
            subst hsz
            obtain ⟨rfl, rfl⟩ := Prod.mk.inj (Option.some.inj he)
            obtain ⟨b1, b2⟩ := hob
            have hvx : vx = .slice none 0 0 := hx
            subst hvx
            have hnil := World.ownsRow_nil w 0 e te.size
            rcases parts_flat h hp hy with ⟨cap, rfl, rfl⟩ | ⟨ad, cap, news, rfl, n1, n2, n3, n4⟩
            · exact ⟨_, _, append_none hu hte hnil cap, h.row (xs := []) hd ⟨rfl, rfl, rfl, Nat.le_refl _, fun _ _ _ => rfl⟩ (fun b hb => by simp [blk] at hb) ⟨_, _, _, rfl⟩ hnil (fun i hi => by omega)⟩
            · obtain ⟨v', w', r1, r2, r3, r4⟩ := append_run (ty := ty) hu hte hpos hnil n1 n2 n3 (by rw [Nat.zero_add]; exact b1) (by rw [Nat.zero_add]; exact b2)
              rw [Nat.zero_add, List.nil_append] at r2
              have hm : Mod none w w' := Mod.of_grown r3
              refine ⟨v', w', r1, h.row hd hm (fun b hb => ?_) ?_ r2 (n4.keep (fun _ => _root_.id) fun k hk => hm.block k (h.lt k hk) (by simp))⟩
              · rcases r4 b hb with h1 | h1
                · exact h1
                · simp [blk] at h1
              · rcases r2.2 with ⟨e1, _⟩ | ⟨_, _, _, e1, _⟩ <;> exact ⟨_, _, _, e1⟩
        · simp at he
      · -- onto an owned slice
        rename_i id
        split at he
        · rename_i e' sz n f hgH
          obtain ⟨xs, hown, hel⟩ := h.ch id _ (get_mem hgH)
          have hvx : vx = ρ id := (show R0 ρ F w (.own id) vx from hx).1
          have hlt := (h.freshH id _ (get_mem hgH)).1
          split at he
          · cases hc : (Nat.beq e e' && Nat.beq sz te.size) with
            | false => rw [hc] at he; simp at he
            | true =>
              rw [hc] at he
              simp only [cond_true] at he
              simp only [Bool.and_eq_true] at hc
              have h1 := Nat.eq_of_beq_eq_true hc.1
              have h2 := Nat.eq_of_beq_eq_true hc.2
              subst h1 h2
              obtain ⟨rfl, rfl⟩ := Prod.mk.inj (Option.some.inj he)
              have hvy : vy = .slice none 0 0 := hy
              subst hvy
              refine ⟨vx, w, ?_, ρ, F, h.put hd hx (by show Nat.blt id s.m = true; simpa using hlt)⟩
              rw [hvx]; exact append_none hu hte hown 0
          · split at he
            · rename_i sz' m hh hp
              cases hc : (Nat.beq e e' && Nat.beq sz te.size && Nat.beq sz' sz && Nat.ble 1 sz && !(names id y) && Nat.ble g.fix id) with
              | false => rw [hc] at he; simp at he
              | true =>
                rw [hc] at he
                simp only [cond_true] at he
                simp only [Bool.and_eq_true, Bool.not_eq_true'] at hc
                obtain ⟨⟨⟨⟨⟨c1, c2⟩, c3⟩, c4⟩, c5⟩, c6⟩ := hc
                have h1 := Nat.eq_of_beq_eq_true c1
                have h2 := Nat.eq_of_beq_eq_true c2
                have h3 := Nat.eq_of_beq_eq_true c3
                have hpos : 1 ≤ sz := by simpa using c4
                subst h1 h2 h3
                obtain ⟨rfl, rfl⟩ := Prod.mk.inj (Option.some.inj he)
                obtain ⟨b1, b2⟩ := hob
                subst hvx
                have hH : ∀ {v' : Value} {w' : World}, Mod (blk (ρ id)) w w' → (∀ b, blk v' = some b → w.heap.size ≤ b ∨ blk (ρ id) = some b) → (∃ news, w'.ownsRow 0 e te.size v' (n + m) (xs ++ news) ∧ Elems F w te.size m hh news) → (∃ ad l c, v' = .slice ad l c) →
                    Sat C { L := put (mapL (kill id) s.L) d (.own id), H := (id, .vec e te.size (n + m) (app n f hh)) :: mapH (kill id) (delH id s.H), m := s.m } (a.put (some d) v') w' := by
                  rintro v' w' hm hbl ⟨news, o1, o2⟩ hsl
                  have hwF : ∀ k, F k → w'.heap[k]? = w.heap[k]? := fun k hk => hm.block k (h.lt k hk) (fun e => h.out id _ k (get_mem hgH) e.symm hk)
                  refine ⟨_, _, (h.move (get_mem hgH) (by rw [← hfx]; simpa using c6) hm (x := v') hbl (c' := .vec e te.size (n + m) (app n f hh)) ⟨xs ++ news, by rw [upd_same]; exact o1, ?_⟩ rfl).put hd ⟨(upd_same ρ id v').symm, by rw [upd_same]; exact hsl⟩ (by show Nat.blt id s.m = true; simpa using hlt)⟩
                  exact (app_elems hel hown.1 o2).keep (fun _ => _root_.id) hwF
                rcases parts_flat h hp hy with ⟨cap, rfl, rfl⟩ | ⟨ad, cap, news, rfl, n1, n2, n3, n4⟩
                · refine ⟨_, _, append_none hu hte hown cap, hH ⟨rfl, rfl, rfl, Nat.le_refl _, fun _ _ _ => rfl⟩ (fun b hb => .inr hb) ⟨[], by simpa using hown, fun i hi => by omega⟩ ?_⟩
                  rcases hown.2 with ⟨e1, _⟩ | ⟨_, _, _, e1, _⟩ <;> exact ⟨_, _, _, e1⟩
                · obtain ⟨v', w', r1, r2, r3, r4⟩ := append_run (ty := ty) hu hte hpos hown n1 n2 n3 b1 b2
                  refine ⟨v', w', r1, hH ?_ r4 ⟨news, r2, n4⟩ ?_⟩
                  · have e1 : blk (ρ id) = (ρ id).ownBlock := by
                      rcases hown.2 with ⟨e1, _⟩ | ⟨_, _, _, e1, _⟩ <;> rw [e1] <;> rfl
                    rw [e1]; exact Mod.of_grown r3
                  · rcases r2.2 with ⟨e1, _⟩ | ⟨_, _, _, e1, _⟩ <;> exact ⟨_, _, _, e1⟩
            · simp at he
        · simp at he
      · simp at he

/-- **AN OPERATION THAT TURNS MEMORY DOES WHAT `efE` SAYS.** -/
theorem ef_sound (hg : TysOK C.P g.tys) (hn : g.n = C.n) (hfx : g.fix = C.fix) (h : SatW C s a w ρ F) {o : Oper} {ob : List Prop} (he : efE g s o.dst o.op = some (s', ob)) (hob : AllP ob) :
    ∃ x w', ((execOp a.eval o).run C.P w = .ok (.value x) w' ∨ ((execOp a.eval o).run C.P w = .ok .skip w' ∧ x = undef)) ∧ Sat C s' (a.put o.dst x) w' := by
  obtain ⟨dst, op, ty, pos, after, guard⟩ := o
  dsimp only at he
  unfold efE at he
  split at he
  · -- box
    rename_i t x
    split at he
    · rename_i d v hv
      split at he
      · rename_i us hus
        cases hd : Nat.blt d g.n with
        | false => rw [hd] at he; simp at he
        | true =>
          rw [hd] at he
          simp only [cond_true] at he
          obtain ⟨rfl, rfl⟩ := Prod.mk.inj (Option.some.inj he)
          obtain ⟨h1, h2⟩ := ev_sound h (pc_nil _) hv
          obtain ⟨h3, h4⟩ := cellsOf_sound hus h1 h2
          refine ⟨_, _, .inl ?_, box_sound (T := t) h (by rw [← hn]; simpa using hd) h3 h4⟩
          simp [execOp, Instr.box, newVar, newRow, newObj, Sem.run]
      · simp at he
    · simp at he
  · -- alloc
    rename_i t
    split at he
    · rename_i d ti hl
      cases hd : Nat.blt d g.n with
      | false => rw [hd] at he; simp at he
      | true =>
        rw [hd] at he
        simp only [cond_true] at he
        obtain ⟨x, w', h1, h2⟩ := alloc_sound hg hn h hl (by rw [← hn]; simpa using hd) he
        exact ⟨x, w', .inl (by simp only [execOp]; exact run_v h1), h2⟩
    · simp at he
  · -- store
    rename_i t p x
    split at he
    · rename_i u v hu hv
      obtain ⟨h1, _⟩ := ev_sound h (pc_nil _) hu
      obtain ⟨h3, h4⟩ := ev_sound h (pc_nil _) hv
      obtain ⟨w', r1, r2⟩ := st_sound hg h he hob h1 h3 h4
      exact ⟨undef, w', .inr ⟨by simp only [execOp, Sem.run_bind, r1]; rfl, rfl⟩, ρ, F, r2⟩
    · simp at he
  · -- buildSlice
    rename_i t len ps
    split at he
    · rename_i d e te qs hse hq
      split at he
      · rename_i zs hzs
        split at he
        · rename_i xs hxs
          cases hc : (Nat.blt d g.n && Nat.ble (len * te.size) 16777216 && Nat.ble len 16777216 && Nat.beq zs.length te.size) with
          | false => rw [hc] at he; simp at he
          | true =>
            rw [hc] at he
            simp only [cond_true] at he
            simp only [Bool.and_eq_true] at hc
            obtain ⟨⟨⟨c1, c2⟩, c3⟩, c4⟩ := hc
            obtain ⟨rfl, rfl⟩ := Prod.mk.inj (Option.some.inj he)
            obtain ⟨x, w', r1, r2⟩ := bs_sound hg h (d := d) (by rw [← hn]; simpa using c1) hse hq hzs hxs (by simpa using c2) (by simpa using c3) (Nat.eq_of_beq_eq_true c4)
            exact ⟨x, w', .inl (by simp only [execOp]; exact run_v r1), r2⟩
        · simp at he
      · simp at he
    · simp at he
  · -- makeSlice
    rename_i t l c
    split at he
    · rename_i d e te kl n kc k hse hl hc0
      split at he
      · rename_i e' hsl
        split at he
        · rename_i te' _
          cases hc : (Nat.blt d g.n && Nat.beq te.size 1) with
          | false => rw [hc] at he; simp at he
          | true =>
            rw [hc] at he
            simp only [cond_true] at he
            simp only [Bool.and_eq_true] at hc
            obtain ⟨rfl, rfl⟩ := Prod.mk.inj (Option.some.inj he)
            obtain ⟨o1, o2, o3, o4⟩ := hob
            obtain ⟨h1, _⟩ := ev_sound h (pc_nil _) hl
            obtain ⟨h3, _⟩ := ev_sound h (pc_nil _) hc0
            generalize hel : a.eval l = vl at h1
            generalize hec : a.eval c = vc at h3
            cases (show RD F w _ _ from h1); cases (show RD F w _ _ from h3)
            obtain ⟨x, w', r1, r2⟩ := mk_rows hg h (d := d) (by rw [← hn]; simpa using hc.1) te'.size hse hsl (Nat.eq_of_beq_eq_true hc.2) (kl := kl) (kc := kc) o1 o2 o3 o4
            exact ⟨x, w', .inl (by simp only [execOp, hel, hec]; exact run_v r1), r2⟩
        · simp at he
      split at he
      · rename_i zs hzs
        cases hc : (Nat.blt d g.n && Nat.beq zs.length te.size) with
        | false => rw [hc] at he; simp at he
        | true =>
          rw [hc] at he
          simp only [cond_true] at he
          simp only [Bool.and_eq_true] at hc
          obtain ⟨rfl, rfl⟩ := Prod.mk.inj (Option.some.inj he)
          obtain ⟨o1, o2, o3, o4⟩ := hob
          obtain ⟨h1, _⟩ := ev_sound h (pc_nil _) hl
          obtain ⟨h3, _⟩ := ev_sound h (pc_nil _) hc0
          generalize hel : a.eval l = vl at h1
          generalize hec : a.eval c = vc at h3
          cases (show RD F w _ _ from h1); cases (show RD F w _ _ from h3)
          obtain ⟨x, w', r1, r2⟩ := mk_sound hg h (d := d) (by rw [← hn]; simpa using hc.1) hse hzs (Nat.eq_of_beq_eq_true hc.2) (kl := kl) (kc := kc) o1 o2 o3 o4
          exact ⟨x, w', .inl (by simp only [execOp, hel, hec]; exact run_v r1), r2⟩
      · simp at he
    · simp at he
  · -- range
    rename_i t x
    split at he
    · rename_i d ti b hl hx
      split at he
      · rename_i hk
        cases hd : Nat.blt d g.n with
        | false => rw [hd] at he; simp at he
        | true =>
          rw [hd] at he
          simp only [cond_true] at he
          obtain ⟨rfl, rfl⟩ := Prod.mk.inj (Option.some.inj he)
          have hu : C.P.underlying t = some .string := by have := (lk_ok hg hl).und; rw [hk] at this; exact this
          obtain ⟨h1, _⟩ := ev_sound h (pc_nil _) hx
          generalize hex : a.eval x = vx at h1
          cases (show RD F w _ _ from h1)
          refine ⟨_, _, .inl (by simp only [execOp, hex]; exact run_v (run_range_string w t b hu)), ?_⟩
          exact h.make (by rw [← hn]; simpa using hd) (Mod.alloc _ _) (fun b hb => by simp [blk] at hb; omega) (c := .iter b 0) ⟨w.heap.size, upd_same _ _ _, heap_alloc_new w _⟩ rfl (v := .ptr s.m 0) ⟨w.heap.size, upd_same _ _ _, rfl⟩ (by show Nat.blt s.m (s.m + 1) = true; simp)
      · simp at he
    · simp at he
  · -- append
    rename_i c
    obtain ⟨callee, args, argTypes⟩ := c
    dsimp only at he
    split at he
    · rename_i d
      split at he
      · rename_i x y t t' hxy htt
        cases hd : Nat.blt d g.n with
        | false => rw [hd] at he; simp at he
        | true =>
          rw [hd] at he
          simp only [cond_true] at he
          obtain ⟨h1, _⟩ := evs_sound h (pc_nil _) hxy
          obtain ⟨args⟩ := args
          obtain ⟨argTypes⟩ := argTypes
          simp only at hxy htt h1
          subst htt
          match args, h1 with
          | [p, q], h1 =>
            obtain ⟨r, w', r1, r2⟩ := app_sound (ty := ty) hg hfx h (d := d) (by rw [← hn]; simpa using hd) he hob h1.1 h1.2.1
            exact ⟨r, w', .inl (by simp [execOp, resolve, invoke, builtin, r1]), r2⟩
          | [], h1 => exact h1.elim
          | [_], h1 => exact h1.2.elim
          | _ :: _ :: _ :: _, h1 => exact h1.2.2.elim
      · simp at he
    · simp at he
  · simp at he
end
end Go.Sx
