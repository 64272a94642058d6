/-
  Sx, part 6: slices, conversions, choices; ALL READING OPERATIONS.
-/
import Derived.Test.YtdgopbgckdnncaaSx5
set_option linter.unusedVariables false
set_option linter.unusedSimpArgs false
namespace Go.Sx
section
variable {P : Program} {w : World} {ρ : Nat → Value} {F : Nat → Prop} {g : Cfg} {m : Nat}

def optR (ρ : Nat → Value) (F : Nat → Prop) (w : World) : Option V → Option Value → Prop
  | none, none => True
  | some v, some x => R3 ρ F w v x
  | _, _ => False

theorem bnds_sound {n cap : Nat} (hcap : n ≤ cap) {lo hi : Option V} {l h : Int} {p : List Prop} (hb : bnds n lo hi = some (l, h, p)) (hp : AllP p) {vl vh : Option Value} (hl : optR ρ F w lo vl) (hh : optR ρ F w hi vh) (isS : Bool) :
    0 ≤ l ∧ l ≤ h ∧ h ≤ (n : Int) ∧ ∀ w', (Instr.sliceBounds isS n cap vl vh none).run P w' = .ok (l.toNat, h.toNat, cap) w' := by
  unfold bnds at hb
  split at hb
  · obtain ⟨rfl, hb2⟩ := Prod.mk.inj (Option.some.inj hb); obtain ⟨rfl, rfl⟩ := Prod.mk.inj hb2
    cases vl <;> cases vh <;> first | exact hl.elim | exact hh.elim | skip
    exact ⟨by omega, by omega, by omega, fun w' => by simp [Instr.sliceBounds]⟩
  · rename_i k l'
    cases vl <;> cases vh <;> first | exact hl.elim | exact hh.elim | skip
    cases (show RD F w _ _ from hl)
    obtain ⟨rfl, hb2⟩ := Prod.mk.inj (Option.some.inj hb); obtain ⟨rfl, rfl⟩ := Prod.mk.inj hb2
    obtain ⟨h0, h1⟩ := hp
    exact ⟨h0, h1, by omega, fun w' => by simp [Instr.sliceBounds, Instr.sliceBound, asIntOf, h0, h1]⟩
  · rename_i kk hv
    cases vl <;> cases vh <;> first | exact hl.elim | exact hh.elim | skip
    cases (show RD F w _ _ from hh)
    obtain ⟨rfl, hb2⟩ := Prod.mk.inj (Option.some.inj hb); obtain ⟨rfl, rfl⟩ := Prod.mk.inj hb2
    obtain ⟨h0, h1⟩ := hp
    have h2 : hv ≤ (cap : Int) := by omega
    exact ⟨by omega, by omega, by omega, fun w' => by simp [Instr.sliceBounds, Instr.sliceBound, asIntOf, h0, h2]⟩
  · rename_i kl lv kk hv
    cases vl <;> cases vh <;> first | exact hl.elim | exact hh.elim | skip
    cases (show RD F w _ _ from hl); cases (show RD F w _ _ from hh)
    obtain ⟨rfl, hb2⟩ := Prod.mk.inj (Option.some.inj hb); obtain ⟨rfl, rfl⟩ := Prod.mk.inj hb2
    obtain ⟨h0, h1, h3⟩ := hp
    have h2 : hv ≤ (cap : Int) := by omega
    have h4 : 0 ≤ hv := by omega
    have h5 : lv ≤ max hv 0 := by omega
    exact ⟨h0, h1, by omega, fun w' => by simp [Instr.sliceBounds, Instr.sliceBound, asIntOf, h0, h2, h4, h5]⟩
  · simp at hb

theorem slc_sound (hg : TysOK P g.tys) {t : TypeId} {x v : V} {vx : Value} {lo hi : Option V} {vl vh : Option Value} {ob : List Prop} (h : slcE g t x lo hi = some (v, ob)) (hob : AllP ob) (hx : R3 ρ F w x vx) (hl : optR ρ F w lo vl) (hh : optR ρ F w hi vh) :
    ∃ r, R3 ρ F w v r ∧ v.all3 (fresh m) = true ∧ ∀ w', (Instr.sliceAt t vx vl vh none).run P w' = .ok r w' := by
  unfold slcE at h
  split at h
  · simp at h
  · rename_i ti hlk
    have hk := (lk_ok hg hlk).und
    split at h
    · rename_i s hkk
      rw [hkk] at hk
      have hu : P.underlying t = some .string := hk
      split at h
      · rename_i l hh' p hb
        obtain ⟨rfl, rfl⟩ := Prod.mk.inj (Option.some.inj h)
        cases (show RD F w _ _ from hx)
        obtain ⟨_, _, _, hr⟩ := bnds_sound (P := P) (Nat.le_refl _) hb hob hl hh false
        exact ⟨_, RD.str _, rfl, fun w' => by simp [Instr.sliceAt, Instr.slice, run_und hu, hr]⟩
      · simp at h
    · rename_i e sz n f hkk
      rw [hkk] at hk
      have hu : P.underlying t = some (.slice e) := hk
      cases hz : isz g e sz with
      | false => rw [hz] at h; simp at h
      | true =>
        rw [hz] at h
        simp only [cond_true] at h
        split at h
        · rename_i l hh' p hb
          obtain ⟨rfl, rfl⟩ := Prod.mk.inj (Option.some.inj h)
          have hs : ∀ w', (sizeOf e).run P w' = .ok sz w' := isz_sound hg hz
          cases (show RD F w _ _ from hx) with
          | emp _ _ a cap =>
            obtain ⟨h0, h1, h2, hr⟩ := bnds_sound (P := P) (Nat.zero_le cap) hb hob hl hh true
            have e1 : hh'.toNat - l.toNat = 0 := by omega
            rw [e1]
            exact ⟨_, RD.emp _ _ _ _, rfl, fun w' => by simp [Instr.sliceAt, Instr.slice, run_und hu, hr, hs, e1]; exact ⟨rfl, rfl⟩⟩
          | sl _ _ _ b o cap cs hF hn hc hlen hrd =>
            obtain ⟨h0, h1, h2, hr⟩ := bnds_sound (P := P) hn hb hob hl hh true
            by_cases hz0 : hh'.toNat - l.toNat = 0
            · rw [hz0]
              exact ⟨_, RD.emp _ _ _ _, rfl, fun w' => by simp [Instr.sliceAt, Instr.slice, run_und hu, hr, hs, hz0]; exact ⟨rfl, rfl⟩⟩
            · have hne : ¬ cap = l.toNat := by omega
              refine ⟨.slice (some ⟨b, o + l.toNat * sz, none⟩) (hh'.toNat - l.toNat) (cap - l.toNat), ?_, rfl, fun w' => by simp [Instr.sliceAt, Instr.slice, run_und hu, hr, hs, hne, Addr.add_lit]⟩
              refine RD.sl _ _ _ b (o + l.toNat * sz) _ (fun i j => cs (l.toNat + i) j) hF (by omega) (fun i j hi hj => ?_) (fun i hi => hlen _ (by omega)) (fun i j d hi hd => hrd _ j d (by omega) hd)
              have := hc (l.toNat + i) j (by omega) hj
              rwa [Nat.add_mul, Nat.add_assoc, ← Nat.add_assoc o] at this
        · simp at h
    · simp at h

theorem slc3_sound (hg : TysOK P g.tys) {t : TypeId} {x v mx : V} {vx vm : Value} {lo hi : Option V} {vl vh : Option Value} {ob : List Prop} (h : slc3E g t x lo hi mx = some (v, ob)) (hob : AllP ob) (hx : R3 ρ F w x vx) (hl : optR ρ F w lo vl) (hh : optR ρ F w hi vh) (hm : R3 ρ F w mx vm) :
    ∃ r, R3 ρ F w v r ∧ v.all3 (fresh m) = true ∧ ∀ w', (Instr.sliceAt t vx vl vh (some vm)).run P w' = .ok r w' := by
  unfold slc3E at h
  split at h
  · simp at h
  · rename_i ti hlk
    have hk := (lk_ok hg hlk).und
    split at h
    · rename_i e sz n f k1 hv k2 mv hkk
      rw [hkk] at hk
      have hu : P.underlying t = some (.slice e) := hk
      cases hz : isz g e sz with
      | false => rw [hz] at h; simp at h
      | true =>
        rw [hz] at h
        simp only [cond_true] at h
        obtain ⟨rfl, rfl⟩ := Prod.mk.inj (Option.some.inj h)
        obtain ⟨h0, h1, h2⟩ := hob
        have hs : ∀ w', (sizeOf e).run P w' = .ok sz w' := isz_sound hg hz
        cases vl <;> cases vh <;> first | exact hl.elim | exact hh.elim | skip
        cases (show RD F w _ _ from hh); cases (show RD F w _ _ from hm)
        have h3 : 0 ≤ mv := by omega
        have hr : ∀ (cap : Nat), n ≤ cap → ∀ w', (Instr.sliceBounds true n cap none (some (.int k1 hv)) (some (.int k2 mv))).run P w' = .ok (0, hv.toNat, mv.toNat) w' := fun cap hc w' => by
          have h4 : mv ≤ (cap : Int) := by omega
          have h5 : hv ≤ max mv 0 := by omega
          simp [Instr.sliceBounds, Instr.sliceBound, asIntOf, h0, h3, h4, h5]
        cases (show RD F w _ _ from hx) with
        | emp _ _ a cap =>
          have e0 : hv = 0 := by omega
          have e1 : mv = 0 := by omega
          subst e0 e1
          exact ⟨_, RD.emp _ _ _ _, rfl, fun w' => by simp [Instr.sliceAt, Instr.slice, run_und hu, hr cap (Nat.zero_le _), hs]; exact ⟨rfl, rfl⟩⟩
        | sl _ _ _ b o cap cs hF hn hc hlen hrd =>
          by_cases hz0 : hv.toNat = 0
          · rw [hz0]
            exact ⟨_, RD.emp _ _ _ _, rfl, fun w' => by simp [Instr.sliceAt, Instr.slice, run_und hu, hr cap hn, hs, hz0]; exact ⟨rfl, rfl⟩⟩
          · have hne : ¬ mv.toNat = 0 := by omega
            refine ⟨.slice (some ⟨b, o, none⟩) hv.toNat mv.toNat, ?_, rfl, fun w' => by simp [Instr.sliceAt, Instr.slice, run_und hu, hr cap hn, hs, hne, Addr.add_lit]⟩
            exact RD.sl _ _ _ b o _ cs hF (by omega) (fun i j hi hj => hc i j (by omega) hj) (fun i hi => hlen _ (by omega)) (fun i j d hi hd => hrd i j d (by omega) hd)
    · simp at h

theorem parts_sound {C : Ctx} {s : St} {a : Act} (hs : SatW C s a w ρ F) {x : V} {sz n : Nat} {f : Nat → List D} {vx : Value} (h : parts s.H x = some (sz, n, f)) (hx : R3 ρ F w x vx) :
    (∃ ad cap, vx = .slice ad 0 cap ∧ n = 0) ∨ ∃ b o cap, ∃ cs : Nat → Nat → Value, vx = .slice (some ⟨b, o, none⟩) n cap ∧ n ≤ cap ∧ (∀ i, i < n → (f i).length = sz) ∧ ∀ i j d, i < n → (f i)[j]? = some d → w.cell? ⟨b, o + (i * sz + j), none⟩ = some (cs i j) ∧ RD F w d (cs i j) := by
  unfold parts at h
  split at h
  · simp only [Option.some.injEq, Prod.mk.injEq] at h
    obtain ⟨rfl, rfl, rfl⟩ := h
    cases (show RD F w _ _ from hx) with
    | emp _ _ a cap => exact .inl ⟨a, cap, rfl, rfl⟩
    | sl _ _ _ b o cap cs hF hn hc hlen hrd =>
      refine .inr ⟨b, o, cap, cs, rfl, hn, hlen, fun i j d hi hd => ⟨hc i j hi ?_, hrd i j d hi hd⟩⟩
      have := (List.getElem?_eq_some_iff.1 hd).1
      rwa [hlen i hi] at this
  · rename_i id
    split at h
    · rename_i e' sz' n' f' hgH
      simp only [Option.some.injEq, Prod.mk.injEq] at h
      obtain ⟨rfl, rfl, rfl⟩ := h
      obtain ⟨xs, ho, he⟩ := hs.ch id _ (get_mem hgH)
      have hv : vx = ρ id := (show R0 ρ F w (.own id) vx from hx).1
      rcases ho.2 with ⟨h1, h2⟩ | ⟨b, cap, cur, h1, h2, h3, h4, h5⟩
      · subst h2; exact .inl ⟨none, 0, hv.trans h1, rfl⟩
      · have hc := ho.cells (g := b) (by rw [h1]; rfl)
        refine .inr ⟨b, 0, cap, fun i j => (xs[i * sz' + j]?).getD undef, hv.trans h1, h4, fun i hi => (he i hi).1, fun i j d hi hd => ?_⟩
        obtain ⟨c, hc1, hc2⟩ := (he i hi).2 j d hd
        have := hc _ _ hc1
        rw [Addr.add_lit, Nat.zero_add] at this
        simp only [hc1, Option.getD_some, Nat.zero_add]
        exact ⟨this, hc2⟩
    · simp at h
  · simp at h

theorem isU8_form {l : List D} (h : isU8 l) : ∃ n, l = [.int .u8 n] := by
  unfold isU8 at h
  split at h
  · exact ⟨_, rfl⟩
  · exact h.elim

theorem foldl_push (l : List Int) (s : ByteArray) : (l.foldl (fun r n => r.push (UInt8.ofNat n.toNat)) s).data.toList = s.data.toList ++ l.map fun n => UInt8.ofNat n.toNat := by
  induction l generalizing s with
  | nil => simp
  | cons n l ih => rw [List.foldl_cons, ih]; simp [ByteArray.push]

theorem conv_sound (hg : TysOK P g.tys) {C : Ctx} {s : St} {a : Act} (hs : SatW C s a w ρ F) {ck : Bool} {src dst : TypeId} {x v : V} {vx : Value} {ob : List Prop} (h : convE g ck s.H src dst x = some (v, ob)) (hob : AllP ob) (hx : R3 ρ F w x vx) :
    ∃ r, R3 ρ F w v r ∧ v.all3 (fresh m) = true ∧ ∀ w', Agree w w' → (convert src dst vx).run P w' = .ok r w' := by
  unfold convE at h
  split at h
  · rename_i ts td hls hld
    have hkd := (lk_ok hg hld).und
    have hks := (lk_ok hg hls).und
    obtain ⟨ds, hds⟩ := und_some (lk_ok hg hls)
    split at h
    · -- int
      rename_i k' k n hkk
      rw [hkk] at hkd
      cases (show RD F w _ _ from hx)
      obtain ⟨rfl, rfl⟩ : _ ∧ _ := ⟨congrArg Prod.fst (Option.some.inj h), congrArg Prod.snd (Option.some.inj h)⟩
      refine ⟨.int k' (k'.wrap n), ?_, ?_, fun w' _ => by simp [convert, run_und hds, run_und (show P.underlying dst = some (.int k') from hkd), Conv.intToInt]⟩
      · rw [num_sound hob]; exact RD.int _ _
      · rw [num_sound hob]; rfl
    · rename_i y hkk
      rw [hkk] at hkd
      cases (show RD F w _ _ from hx)
      obtain ⟨rfl, rfl⟩ := Prod.mk.inj (Option.some.inj h)
      exact ⟨_, RD.str _, rfl, fun w' _ => by simp [convert, run_und hds, run_und (show P.underlying dst = some .string from hkd)]⟩
    · rename_i hkk
      rw [hkk] at hkd
      split at h
      · rename_i e hke
        rw [hke] at hks
        split at h
        · rename_i te hlt
          have hkt := (lk_ok hg hlt).und
          split at h
          · rename_i hku
            rw [hku] at hkt
            obtain ⟨rfl, rfl⟩ := Prod.mk.inj (Option.some.inj h)
            have hv : vx = .slice none 0 0 := hx
            subst hv
            exact ⟨_, RD.str _, rfl, fun w' _ => by rw [run_convert_bytes_string (P := P) w' src dst e none 0 0 hks hkt hkd]; rfl⟩
          · simp at h
        · simp at h
      · simp at h
    · rename_i hkk _ _
      rw [hkk] at hkd
      split at h
      · rename_i e hke
        rw [hke] at hks
        split at h
        · rename_i te hlt
          have hkt := (lk_ok hg hlt).und
          split at h
          · rename_i sz n f hku hp
            rw [hku] at hkt
            cases h1 : Nat.beq sz 1 with
            | false => rw [h1] at h; simp at h
            | true =>
              rw [h1] at h
              simp only [cond_true] at h
              have h1 := Nat.eq_of_beq_eq_true h1
              subst h1
              obtain ⟨rfl, rfl⟩ := Prod.mk.inj (Option.some.inj h)
              refine ⟨_, RD.str _, rfl, fun w' hw' => ?_⟩
              rcases parts_sound hs hp hx with ⟨ad, cap, rfl, rfl⟩ | ⟨b, o, cap, cs, rfl, hn, hlen, hc⟩
              · rw [run_convert_bytes_string (P := P) w' src dst e ad 0 cap hks hkt hkd]
                cases ad with
                | none => rfl
                | some ad => exact run_bytesToString w' ad 0 cap [] (by simp [loadCells, loadCellsFrom])
              · rw [run_convert_bytes_string (P := P) w' src dst e _ n cap hks hkt hkd]
                have hl : (loadCells ⟨b, o, none⟩ n).run P w' = .ok (((List.range n).map fun i => dInt (f i)).map (Value.int .u8)).toArray w' := by
                  have := run_loadCells (P := P) w' ⟨b, o, none⟩ n (fun i => .int .u8 (dInt (f i))) (fun j hj => by
                    obtain ⟨k, hk⟩ := isU8_form (hob j hj)
                    obtain ⟨h1, h2⟩ := hc j 0 (.int .u8 k) hj (by rw [hk]; rfl)
                    rw [Addr.add_lit]
                    have h3 := cell_agree hw' h1
                    generalize hcs : cs j 0 = c at h2 h3
                    cases h2
                    rw [hk]
                    simpa [dInt] using h3)
                  rw [this]
                  simp [Function.comp_def]
                rw [run_bytesToString w' _ n cap _ hl]
                congr 2
                apply Go.WideShapes.bytes_inj
                rw [foldl_push]
                simp [bytesOf, Function.comp_def]
          · simp at h
        · simp at h
      · simp at h
    · simp at h
  · simp at h
end
end Go.Sx
