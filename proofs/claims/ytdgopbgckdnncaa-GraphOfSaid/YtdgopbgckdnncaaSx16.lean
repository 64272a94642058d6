/-
  Sx, part 16: steps, loops, cuts, weakening.
-/
import Derived.Test.YtdgopbgckdnncaaSx15
import Derived.Deep.LoopGhost
set_option linter.unusedVariables false
set_option linter.unusedSimpArgs false
namespace Go.Sx

/-! ### what one state says, another says too -/
def DEq : D → D → Prop
  | .int k a, .int k' b => bif kbeq k k' then a = b else False
  | .bool a, .bool b => a = b
  | .str a, .str b => a = b
  | .sl z n f, .sl z' n' f' => n = n' ∧ (n ≠ 0 → z = z') ∧ ∀ i, i < n → f i = f' i
  | _, _ => False
def VEq0 : V → V → Prop
  | .d a, .d b => DEq a b
  | .nils, .d (.sl _ n _) => n = 0
  | .nils, .nils => True
  | .ptr i o, .ptr j p => i = j ∧ o = p
  | .own i, .own j => i = j
  | .vptr a b c e, .vptr a' b' c' e' => a = a' ∧ b = b' ∧ c = c' ∧ e = e'
  | a, b => a = b
def VEqs : List V → List V → Prop
  | [], [] => True
  | a :: r, b :: q => VEq0 a b ∧ VEqs r q
  | _, _ => False
def VEq : V → V → Prop
  | .agg us, .agg vs => VEqs us vs
  | .tup us, .tup vs => VEqs us vs
  | a, b => VEq0 a b
def ChEq : Ch → Ch → Prop
  | .box us, .box vs => VEqs us vs
  | .arr z n f, .arr z' n' f' => z = z' ∧ n = n' ∧ ∀ i, i < n → f i = f' i
  | .vec e z n f, .vec e' z' n' f' => e = e' ∧ z = z' ∧ n = n' ∧ ∀ i, i < n → f i = f' i
  | .iter s p, .iter s' p' => s = s' ∧ p = p'
  | .rows e e' z n h hs m f, .rows e2 e2' z' n' h' hs' m' f' => e = e2 ∧ e' = e2' ∧ z = z' ∧ n = n' ∧ h = h' ∧ ∀ i, i < n → hs i = hs' i ∧ m i = m' i ∧ ∀ j, j < m i → f i j = f' i j
  | _, _ => False
def isG : V → Bool
  | .g .. => true
  | _ => false
def LLE (L : List (Nat × V)) : List (Nat × V) → Prop
  | [] => True
  | (t, v) :: r => (match get L t with | some u => VEq u v | none => False) ∧ LLE L r
def HLE (H : List (Nat × Ch)) : List (Nat × Ch) → Prop
  | [] => True
  | (t, v) :: r => (match get H t with | some u => ChEq u v | none => False) ∧ HLE H r
def okL (m : Nat) : List (Nat × V) → Bool
  | [] => true
  | (_, v) :: r => !isG v && v.all3 (fresh m) && okL m r
def okH (m : Nat) : List (Nat × Ch) → Bool
  | [] => true
  | (i, c) :: r => Nat.blt i m && c.all (fresh m) && okH m r
def okS (fix : Nat) (s : St) : Bool := okL s.m s.L && okH s.m s.H && Nat.ble fix s.m
def LE (fix : Nat) (s s' : St) : Prop := LLE s.L s'.L ∧ HLE s.H s'.H ∧ okS fix s' = true

section
variable {C : Ctx} {s s' : St} {a : Act} {w w' : World} {ρ : Nat → Value} {F : Nat → Prop} {g : Cfg}

theorem DEq_sound {x y : D} {v : Value} (h : DEq x y) (hr : RD F w x v) : RD F w y v := by
  cases x <;> cases y <;> simp only [DEq] at h <;> first | exact h.elim | skip
  · rename_i k a k' b
    cases hk : kbeq k k' with
    | false => rw [hk] at h; exact h.elim
    | true => rw [hk] at h; have := kbeq_eq hk; subst this; simp only [cond_true] at h; subst h; exact hr
  · subst h; exact hr
  · subst h; exact hr
  · rename_i z n f z' n' f'
    obtain ⟨h1, hz, hf⟩ := h
    subst h1
    by_cases h0 : n = 0
    · subst h0
      cases hr <;> exact .emp _ _ _ _
    cases hr with
    | emp => exact .emp _ _ _ _
    | sl _ _ _ b o cap cs hF hn hc hl hrr =>
      · obtain rfl := hz h0
        exact .sl _ _ _ b o cap cs hF hn hc (fun i hi => by rw [← hf i hi]; exact hl i hi) (fun i j d hi hd => hrr i j d hi (by rw [hf i hi]; exact hd))

theorem VEq0_sound {x y : V} {v : Value} (h : VEq0 x y) (hr : R1 ρ F w x v) : R1 ρ F w y v := by
  unfold VEq0 at h
  split at h
  · exact DEq_sound h hr
  · subst h
    rw [show v = .slice none 0 0 from hr]
    exact RD.emp _ _ _ _
  · exact hr
  · obtain ⟨rfl, rfl⟩ := h; exact hr
  · subst h; exact hr
  · obtain ⟨rfl, rfl, rfl, rfl⟩ := h; exact hr
  · subst h; exact hr

theorem VEqs_sound : ∀ {us vs : List V} {cs : List Value}, VEqs us vs → All2 (R1 ρ F w) us cs → All2 (R1 ρ F w) vs cs
  | [], [], _, _, hr => hr
  | u :: us, v :: vs, c :: cs, h, hr => ⟨VEq0_sound h.1 hr.1, VEqs_sound h.2 hr.2⟩
  | u :: us, v :: vs, [], h, hr => hr.elim
  | [], _ :: _, _, h, _ => h.elim
  | _ :: _, [], _, h, _ => h.elim

theorem R2_R1 {u : V} {v : Value} (h : ∀ us, u ≠ .agg us) (hr : R2 ρ F w u v) : R1 ρ F w u v := by
  cases u <;> first | exact hr | exact (h _ rfl).elim

theorem VEq0_other {x y : V} (hx : x.leaf = false) (h : VEq0 x y) : y = x := by
  cases x <;> first | (simp [V.leaf] at hx; done) | (cases y <;> exact Eq.symm h)

theorem VEqs2_sound : ∀ {us vs : List V} {cs : List Value}, VEqs us vs → All2 (R2 ρ F w) us cs → All2 (R2 ρ F w) vs cs
  | [], [], _, _, hr => hr
  | u :: us, v :: vs, c :: cs, h, hr => by
    refine ⟨?_, VEqs2_sound h.2 hr.2⟩
    have h1 := h.1
    have h2 := hr.1
    by_cases hu : ∃ xs, u = .agg xs
    · obtain ⟨xs, rfl⟩ := hu
      rw [VEq0_other rfl h1]; exact h2
    · exact R2_of (VEq0_sound h1 (R2_R1 (fun us e => hu ⟨us, e⟩) h2))
  | u :: us, v :: vs, [], h, hr => hr.elim
  | [], _ :: _, _, h, _ => h.elim
  | _ :: _, [], _, h, _ => h.elim

theorem VEq_sound {x y : V} {v : Value} (h : VEq x y) (hr : R3 ρ F w x v) : R3 ρ F w y v := by
  unfold VEq at h
  split at h
  · obtain ⟨cs, rfl, hc⟩ := (show R2 ρ F w (.agg _) v from hr)
    exact ⟨cs, rfl, VEqs_sound h hc⟩
  · obtain ⟨cs, rfl, hc⟩ := hr
    exact ⟨cs, rfl, VEqs2_sound h hc⟩
  · by_cases ha : ∃ us, x = .agg us
    · obtain ⟨us, rfl⟩ := ha
      rw [VEq0_other rfl h]; exact hr
    · by_cases ht : ∃ us, x = .tup us
      · obtain ⟨us, rfl⟩ := ht
        rw [VEq0_other rfl h]; exact hr
      · have h1 : R1 ρ F w x v := by
          cases x <;> first | exact hr | exact (ha ⟨_, rfl⟩).elim | exact (ht ⟨_, rfl⟩).elim
        exact R3_of (R2_of (VEq0_sound h h1))

theorem Elems.ext {sz n : Nat} {f f' : Nat → List D} {xs : List Value} (h : Elems F w sz n f xs) (hf : ∀ i, i < n → f i = f' i) : Elems F w sz n f' xs :=
  fun i hi => by rw [← hf i hi]; exact h i hi

theorem ChEq_sound {id : Nat} {c c' : Ch} (h : ChEq c c') (hr : ChOK ρ F w id c) : ChOK ρ F w id c' := by
  unfold ChEq at h
  split at h
  · obtain ⟨b, cs, T, h1, h2, h3⟩ := hr
    exact ⟨b, cs, T, h1, h2, VEqs_sound h h3⟩
  · obtain ⟨rfl, rfl, hf⟩ := h
    obtain ⟨b, cs, T, h1, h2, h3, h4⟩ := hr
    exact ⟨b, cs, T, h1, h2, h3, h4.ext hf⟩
  · obtain ⟨rfl, rfl, rfl, hf⟩ := h
    obtain ⟨xs, h1, h2⟩ := hr
    exact ⟨xs, h1, h2.ext hf⟩
  · obtain ⟨rfl, rfl⟩ := h
    exact hr
  · obtain ⟨rfl, rfl, rfl, rfl, rfl, hf⟩ := h
    obtain ⟨xs, h1, h2, h3, h4⟩ := hr
    refine ⟨xs, h1, fun i hi hh => ?_, fun i b hi hh => by rw [← (hf i hi).1]; exact h3 i b hi hh, fun i j b hi hj hhi hhj hij => by rw [← (hf i hi).1, ← (hf j hj).1]; exact h4 i j b hi hj hhi hhj hij⟩
    obtain ⟨h5, ys, h6, h7⟩ := h2 i hi hh
    obtain ⟨f1, f2, f3⟩ := hf i hi
    rw [← f1, ← f2]
    exact ⟨h5, ys, h6, h7.ext f3⟩
  · exact h.elim

theorem ChEq_bks {ρ : Nat → Value} {i b : Nat} {c c' : Ch} (h : ChEq c c') (hb : bks ρ i c' b) : bks ρ i c b := by
  unfold ChEq at h
  split at h
  · exact hb
  · exact hb
  · exact hb
  · exact hb
  · obtain ⟨rfl, rfl, rfl, rfl, rfl, hf⟩ := h
    rcases hb with hb | ⟨k, hk, hh, hb⟩
    · exact .inl hb
    · exact .inr ⟨k, hk, hh, by rw [(hf k hk).1]; exact hb⟩
  · exact h.elim

theorem LLE_mem {L : List (Nat × V)} : ∀ {L' : List (Nat × V)} {t : Nat} {v : V}, LLE L L' → (t, v) ∈ L' → ∃ u, (t, u) ∈ L ∧ VEq u v
  | (t', v') :: r, t, v, h, hm => by
    rcases List.mem_cons.1 hm with e | hm
    · obtain ⟨rfl, rfl⟩ := Prod.mk.inj e
      have h1 := h.1
      cases hg : get L t with
      | none => rw [hg] at h1; exact h1.elim
      | some u => rw [hg] at h1; exact ⟨u, get_mem hg, h1⟩
    · exact LLE_mem h.2 hm
theorem HLE_mem {L : List (Nat × Ch)} : ∀ {L' : List (Nat × Ch)} {t : Nat} {v : Ch}, HLE L L' → (t, v) ∈ L' → ∃ u, (t, u) ∈ L ∧ ChEq u v
  | (t', v') :: r, t, v, h, hm => by
    rcases List.mem_cons.1 hm with e | hm
    · obtain ⟨rfl, rfl⟩ := Prod.mk.inj e
      have h1 := h.1
      cases hg : get L t with
      | none => rw [hg] at h1; exact h1.elim
      | some u => rw [hg] at h1; exact ⟨u, get_mem hg, h1⟩
    · exact HLE_mem h.2 hm
theorem okL_mem {m : Nat} : ∀ {L : List (Nat × V)} {t : Nat} {v : V}, okL m L = true → (t, v) ∈ L → isG v = false ∧ v.all3 (fresh m) = true
  | (t', v') :: r, t, v, h, hm => by
    simp only [okL, Bool.and_eq_true, Bool.not_eq_true'] at h
    rcases List.mem_cons.1 hm with e | hm
    · obtain ⟨rfl, rfl⟩ := Prod.mk.inj e; exact ⟨h.1.1, h.1.2⟩
    · exact okL_mem h.2 hm
theorem okH_mem {m : Nat} : ∀ {L : List (Nat × Ch)} {t : Nat} {v : Ch}, okH m L = true → (t, v) ∈ L → t < m ∧ v.all (fresh m) = true
  | (t', v') :: r, t, v, h, hm => by
    simp only [okH, Bool.and_eq_true] at h
    rcases List.mem_cons.1 hm with e | hm
    · obtain ⟨rfl, rfl⟩ := Prod.mk.inj e; exact ⟨by simpa using h.1.1, h.1.2⟩
    · exact okH_mem h.2 hm

theorem LE.sat (hle : LE C.fix s s') (h : Sat C s a w) : Sat C s' a w := by
  obtain ⟨ρ, F, h⟩ := h
  obtain ⟨hL, hH, hok⟩ := hle
  simp only [okS, Bool.and_eq_true] at hok
  obtain ⟨⟨ok1, ok2⟩, ok3⟩ := hok
  refine ⟨ρ, F, { size := h.size, defers := h.defers, slot := ?_, ch := ?_, sep := ?_, out := ?_, freshL := ?_, freshH := ?_, lt := h.lt, mine := ?_, sub := h.sub, base := h.base, fixd := ⟨by simpa using ok3, h.fixd.2⟩, keep := h.keep, env := h.env }⟩
  · intro t v hv
    obtain ⟨u, hu, he⟩ := LLE_mem hL hv
    obtain ⟨x, hx, hr⟩ := h.slot t u hu
    have hg := (okL_mem ok1 hv).1
    refine ⟨x, hx, ?_⟩
    cases u with
    | g p y =>
      have : v = .g p y := by
        unfold VEq VEq0 at he
        cases v <;> simp_all [isG]
      subst this
      simp [isG] at hg
    | _ => exact RS_of (VEq_sound he hr)
  · intro i c hc
    obtain ⟨u, hu, he⟩ := HLE_mem hH hc
    exact ChEq_sound he (h.ch i u hu)
  · intro i j ci cj b hi hj hij e
    obtain ⟨u, hu, he⟩ := HLE_mem hH hi
    obtain ⟨u2, hu2, he2⟩ := HLE_mem hH hj
    exact fun e2 => h.sep i j u u2 b hu hu2 hij (ChEq_bks he e) (ChEq_bks he2 e2)
  · intro i c b hi e
    obtain ⟨u, hu, he⟩ := HLE_mem hH hi
    exact h.out i u b hu (ChEq_bks he e)
  · intro t v hv
    obtain ⟨h1, h2⟩ := okL_mem ok1 hv
    cases v <;> first | exact h2 | simp [isG] at h1
  · intro i c hc; exact okH_mem ok2 hc
  · intro i c b hi e
    obtain ⟨u, hu, he⟩ := HLE_mem hH hi
    exact h.mine i u b hu (ChEq_bks he e)

variable {K : List Item} {Φ : Exit → St → Prop}

theorem Go.le {fix : Nat} (hf : fix = C.fix) (h : LE fix s s') (k : Go C K s' Φ) : Go C K s Φ := fun a w hs => k a w (LE.sat (hf ▸ h) hs)

theorem Go.loop {α : Type} {fix : Nat} (hf : fix = C.fix) (I : α → St) (μ : α → Nat) (x0 : α) (h0 : LE fix s (I x0)) {body : Code}
    (hr : ∀ x, Go C (.code body :: .back (fun s' => ∃ y, μ y < μ x ∧ LE fix s' (I y)) :: K) (I x) Φ) : Go C (.code (.loop body) :: K) s Φ := by
  subst hf
  intro a w hs
  rw [den_code]
  refine wp_loop_ghost (fun n a w => ∃ x, μ x = n ∧ Sat C (I x) a w) (μ x0) ⟨x0, rfl, LE.sat h0 hs⟩ ?_
  rintro n a w ⟨x, rfl, hx⟩
  refine wp_mono (hr x a w hx) ?_
  intro e a' w' hq
  cases e with
  | normal =>
    obtain ⟨s', h1, y, h2, h3⟩ := hq
    exact ⟨μ y, h2, y, rfl, LE.sat h3 h1⟩
  | _ => exact hq

/-- What stands at the head of the stack is gone through; what follows is gone through once. -/
theorem Go.cut {α : Type} {fix : Nat} (hf : fix = C.fix) (I : α → St) {c : Code} (h1 : Go C (.code c :: .back (fun s' => ∃ y, LE fix s' (I y)) :: K) s Φ) (h2 : ∀ y, Go C K (I y) Φ) : Go C (.code c :: K) s Φ := by
  subst hf
  intro a w hs
  rw [den_code]
  refine wp_mono (h1 a w hs) ?_
  intro e a' w' hq
  cases e with
  | normal =>
    obtain ⟨s', h3, y, h4⟩ := hq
    exact h2 y _ _ (LE.sat h4 h3)
  | _ => exact hq

/-! ### steps -/
section
variable (hg : TysOK C.P g.tys) (hn : g.n = C.n) (hfx : g.fix = C.fix) {n : Nat}
include hg hn hfx
theorem st {ev : Ev} (h : run g n K s [] = ev) (k : ev.holds C Φ) : Go C K s Φ := (run_holds hg hn hfx n K s [] (h ▸ k)).2
theorem st_cond {ob : List Prop} {b : Bool} {x y : Code} {K' : List Item} (h : run g n K s [] = .cond ob b x y K' s') (ho : AllP ob) (h1 : b = true → Go C (.code x :: K') s' Φ) (h2 : b = false → Go C (.code y :: K') s' Φ) : Go C K s Φ :=
  st hg hn hfx h ⟨ho, h1, h2⟩
theorem st_loop {ob : List Prop} {c : Code} {K' : List Item} (h : run g n K s [] = .loop ob c K' s') (ho : AllP ob) (k : Go C (.code (.loop c) :: K') s' Φ) : Go C K s Φ :=
  st hg hn hfx h ⟨ho, k⟩
theorem st_back {ob : List Prop} {J : St → Prop} (h : run g n K s [] = .back ob J s') (ho : AllP ob) (k : J s') : Go C K s Φ :=
  st hg hn hfx h ⟨ho, k⟩
theorem st_exit {ob : List Prop} {e : Exit} (h : run g n K s [] = .exit ob e s') (ho : AllP ob) (k : Φ e s') : Go C K s Φ :=
  st hg hn hfx h ⟨ho, k⟩
theorem st_op {ob : List Prop} {all : Array Oper} {o : Oper} {rest : List Oper} {K' : List Item} (h : run g n K s [] = .op ob all o rest K' s') (ho : AllP ob) (k : Go C (.ops all (o :: rest) :: K') s' Φ) : Go C K s Φ :=
  st hg hn hfx h ⟨ho, k⟩
theorem st_code {ob : List Prop} {c : Code} {K' : List Item} (h : run g n K s [] = .code ob c K' s') (ho : AllP ob) (k : Go C (.code c :: K') s' Φ) : Go C K s Φ :=
  st hg hn hfx h ⟨ho, k⟩
end
end
end Go.Sx
