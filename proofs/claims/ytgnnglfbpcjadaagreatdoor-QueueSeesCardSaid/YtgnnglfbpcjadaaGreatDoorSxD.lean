/- Texts put together: Sx15, Sx16, Sx17, Sx18, Sx19, Sx20. -/
import Derived.Test.YtgnnglfbpcjadaaGreatDoorSxC
import Derived.Deep.LoopGhost
import Derived.RangeFuncLeaves

/-
  Sx, part 15: the machine is right.
-/
set_option linter.unusedVariables false
set_option linter.unusedSimpArgs false
namespace Go.Sx
section
variable {C : Ctx} {Q : Exit → Act → World → Prop} {a : Act} {w : World}

theorem den_exit_some {id : Nat} : ∀ {K K' : List Item}, popTo id K = some K' → den C Q K (.exit id) a w = den C Q K' .normal a w
  | .blk i :: K, K', h => by
    simp only [popTo] at h
    cases hi : Nat.beq i id with
    | true =>
      rw [hi] at h
      simp only [cond_true, Option.some.injEq] at h
      subst h
      have := Nat.eq_of_beq_eq_true hi
      subst this
      simp [den, Exit.inBlock]
    | false =>
      rw [hi] at h
      simp only [cond_false] at h
      have : id ≠ i := by rintro rfl; simp at hi
      simp only [den, Exit.inBlock, this, if_false]
      exact den_exit_some h
  | .code c :: K, K', h => by simp only [den]; exact den_exit_some (K := K) h
  | .ops _ _ :: K, K', h => by simp only [den]; exact den_exit_some (K := K) h
  | .back _ :: K, K', h => by simp only [den]; exact den_exit_some (K := K) h

theorem den_exit_none {id : Nat} : ∀ {K : List Item}, popTo id K = none → den C Q K (.exit id) a w = Q (.exit id) a w
  | [], _ => rfl
  | .blk i :: K, h => by
    simp only [popTo] at h
    cases hi : Nat.beq i id with
    | true => rw [hi] at h; simp at h
    | false =>
      rw [hi] at h
      simp only [cond_false] at h
      have : id ≠ i := by rintro rfl; simp at hi
      simp only [den, Exit.inBlock, this, if_false]
      exact den_exit_none h
  | .code c :: K, h => by simp only [den]; exact den_exit_none (K := K) h
  | .ops _ _ :: K, h => by simp only [den]; exact den_exit_none (K := K) h
  | .back _ :: K, h => by simp only [den]; exact den_exit_none (K := K) h

theorem den_ret : ∀ {K : List Item}, den C Q K .ret a w = Q .ret a w
  | [] => rfl
  | .blk i :: K => by simp only [den, Exit.inBlock]; exact den_ret
  | .code c :: K => by simp only [den]; exact den_ret
  | .ops _ _ :: K => by simp only [den]; exact den_ret
  | .back _ :: K => by simp only [den]; exact den_ret
theorem den_goto {l : Nat} : ∀ {K : List Item}, den C Q K (.goto l) a w = Q (.goto l) a w
  | [] => rfl
  | .blk i :: K => by simp only [den, Exit.inBlock]; exact den_goto
  | .code c :: K => by simp only [den]; exact den_goto
  | .ops _ _ :: K => by simp only [den]; exact den_goto
  | .back _ :: K => by simp only [den]; exact den_goto

theorem den_code (c : Code) (K : List Item) : den C Q (.code c :: K) .normal a w = wq C.rd C.P c (den C Q K) a w := rfl

theorem den_then (c : Code) (K : List Item) : den C Q (.code c :: K) = Exit.then (wq C.rd C.P c (den C Q K)) (den C Q K) := by
  funext e a w; cases e <;> rfl

theorem wp_seq_den {x y : Code} {K : List Item} (h : den C Q (.code x :: .code y :: K) .normal a w) : den C Q (.code (.seq x y) :: K) .normal a w := by
  rw [den_code] at *
  refine wq_seq ?_
  rwa [den_then] at h

theorem wp_block_den {id : Nat} {b : Code} {K : List Item} (h : den C Q (.code b :: .blk id :: K) .normal a w) : den C Q (.code (.block id b) :: K) .normal a w := by
  rw [den_code] at *
  exact wq_block h

theorem wp_region_den {id : Nat} {ops : Array Oper} {K : List Item} (h : den C Q (.ops ops ops.toList :: K) .normal a w) : den C Q (.code (.region id ops false) :: K) .normal a w := by
  rw [den_code]
  exact wq_region_list h

theorem ops_next {all : Array Oper} {o : Oper} {rest : List Oper} {K : List Item} (hg : o.guard = none) {x : Value} {w' : World}
    (hr : (execOp a.eval o).run C.P w = .ok (.value x) w' ∨ ((execOp a.eval o).run C.P w = .ok .skip w' ∧ x = undef))
    (h : den C Q (.ops all rest :: K) .normal (a.put o.dst x) w') : den C Q (.ops all (o :: rest) :: K) .normal a w := by
  show wqList C.rd C.P all (den C Q K) (o :: rest) a w
  refine wqList_plain hg fun N hN => ?_
  rcases hr with hr | ⟨hr, rfl⟩
  · exact wqO_of hr trivial (hN _ _ h)
  · exact wqO_of hr trivial (hN _ _ h)

theorem ops_guarded {all : Array Oper} {o : Oper} {rest : List Oper} {K : List Item} {x : Value}
    (hyes : Region.wanted o (yielded all a.tmps) = true → (execOp a.eval o).run C.P w = .ok (.value x) w)
    (hno : Region.wanted o (yielded all a.tmps) = false → x = undef)
    (h : den C Q (.ops all rest :: K) .normal (a.put o.dst x) w) : den C Q (.ops all (o :: rest) :: K) .normal a w := by
  show wqList C.rd C.P all (den C Q K) (o :: rest) a w
  refine wqList_step fun N hN => ?_
  cases hw : Region.wanted o (yielded all a.tmps) with
  | true =>
    simp only [if_true]
    exact wqO_of (hyes hw) trivial (hN _ _ h)
  | false =>
    simp only [Bool.false_eq_true, if_false]
    rw [← hno hw]
    exact hN _ _ h
end

section
variable {C : Ctx} {s : St} {a : Act} {w : World} {ρ : Nat → Value} {F : Nat → Prop} {g : Cfg}

theorem imp_sound (h : SatW C s a w ρ F) : ∀ {q : List (Nat × Bool)} {P : Prop}, pcA a.tmps q → imp s.L q P → P
  | [], P, _, hp => hp
  | (t, u) :: q, P, hq, hp => by
    have hq' : pcA a.tmps q := fun e he => hq e (by simp [he])
    have ht : a.tmps[t]? = some (.bool u) := hq (t, u) (by simp)
    simp only [imp] at hp
    split at hp
    · rename_i b hb
      obtain ⟨x, hx, hr⟩ := h.slot t _ (get_mem hb)
      rw [ht] at hx
      obtain rfl := Option.some.inj hx
      cases (show RD F w _ _ from hr)
      exact imp_sound h hq' (hp rfl)
    · rename_i p b hb
      obtain ⟨x, hx, hr⟩ := h.slot t _ (get_mem hb)
      rw [ht] at hx
      obtain rfl := Option.some.inj hx
      by_cases hpc : pcA a.tmps p
      · cases (show RD F w _ _ from hr.1 hpc)
        exact imp_sound h hq' (hp rfl)
      · have := hr.2 hpc
        simp [undef] at this
    · exact imp_sound h hq' hp

theorem imps_sound (h : SatW C s a w ρ F) {q : List (Nat × Bool)} (hq : pcA a.tmps q) : ∀ {l : List Prop}, AllP (imps s.L q l) → AllP l
  | [], _ => trivial
  | p :: r, hp => by
    simp only [imps, AllP_cons] at hp ⊢
    exact ⟨imp_sound h hq hp.1, imps_sound h hq hp.2⟩

theorem gpath_sound (h : SatW C s a w ρ F) {all : Array Oper} {j : Nat} {u : Bool} {q : List (Nat × Bool)} (hg : gpath s.L all j u = some q) : (yielded all a.tmps j = some u ↔ pcA a.tmps q) := by
  unfold gpath at hg
  split at hg
  · rename_i o ho
    split at hg
    · rename_i t ht
      have hy : yielded all a.tmps j = match a.tmps[t]? with | some (.bool b) => some b | _ => none := by
        have : all[j]? = some o := by simpa using ho
        unfold yielded
        rw [this]
        simp only [Option.bind_some, ht]
        rfl
      split at hg
      · rename_i b hb
        simp only [Option.some.injEq] at hg
        subst hg
        obtain ⟨x, hx, hr⟩ := h.slot t _ (get_mem hb)
        cases (show RD F w _ _ from hr)
        rw [hy, hx]
        simp [pcA, hx]
      · rename_i p b hb
        simp only [Option.some.injEq] at hg
        subst hg
        obtain ⟨x, hx, hr⟩ := h.slot t _ (get_mem hb)
        have happ : pcA a.tmps (p ++ [(t, u)]) ↔ pcA a.tmps p ∧ a.tmps[t]? = some (.bool u) := by
          unfold pcA
          simp only [List.mem_append, List.mem_singleton]
          exact ⟨fun H => ⟨fun e he => H e (.inl he), H (t, u) (.inr rfl)⟩, fun H e he => by
            rcases he with he | rfl
            · exact H.1 e he
            · exact H.2⟩
        rw [hy, happ, hx]
        by_cases hpc : pcA a.tmps p
        · cases (show RD F w _ _ from hr.1 hpc)
          simp [hpc]
        · have := hr.2 hpc
          subst this
          simp [hpc, undef]
      · simp at hg
    · simp at hg
  · simp at hg

theorem AllP_app {a b : List Prop} (h : AllP (a ++ b)) : AllP a ∧ AllP b := (AllP_append a b).1 h

set_option maxHeartbeats 1000000 in
theorem run_holds (hg : TysOK C.P g.tys) (hn : g.n = C.n) (hfx : g.fix = C.fix) {Φ : Exit → St → Prop} : ∀ (n : Nat) (K : List Item) (s : St) (ob : List Prop), (run g n K s ob).holds C Φ → AllP ob ∧ Go C K s Φ := by
  intro n
  induction n with
  | zero => intro K s ob h; exact h.elim
  | succ n ih =>
    intro K s ob h
    unfold run at h
    split at h
    · -- []
      rw [fS_eq, fO_eq] at h
      exact ⟨h.1, fun a w hs => ⟨s, hs, h.2⟩⟩
    · obtain ⟨h1, h2⟩ := ih _ _ _ h
      exact ⟨h1, fun a w hs => h2 a w hs⟩
    · rw [fS_eq, fO_eq] at h
      exact ⟨h.1, fun a w hs => ⟨s, hs, h.2⟩⟩
    · -- code
      split at h
      · obtain ⟨h1, h2⟩ := ih _ _ _ h
        exact ⟨h1, fun a w hs => wq_skip (h2 a w hs)⟩
      · obtain ⟨h1, h2⟩ := ih _ _ _ h
        exact ⟨h1, fun a w hs => wq_label (h2 a w hs)⟩
      · obtain ⟨h1, h2⟩ := ih _ _ _ h
        exact ⟨h1, fun a w hs => wp_seq_den (h2 a w hs)⟩
      · obtain ⟨h1, h2⟩ := ih _ _ _ h
        exact ⟨h1, fun a w hs => wp_block_den (h2 a w hs)⟩
      · obtain ⟨h1, h2⟩ := ih _ _ _ h
        exact ⟨h1, fun a w hs => wp_region_den (h2 a w hs)⟩
      · rename_i c x y
        split at h
        · rename_i b hb
          rw [fS_eq, fO_eq] at h
          refine ⟨h.1, fun a w hs => ?_⟩
          obtain ⟨ρ, F, hw⟩ := hs
          have hr := (ev_sound hw (pc_nil _) hb).1
          have hv : a.eval c = .bool b := by
            generalize a.eval c = v at hr
            cases (show RD F w _ _ from hr); rfl
          rw [den_code]
          exact wq_cond_split hv (fun hb => h.2.1 hb a w ⟨ρ, F, hw⟩) (fun hb => h.2.2 hb a w ⟨ρ, F, hw⟩)
        · exact h.elim
      · rw [fS_eq, fO_eq] at h; exact h
      · split at h
        · rename_i id K' hp
          obtain ⟨h1, h2⟩ := ih _ _ _ h
          refine ⟨h1, fun a w hs => ?_⟩
          rw [den_code]
          refine wq_exit ?_
          rw [den_exit_some hp]
          exact h2 a w hs
        · rename_i id hp
          rw [fS_eq, fO_eq] at h
          refine ⟨h.1, fun a w hs => ?_⟩
          rw [den_code]
          refine wq_exit ?_
          rw [den_exit_none hp]
          exact ⟨s, hs, h.2⟩
      · rw [fS_eq, fO_eq] at h
        refine ⟨h.1, fun a w hs => ?_⟩
        rw [den_code]
        refine wq_goto ?_
        rw [den_goto]
        exact ⟨s, hs, h.2⟩
      · rw [fS_eq, fO_eq] at h
        refine ⟨h.1, fun a w hs => ?_⟩
        rw [den_code]
        refine wq_ret ?_
        rw [den_ret]
        exact ⟨s, hs, h.2⟩
      · rw [fS_eq, fO_eq] at h; exact h
    · -- ops
      split at h
      · obtain ⟨h1, h2⟩ := ih _ _ _ h
        exact ⟨h1, fun a w hs => wqList_nil (h2 a w hs)⟩
      · rename_i all K l o rest
        split at h
        · rename_i hgd
          split at h
          · rename_i v p hrd
            split at h
            · rename_i d hd
              cases hb : Nat.blt d g.n with
              | false => rw [hb] at h; exact h.elim
              | true =>
                rw [hb] at h
                simp only [cond_true, f3_eq, fL_eq, fA_eq] at h
                obtain ⟨h1, h2⟩ := ih _ _ _ h
                obtain ⟨h3, h4⟩ := AllP_app h1
                refine ⟨h3, fun a w hs => ?_⟩
                obtain ⟨ρ, F, hw⟩ := hs
                obtain ⟨x, r1, r2, r3⟩ := rd_sound hg hw (pc_nil _) hrd h4
                refine ops_next hgd (.inl (r3 w fun _ _ => rfl)) ?_
                rw [hd]
                exact h2 _ _ ⟨ρ, F, hw.put (by rw [← hn]; simpa using hb) r1 r2⟩
            · exact h.elim
          · split at h
            · rename_i s' p hef
              simp only [fS_eq, fA_eq] at h
              obtain ⟨h1, h2⟩ := ih _ _ _ h
              obtain ⟨h3, h4⟩ := AllP_app h1
              refine ⟨h3, fun a w hs => ?_⟩
              obtain ⟨ρ, F, hw⟩ := hs
              obtain ⟨x, w', r1, r2⟩ := ef_sound hg hn hfx hw hef h4
              exact ops_next hgd r1 (h2 _ _ r2)
            · rw [fS_eq, fO_eq] at h; exact h
        · rename_i j u hgd
          split at h
          · exact h.elim
          · rename_i q hq
            split at h
            · rename_i v p hrd
              split at h
              · rename_i d hd
                cases hb : (Nat.blt d g.n && !(q.any fun e => Nat.beq e.1 d) && v.all3 (fresh s.m)) with
                | false => rw [hb] at h; exact h.elim
                | true =>
                  rw [hb] at h
                  simp only [cond_true, fIs_eq, f3_eq, fL_eq, fP_eq, fA_eq] at h
                  simp only [Bool.and_eq_true, Bool.not_eq_true'] at hb
                  obtain ⟨⟨b1, b2⟩, b3⟩ := hb
                  obtain ⟨h1, h2⟩ := ih _ _ _ h
                  obtain ⟨h3, h4⟩ := AllP_app h1
                  refine ⟨h3, fun a w hs => ?_⟩
                  obtain ⟨ρ, F, hw⟩ := hs
                  have hgp := gpath_sound hw hq
                  have hwant : Region.wanted o (yielded all a.tmps) = true ↔ pcA a.tmps q := by
                    rw [← hgp]; simp [Region.wanted, hgd]
                  by_cases hpc : pcA a.tmps q
                  · obtain ⟨x, r1, r2, r3⟩ := rd_sound hg hw hpc hrd (imps_sound hw hpc h4)
                    refine ops_guarded (x := x) (fun _ => r3 w fun _ _ => rfl) (fun hno => by rw [hwant.2 hpc] at hno; simp at hno) ?_
                    rw [hd]
                    exact h2 _ _ ⟨ρ, F, hw.putS (by rw [← hn]; simpa using b1) ⟨fun _ => r1, fun hno => (hno ((pcA_put b2).2 hpc)).elim⟩ b3⟩
                  · refine ops_guarded (x := undef) (fun hyes => (hpc (hwant.1 hyes)).elim) (fun _ => rfl) ?_
                    rw [hd]
                    exact h2 _ _ ⟨ρ, F, hw.putS (by rw [← hn]; simpa using b1) ⟨fun hp => (hpc ((pcA_put b2).1 hp)).elim, fun _ => rfl⟩ b3⟩
              · exact h.elim
            · rw [fS_eq, fO_eq] at h; exact h
end
end Go.Sx

/-
  Sx, part 16: steps, loops, cuts, weakening.
-/
set_option linter.unusedVariables false
set_option linter.unusedSimpArgs false
namespace Go.Sx

/-! ### what one state says, another says too -/
def DEq : D → D → Prop
  | .int k a, .int k' b => bif kbeq k k' then a = b else False
  | .bool a, .bool b => a = b
  | .str a, .str b => a = b
  | .nf, .nf => True
  | .ni, .ni => True
  | .np, .np => True
  | .ifc t a, .ifc t' b => t = t' ∧ a = b
  | .sl z n f, .sl z' n' f' => n = n' ∧ (n ≠ 0 → z = z') ∧ ∀ i, i < n → f i = f' i
  | _, _ => False
def VEq0 : V → V → Prop
  | .d a, .d b => DEq a b
  | .nils, .d (.sl _ n _) => n = 0
  | .nils, .nils => True
  | .ptr i o, .ptr j p => i = j ∧ o = p
  | .own i, .own j => i = j
  | .vptr a b c e, .vptr a' b' c' e' => a = a' ∧ b = b' ∧ c = c' ∧ e = e'
  | a, .dead => a.leaf = true
  | a, b => a = b
def VEqs : List V → List V → Prop
  | [], [] => True
  | a :: r, b :: q => VEq0 a b ∧ VEqs r q
  | _, _ => False
def VEq : V → V → Prop
  | .agg us, .agg vs => VEqs us vs
  | .tup us, .tup vs => VEqs us vs
  | a, b => VEq0 a b
def TEqs : List (Key × V) → List (Key × V) → Prop
  | [], [] => True
  | a :: r, b :: q => a.1 = b.1 ∧ VEq0 a.2 b.2 ∧ TEqs r q
  | _, _ => False
def ChEq : Ch → Ch → Prop
  | .box us, .box vs => VEqs us vs
  | .arr z n f, .arr z' n' f' => z = z' ∧ n = n' ∧ ∀ i, i < n → f i = f' i
  | .vec e z n f, .vec e' z' n' f' => e = e' ∧ z = z' ∧ n = n' ∧ ∀ i, i < n → f i = f' i
  | .iter s p, .iter s' p' => s = s' ∧ p = p'
  | .rows e e' z n h hs m f, .rows e2 e2' z' n' h' hs' m' f' => e = e2 ∧ e' = e2' ∧ z = z' ∧ n = n' ∧ h = h' ∧ ∀ i, i < n → hs i = hs' i ∧ m i = m' i ∧ ∀ j, j < m i → f i j = f' i j
  | .held e e' z n k u hs m f, .held e2 e2' z' n' k' u' hs' m' f' => e = e2 ∧ e' = e2' ∧ z = z' ∧ n = n' ∧ k = k' ∧ VEq0 u u' ∧ ∀ i, i < n → i ≠ k → hs i = hs' i ∧ m i = m' i ∧ ∀ j, j < m i → f i j = f' i j
  | .tbl es, .tbl fs => TEqs es fs
  | .bld T u, .bld T' u' => T = T' ∧ VEq0 u u'
  | _, _ => False
def isG : V → Bool
  | .g .. => true
  | _ => false
def LLE (L : List (Nat × V)) : List (Nat × V) → Prop
  | [] => True
  | (t, v) :: r => (match get L t with | some u => VEq u v | none => False) ∧ LLE L r
def HLE (H : List (Nat × Ch)) : List (Nat × Ch) → Prop
  | [] => True
  | (t, v) :: r => (match get H t with | some u => ChEq u v | none => False) ∧ HLE H r
def okL (m : Nat) : List (Nat × V) → Bool
  | [] => true
  | (_, v) :: r => !isG v && v.all3 (fresh m) && okL m r
def okH (m : Nat) : List (Nat × Ch) → Bool
  | [] => true
  | (i, c) :: r => Nat.blt i m && c.all (fresh m) && okH m r
def okS (fix : Nat) (s : St) : Bool := okL s.m s.L && okH s.m s.H && Nat.ble fix s.m
def LE (fix : Nat) (s s' : St) : Prop := LLE s.L s'.L ∧ HLE s.H s'.H ∧ okS fix s' = true

section
variable {C : Ctx} {s s' : St} {a : Act} {w w' : World} {ρ : Nat → Value} {F : Nat → Prop} {g : Cfg}

theorem DEq_sound {x y : D} {v : Value} (h : DEq x y) (hr : RD F w x v) : RD F w y v := by
  cases x <;> cases y <;> simp only [DEq] at h <;> first | exact h.elim | skip
  · rename_i k a k' b
    cases hk : kbeq k k' with
    | false => rw [hk] at h; exact h.elim
    | true => rw [hk] at h; have := kbeq_eq hk; subst this; simp only [cond_true] at h; subst h; exact hr
  · subst h; exact hr
  · subst h; exact hr
  · rename_i z n f z' n' f'
    obtain ⟨h1, hz, hf⟩ := h
    subst h1
    by_cases h0 : n = 0
    · subst h0
      cases hr <;> exact .emp _ _ _ _
    cases hr with
    | emp => exact .emp _ _ _ _
    | sl _ _ _ b o cap cs hF hn hc hl hrr =>
      · obtain rfl := hz h0
        exact .sl _ _ _ b o cap cs hF hn hc (fun i hi => by rw [← hf i hi]; exact hl i hi) (fun i j d hi hd => hrr i j d hi (by rw [hf i hi]; exact hd))
  · exact hr
  · exact hr
  · exact hr
  · obtain ⟨rfl, rfl⟩ := h; exact hr

theorem VEq0_sound {x y : V} {v : Value} (h : VEq0 x y) (hr : R1 ρ F w x v) : R1 ρ F w y v := by
  unfold VEq0 at h
  split at h
  · exact DEq_sound h hr
  · subst h
    rw [show v = .slice none 0 0 from hr]
    exact RD.emp _ _ _ _
  · exact hr
  · obtain ⟨rfl, rfl⟩ := h; exact hr
  · subst h; exact hr
  · obtain ⟨rfl, rfl, rfl, rfl⟩ := h; exact hr
  · exact R1.one hr
  · subst h; exact hr

theorem VEqs_sound : ∀ {us vs : List V} {cs : List Value}, VEqs us vs → All2 (R1 ρ F w) us cs → All2 (R1 ρ F w) vs cs
  | [], [], _, _, hr => hr
  | u :: us, v :: vs, c :: cs, h, hr => ⟨VEq0_sound h.1 hr.1, VEqs_sound h.2 hr.2⟩
  | u :: us, v :: vs, [], h, hr => hr.elim
  | [], _ :: _, _, h, _ => h.elim
  | _ :: _, [], _, h, _ => h.elim

theorem R2_R1 {u : V} {v : Value} (h : ∀ us, u ≠ .agg us) (hr : R2 ρ F w u v) : R1 ρ F w u v := by
  cases u <;> first | exact hr | exact (h _ rfl).elim

theorem VEq0_other {x y : V} (hx : x.leaf = false) (h : VEq0 x y) : y = x := by
  cases x <;> first | (simp [V.leaf] at hx; done) | (cases y <;> first | exact Eq.symm h | exact absurd (show false = true from h) (by simp))

theorem VEq02_sound {u v : V} {c : Value} (h : VEq0 u v) (hr : R2 ρ F w u c) : R2 ρ F w v c := by
  by_cases hu : ∃ xs, u = .agg xs
  · obtain ⟨xs, rfl⟩ := hu
    rw [VEq0_other rfl h]; exact hr
  · exact R2_of (VEq0_sound h (R2_R1 (fun us e => hu ⟨us, e⟩) hr))
theorem TEqs_sound : ∀ {us vs : List (Key × V)} {cs : List MapEntry}, TEqs us vs → All2 (fun e x => x.key = keyVal e.1 ∧ R2 ρ F w e.2 x.val) us cs → All2 (fun e x => x.key = keyVal e.1 ∧ R2 ρ F w e.2 x.val) vs cs
  | [], [], _, _, hr => hr
  | u :: us, v :: vs, c :: cs, h, hr => ⟨⟨by rw [← h.1]; exact hr.1.1, VEq02_sound h.2.1 hr.1.2⟩, TEqs_sound h.2.2 hr.2⟩
  | u :: us, v :: vs, [], h, hr => hr.elim
  | [], _ :: _, _, h, _ => h.elim
  | _ :: _, [], _, h, _ => h.elim

theorem VEqs2_sound : ∀ {us vs : List V} {cs : List Value}, VEqs us vs → All2 (R2 ρ F w) us cs → All2 (R2 ρ F w) vs cs
  | [], [], _, _, hr => hr
  | u :: us, v :: vs, c :: cs, h, hr => by
    refine ⟨?_, VEqs2_sound h.2 hr.2⟩
    have h1 := h.1
    have h2 := hr.1
    by_cases hu : ∃ xs, u = .agg xs
    · obtain ⟨xs, rfl⟩ := hu
      rw [VEq0_other rfl h1]; exact h2
    · exact R2_of (VEq0_sound h1 (R2_R1 (fun us e => hu ⟨us, e⟩) h2))
  | u :: us, v :: vs, [], h, hr => hr.elim
  | [], _ :: _, _, h, _ => h.elim
  | _ :: _, [], _, h, _ => h.elim

theorem VEq_sound {x y : V} {v : Value} (h : VEq x y) (hr : R3 ρ F w x v) : R3 ρ F w y v := by
  unfold VEq at h
  split at h
  · obtain ⟨cs, rfl, hc⟩ := (show R2 ρ F w (.agg _) v from hr)
    exact ⟨cs, rfl, VEqs_sound h hc⟩
  · obtain ⟨cs, rfl, hc⟩ := hr
    exact ⟨cs, rfl, VEqs2_sound h hc⟩
  · by_cases ha : ∃ us, x = .agg us
    · obtain ⟨us, rfl⟩ := ha
      rw [VEq0_other rfl h]; exact hr
    · by_cases ht : ∃ us, x = .tup us
      · obtain ⟨us, rfl⟩ := ht
        rw [VEq0_other rfl h]; exact hr
      · have h1 : R1 ρ F w x v := by
          cases x <;> first | exact hr | exact (ha ⟨_, rfl⟩).elim | exact (ht ⟨_, rfl⟩).elim
        exact R3_of (R2_of (VEq0_sound h h1))

theorem Elems.ext {sz n : Nat} {f f' : Nat → List D} {xs : List Value} (h : Elems F w sz n f xs) (hf : ∀ i, i < n → f i = f' i) : Elems F w sz n f' xs :=
  fun i hi => by rw [← hf i hi]; exact h i hi

theorem ChEq_sound {id : Nat} {c c' : Ch} (h : ChEq c c') (hr : ChOK ρ F w id c) : ChOK ρ F w id c' := by
  unfold ChEq at h
  split at h
  · obtain ⟨b, cs, T, h1, h2, h3⟩ := hr
    exact ⟨b, cs, T, h1, h2, VEqs_sound h h3⟩
  · obtain ⟨rfl, rfl, hf⟩ := h
    obtain ⟨b, cs, T, h1, h2, h3, h4⟩ := hr
    exact ⟨b, cs, T, h1, h2, h3, h4.ext hf⟩
  · obtain ⟨rfl, rfl, rfl, hf⟩ := h
    obtain ⟨xs, h1, h2⟩ := hr
    exact ⟨xs, h1, h2.ext hf⟩
  · obtain ⟨rfl, rfl⟩ := h
    exact hr
  · obtain ⟨rfl, rfl, rfl, rfl, rfl, hf⟩ := h
    obtain ⟨xs, h1, h2, h3, h4⟩ := hr
    refine ⟨xs, h1, fun i hi hh => ?_, fun i b hi hh => by rw [← (hf i hi).1]; exact h3 i b hi hh, fun i j b hi hj hhi hhj hij => by rw [← (hf i hi).1, ← (hf j hj).1]; exact h4 i j b hi hj hhi hhj hij⟩
    obtain ⟨h5, ys, h6, h7⟩ := h2 i hi hh
    obtain ⟨f1, f2, f3⟩ := hf i hi
    rw [← f1, ← f2]
    exact ⟨h5, ys, h6, h7.ext f3⟩
  · obtain ⟨rfl, rfl, rfl, rfl, rfl, hu, hf⟩ := h
    obtain ⟨xs, h1, h0, h2, h3, h4⟩ := hr
    refine ⟨xs, h1, fun hk => ?_, fun i hi hh => ?_, fun i b hi hh => by rw [← (hf i hi hh).1]; exact h3 i b hi hh, fun i j b hi hj hhi hhj hij => by rw [← (hf i hi hhi).1, ← (hf j hj hhj).1]; exact h4 i j b hi hj hhi hhj hij⟩
    · obtain ⟨y, h5, h6⟩ := h0 hk
      exact ⟨y, h5, VEq0_sound hu h6⟩
    · obtain ⟨h5, ys, h6, h7⟩ := h2 i hi hh
      obtain ⟨f1, f2, f3⟩ := hf i hi hh
      rw [← f1, ← f2]
      exact ⟨h5, ys, h6, h7.ext f3⟩
  · obtain ⟨b, arr, clock, h1, h2, h3⟩ := hr
    exact ⟨b, arr, clock, h1, h2, TEqs_sound h h3⟩
  · obtain ⟨rfl, hu⟩ := h
    obtain ⟨b, p, x, h1, h2, h3, h4⟩ := hr
    exact ⟨b, p, x, h1, h2, h3, VEq0_sound hu h4⟩
  · exact h.elim

theorem ChEq_bks {ρ : Nat → Value} {i b : Nat} {c c' : Ch} (h : ChEq c c') (hb : bks ρ i c' b) : bks ρ i c b := by
  unfold ChEq at h
  split at h
  · exact hb
  · exact hb
  · exact hb
  · exact hb
  · obtain ⟨rfl, rfl, rfl, rfl, rfl, hf⟩ := h
    rcases hb with hb | ⟨k, hk, hh, hb⟩
    · exact .inl hb
    · exact .inr ⟨k, hk, hh, by rw [(hf k hk).1]; exact hb⟩
  · obtain ⟨rfl, rfl, rfl, rfl, rfl, hu, hf⟩ := h
    rcases hb with hb | ⟨k, hk, hh, hb⟩
    · exact .inl hb
    · exact .inr ⟨k, hk, hh, by rw [(hf k hk hh).1]; exact hb⟩
  · exact hb
  · exact hb
  · exact h.elim

theorem LLE_mem {L : List (Nat × V)} : ∀ {L' : List (Nat × V)} {t : Nat} {v : V}, LLE L L' → (t, v) ∈ L' → ∃ u, (t, u) ∈ L ∧ VEq u v
  | (t', v') :: r, t, v, h, hm => by
    rcases List.mem_cons.1 hm with e | hm
    · obtain ⟨rfl, rfl⟩ := Prod.mk.inj e
      have h1 := h.1
      cases hg : get L t with
      | none => rw [hg] at h1; exact h1.elim
      | some u => rw [hg] at h1; exact ⟨u, get_mem hg, h1⟩
    · exact LLE_mem h.2 hm
theorem HLE_mem {L : List (Nat × Ch)} : ∀ {L' : List (Nat × Ch)} {t : Nat} {v : Ch}, HLE L L' → (t, v) ∈ L' → ∃ u, (t, u) ∈ L ∧ ChEq u v
  | (t', v') :: r, t, v, h, hm => by
    rcases List.mem_cons.1 hm with e | hm
    · obtain ⟨rfl, rfl⟩ := Prod.mk.inj e
      have h1 := h.1
      cases hg : get L t with
      | none => rw [hg] at h1; exact h1.elim
      | some u => rw [hg] at h1; exact ⟨u, get_mem hg, h1⟩
    · exact HLE_mem h.2 hm
theorem okL_mem {m : Nat} : ∀ {L : List (Nat × V)} {t : Nat} {v : V}, okL m L = true → (t, v) ∈ L → isG v = false ∧ v.all3 (fresh m) = true
  | (t', v') :: r, t, v, h, hm => by
    simp only [okL, Bool.and_eq_true, Bool.not_eq_true'] at h
    rcases List.mem_cons.1 hm with e | hm
    · obtain ⟨rfl, rfl⟩ := Prod.mk.inj e; exact ⟨h.1.1, h.1.2⟩
    · exact okL_mem h.2 hm
theorem okH_mem {m : Nat} : ∀ {L : List (Nat × Ch)} {t : Nat} {v : Ch}, okH m L = true → (t, v) ∈ L → t < m ∧ v.all (fresh m) = true
  | (t', v') :: r, t, v, h, hm => by
    simp only [okH, Bool.and_eq_true] at h
    rcases List.mem_cons.1 hm with e | hm
    · obtain ⟨rfl, rfl⟩ := Prod.mk.inj e; exact ⟨by simpa using h.1.1, h.1.2⟩
    · exact okH_mem h.2 hm

theorem LE.sat (hle : LE C.fix s s') (h : Sat C s a w) : Sat C s' a w := by
  obtain ⟨ρ, F, h⟩ := h
  obtain ⟨hL, hH, hok⟩ := hle
  simp only [okS, Bool.and_eq_true] at hok
  obtain ⟨⟨ok1, ok2⟩, ok3⟩ := hok
  refine ⟨ρ, F, { size := h.size, defers := h.defers, slot := ?_, ch := ?_, sep := ?_, out := ?_, freshL := ?_, freshH := ?_, lt := h.lt, mine := ?_, sub := h.sub, base := h.base, fixd := ⟨by simpa using ok3, h.fixd.2⟩, keep := h.keep, env := h.env }⟩
  · intro t v hv
    obtain ⟨u, hu, he⟩ := LLE_mem hL hv
    obtain ⟨x, hx, hr⟩ := h.slot t u hu
    have hg := (okL_mem ok1 hv).1
    refine ⟨x, hx, ?_⟩
    cases u with
    | g p y =>
      have : v = .g p y := by
        unfold VEq VEq0 at he
        cases v <;> simp_all [isG, V.leaf]
      subst this
      simp [isG] at hg
    | _ => exact RS_of (VEq_sound he hr)
  · intro i c hc
    obtain ⟨u, hu, he⟩ := HLE_mem hH hc
    exact ChEq_sound he (h.ch i u hu)
  · intro i j ci cj b hi hj hij e
    obtain ⟨u, hu, he⟩ := HLE_mem hH hi
    obtain ⟨u2, hu2, he2⟩ := HLE_mem hH hj
    exact fun e2 => h.sep i j u u2 b hu hu2 hij (ChEq_bks he e) (ChEq_bks he2 e2)
  · intro i c b hi e
    obtain ⟨u, hu, he⟩ := HLE_mem hH hi
    exact h.out i u b hu (ChEq_bks he e)
  · intro t v hv
    obtain ⟨h1, h2⟩ := okL_mem ok1 hv
    cases v <;> first | exact h2 | simp [isG] at h1
  · intro i c hc; exact okH_mem ok2 hc
  · intro i c b hi e
    obtain ⟨u, hu, he⟩ := HLE_mem hH hi
    exact h.mine i u b hu (ChEq_bks he e)

variable {K : List Item} {Φ : Exit → St → Prop}

theorem Go.le {fix : Nat} (hf : fix = C.fix) (h : LE fix s s') (k : Go C K s' Φ) : Go C K s Φ := fun a w hs => k a w (LE.sat (hf ▸ h) hs)

theorem Go.loop {α : Type} {fix : Nat} (hf : fix = C.fix) (I : α → St) (μ : α → Nat) (x0 : α) (h0 : LE fix s (I x0)) {body : Code}
    (hr : ∀ x, Go C (.code body :: .back (fun s' => ∃ y, μ y < μ x ∧ LE fix s' (I y)) :: K) (I x) Φ) : Go C (.code (.loop body) :: K) s Φ := by
  subst hf
  intro a w hs
  rw [den_code]
  refine wq_loop_ghost (fun n a w => ∃ x, μ x = n ∧ Sat C (I x) a w) (μ x0) ⟨x0, rfl, LE.sat h0 hs⟩ ?_
  rintro n a w ⟨x, rfl, hx⟩
  refine wq_mono (hr x a w hx) ?_
  intro e a' w' hq
  cases e with
  | normal =>
    obtain ⟨s', h1, y, h2, h3⟩ := hq
    exact ⟨μ y, h2, y, rfl, LE.sat h3 h1⟩
  | _ => exact hq

/-- What stands at the head of the stack is gone through; what follows is gone through once. -/
theorem Go.cut {α : Type} {fix : Nat} (hf : fix = C.fix) (I : α → St) {c : Code} (h1 : Go C (.code c :: .back (fun s' => ∃ y, LE fix s' (I y)) :: K) s Φ) (h2 : ∀ y, Go C K (I y) Φ) : Go C (.code c :: K) s Φ := by
  subst hf
  intro a w hs
  rw [den_code]
  refine wq_mono (h1 a w hs) ?_
  intro e a' w' hq
  cases e with
  | normal =>
    obtain ⟨s', h3, y, h4⟩ := hq
    exact h2 y _ _ (LE.sat h4 h3)
  | _ => exact hq

/-! ### steps -/
section
variable (hg : TysOK C.P g.tys) (hn : g.n = C.n) (hfx : g.fix = C.fix) {n : Nat}
include hg hn hfx
theorem st {ev : Ev} (h : run g n K s [] = ev) (k : ev.holds C Φ) : Go C K s Φ := (run_holds hg hn hfx n K s [] (h ▸ k)).2
theorem st_cond {ob : List Prop} {b : Bool} {x y : Code} {K' : List Item} (h : run g n K s [] = .cond ob b x y K' s') (ho : AllP ob) (h1 : b = true → Go C (.code x :: K') s' Φ) (h2 : b = false → Go C (.code y :: K') s' Φ) : Go C K s Φ :=
  st hg hn hfx h ⟨ho, h1, h2⟩
theorem st_loop {ob : List Prop} {c : Code} {K' : List Item} (h : run g n K s [] = .loop ob c K' s') (ho : AllP ob) (k : Go C (.code (.loop c) :: K') s' Φ) : Go C K s Φ :=
  st hg hn hfx h ⟨ho, k⟩
theorem st_back {ob : List Prop} {J : St → Prop} (h : run g n K s [] = .back ob J s') (ho : AllP ob) (k : J s') : Go C K s Φ :=
  st hg hn hfx h ⟨ho, k⟩
theorem st_exit {ob : List Prop} {e : Exit} (h : run g n K s [] = .exit ob e s') (ho : AllP ob) (k : Φ e s') : Go C K s Φ :=
  st hg hn hfx h ⟨ho, k⟩
theorem st_op {ob : List Prop} {all : Array Oper} {o : Oper} {rest : List Oper} {K' : List Item} (h : run g n K s [] = .op ob all o rest K' s') (ho : AllP ob) (k : Go C (.ops all (o :: rest) :: K') s' Φ) : Go C K s Φ :=
  st hg hn hfx h ⟨ho, k⟩
theorem st_code {ob : List Prop} {c : Code} {K' : List Item} (h : run g n K s [] = .code ob c K' s') (ho : AllP ob) (k : Go C (.code c :: K') s' Φ) : Go C K s Φ :=
  st hg hn hfx h ⟨ho, k⟩
end
end
end Go.Sx

/-
  Sx, part 17: contracts of functions; their proof; calls.
-/
set_option linter.unusedVariables false
set_option linter.unusedSimpArgs false
namespace Go.Sx

def ixV : Nat → List V → List (Nat × V)
  | _, [] => []
  | k, v :: r => (k, v) :: ixV (k + 1) r
def ixC : Nat → List Ch → List (Nat × Ch)
  | _, [] => []
  | k, v :: r => (k, v) :: ixC (k + 1) r

theorem mem_ixV {k t : Nat} {v : V} : ∀ {l : List V}, (t, v) ∈ ixV k l → k ≤ t ∧ l[t - k]? = some v
  | u :: r, h => by
    rcases List.mem_cons.1 h with e | h
    · obtain ⟨rfl, rfl⟩ := Prod.mk.inj e; simp
    · obtain ⟨h1, h2⟩ := mem_ixV (k := k + 1) h
      refine ⟨by omega, ?_⟩
      rw [show t - k = (t - (k + 1)) + 1 by omega]; simpa using h2
  | [], h => by cases h
theorem mem_ixC {k t : Nat} {v : Ch} : ∀ {l : List Ch}, (t, v) ∈ ixC k l → k ≤ t ∧ l[t - k]? = some v
  | u :: r, h => by
    rcases List.mem_cons.1 h with e | h
    · obtain ⟨rfl, rfl⟩ := Prod.mk.inj e; simp
    · obtain ⟨h1, h2⟩ := mem_ixC (k := k + 1) h
      refine ⟨by omega, ?_⟩
      rw [show t - k = (t - (k + 1)) + 1 by omega]; simpa using h2
  | [], h => by cases h

/-- Chunk numbers of a contract, as they are called elsewhere. -/
def nth : List Nat → Nat → Nat
  | [], i => i
  | x :: _, 0 => x
  | _ :: r, i + 1 => nth r i
def ren0 (is : List Nat) : V → V
  | .ptr i o => .ptr (nth is i) o
  | .own i => .own (nth is i)
  | .vptr i z k o => .vptr (nth is i) z k o
  | v => v

theorem nth_get {is : List Nat} {i : Nat} (h : i < is.length) : is[i]? = some (nth is i) := by
  induction is generalizing i with
  | nil => simp at h
  | cons x r ih =>
    cases i with
    | zero => rfl
    | succ i => simpa [nth] using ih (by simpa using h)

section
variable {ρ ρ' : Nat → Value} {F : Nat → Prop} {w : World}

theorem ren0_leaf {is : List Nat} {u : V} : (ren0 is u).leaf = u.leaf := by cases u <;> rfl

theorem R0.ren {is : List Nat} {k : Nat} (hρ : ∀ i, i < k → ρ' (nth is i) = ρ i) {u : V} {v : Value} (hf : fresh k u = true) (h : R0 ρ F w u v) : R0 ρ' F w (ren0 is u) v := by
  have go : ∀ id, Nat.blt id k = true → ρ' (nth is id) = ρ id := fun id h => hρ id (by simpa using h)
  cases u with
  | ptr id o => obtain ⟨b, h1, h2⟩ := h; exact ⟨b, by rw [go id hf]; exact h1, h2⟩
  | own id => obtain ⟨h1, h2⟩ := h; exact ⟨by rw [go id hf]; exact h1, by rw [go id hf]; exact h2⟩
  | vptr id z i o => obtain ⟨b, h1, h2⟩ := h; exact ⟨b, by rw [go id hf]; exact h1, h2⟩
  | _ => exact h
theorem R0.unren {is : List Nat} {k : Nat} (hρ : ∀ i, i < k → ρ' (nth is i) = ρ i) {u : V} {v : Value} (hf : fresh k u = true) (h : R0 ρ' F w (ren0 is u) v) : R0 ρ F w u v := by
  have go : ∀ id, Nat.blt id k = true → ρ' (nth is id) = ρ id := fun id h => hρ id (by simpa using h)
  cases u with
  | ptr id o => obtain ⟨b, h1, h2⟩ := h; exact ⟨b, by rw [← go id hf]; exact h1, h2⟩
  | own id => obtain ⟨h1, h2⟩ := h; exact ⟨by rw [← go id hf]; exact h1, by rw [← go id hf]; exact h2⟩
  | vptr id z i o => obtain ⟨b, h1, h2⟩ := h; exact ⟨b, by rw [← go id hf]; exact h1, h2⟩
  | _ => exact h

theorem All2.unmap {α α' β : Type} {R : α → β → Prop} {R' : α' → β → Prop} {g : α → α'} : ∀ {as : List α} {bs : List β}, (∀ a b, a ∈ as → R' (g a) b → R a b) → All2 R' (as.map g) bs → All2 R as bs
  | [], [], _, _ => trivial
  | a :: as, b :: bs, h, ⟨h1, h2⟩ => ⟨h a b (by simp) h1, All2.unmap (fun a b ha => h a b (by simp [ha])) h2⟩
  | [], _ :: _, _, h => h.elim
  | _ :: _, [], _, h => h.elim

theorem R1.unren {is : List Nat} {k : Nat} (hρ : ∀ i, i < k → ρ' (nth is i) = ρ i) {u : V} {v : Value} (hf : u.all1 (fresh k) = true) (h : R1 ρ' F w (u.map1 (ren0 is)) v) : R1 ρ F w u v := by
  cases u with
  | fn f caps =>
    obtain ⟨cs, rfl, hc⟩ := h
    exact ⟨cs, rfl, hc.unmap fun a b ha hab => R0.unren hρ (by simpa using (List.all_eq_true.1 hf) a ha) hab⟩
  | d y => exact h
  | nils => exact h
  | ptr y z => exact R1_of (R0.unren (u := .ptr y z) hρ hf h)
  | own y => exact R1_of (R0.unren (u := .own y) hρ hf h)
  | vptr y z i j => exact R1_of (R0.unren (u := .vptr y z i j) hρ hf h)
  | eptr y => exact h
  | dead => exact h
  | _ => exact (show False from h).elim
theorem R2.unren {is : List Nat} {k : Nat} (hρ : ∀ i, i < k → ρ' (nth is i) = ρ i) {u : V} {v : Value} (hf : u.all2 (fresh k) = true) (h : R2 ρ' F w (u.map2 (ren0 is)) v) : R2 ρ F w u v := by
  cases u with
  | agg us =>
    obtain ⟨cs, rfl, hc⟩ := h
    exact ⟨cs, rfl, hc.unmap fun a b ha hab => R1.unren hρ (by simpa using (List.all_eq_true.1 hf) a ha) hab⟩
  | fn f caps => exact R2_of (R1.unren (u := .fn f caps) hρ hf h)
  | d y => exact h
  | nils => exact h
  | ptr y z => exact R2_of (R1.unren (u := .ptr y z) hρ hf h)
  | own y => exact R2_of (R1.unren (u := .own y) hρ hf h)
  | vptr y z i j => exact R2_of (R1.unren (u := .vptr y z i j) hρ hf h)
  | eptr y => exact h
  | dead => exact h
  | _ => exact (show False from h).elim
theorem R3.unren {is : List Nat} {k : Nat} (hρ : ∀ i, i < k → ρ' (nth is i) = ρ i) {u : V} {v : Value} (hf : u.all3 (fresh k) = true) (h : R3 ρ' F w (u.map3 (ren0 is)) v) : R3 ρ F w u v := by
  cases u with
  | tup us =>
    obtain ⟨cs, rfl, hc⟩ := h
    exact ⟨cs, rfl, hc.unmap fun a b ha hab => R2.unren hρ (by simpa using (List.all_eq_true.1 hf) a ha) hab⟩
  | agg us => exact R3_of (R2.unren (u := .agg us) hρ hf h)
  | fn f caps => exact R3_of (R2.unren (u := .fn f caps) hρ hf h)
  | d y => exact h
  | nils => exact h
  | ptr y z => exact R3_of (R2.unren (u := .ptr y z) hρ hf h)
  | own y => exact R3_of (R2.unren (u := .own y) hρ hf h)
  | vptr y z i j => exact R3_of (R2.unren (u := .vptr y z i j) hρ hf h)
  | eptr y => exact h
  | dead => exact h
  | _ => exact (show False from h).elim

theorem ChOK.ren {is : List Nat} {k : Nat} (hρ : ∀ i, i < k → ρ' (nth is i) = ρ i) {i : Nat} (hi : i < k) {c : Ch} (hf : c.all (fresh k) = true) (h : ChOK ρ F w i c) : ChOK ρ' F w (nth is i) (c.map (ren0 is)) := by
  have e := hρ i hi
  cases c with
  | box us =>
    obtain ⟨b, cs, T, h1, h2, h3⟩ := h
    exact ⟨b, cs, T, e.trans h1, h2, h3.imp fun a b ha hab => R1.map (p := fresh k) (fun u v hu hr => R0.ren hρ hu hr) (by simpa using (List.all_eq_true.1 hf) a ha) hab⟩
  | arr sz n f => obtain ⟨b, cs, T, h1, h2, h3⟩ := h; exact ⟨b, cs, T, e.trans h1, h2, h3⟩
  | vec ee sz n f => obtain ⟨xs, h1, h2⟩ := h; exact ⟨xs, by rw [e]; exact h1, h2⟩
  | iter s pos => obtain ⟨b, h1, h2⟩ := h; exact ⟨b, e.trans h1, h2⟩
  | rows _ _ _ _ _ _ _ _ => obtain ⟨xs, h1, h2, h3, h4⟩ := h; exact ⟨xs, by rw [e]; exact h1, h2, by rw [e]; exact h3, h4⟩
  | held _ _ _ _ _ _ _ _ _ => obtain ⟨xs, h1, h0, h2, h3, h4⟩ := h; exact ⟨xs, by rw [e]; exact h1, fun hi => by obtain ⟨y, h5, h6⟩ := h0 hi; exact ⟨y, h5, R1.map (p := fresh k) (fun u v hu hr => R0.ren hρ hu hr) hf h6⟩, h2, by rw [e]; exact h3, h4⟩
  | bld T u => obtain ⟨b, p, x, h1, h2, h3, h4⟩ := h; exact ⟨b, p, x, e.trans h1, h2, h3, R1.map (p := fresh k) (fun u v hu hr => R0.ren hρ hu hr) hf h4⟩
  | tbl es => obtain ⟨b, arr, clock, h1, h2, h3⟩ := h; exact ⟨b, arr, clock, e.trans h1, h2, h3.imp fun a x ha hx => ⟨hx.1, R2.map (p := fresh k) (fun u v hu hr => R0.ren hρ hu hr) (by simpa using (List.all_eq_true.1 hf) a ha) hx.2⟩⟩
theorem ChOK.unren {is : List Nat} {k : Nat} (hρ : ∀ i, i < k → ρ' (nth is i) = ρ i) {i : Nat} (hi : i < k) {c : Ch} (hf : c.all (fresh k) = true) (h : ChOK ρ' F w (nth is i) (c.map (ren0 is))) : ChOK ρ F w i c := by
  have e := hρ i hi
  cases c with
  | box us =>
    obtain ⟨b, cs, T, h1, h2, h3⟩ := h
    exact ⟨b, cs, T, e.symm.trans h1, h2, h3.unmap fun a b ha hab => R1.unren hρ (by simpa using (List.all_eq_true.1 hf) a ha) hab⟩
  | arr sz n f => obtain ⟨b, cs, T, h1, h2, h3⟩ := h; exact ⟨b, cs, T, e.symm.trans h1, h2, h3⟩
  | vec ee sz n f => obtain ⟨xs, h1, h2⟩ := h; exact ⟨xs, by rw [← e]; exact h1, h2⟩
  | iter s pos => obtain ⟨b, h1, h2⟩ := h; exact ⟨b, e.symm.trans h1, h2⟩
  | rows _ _ _ _ _ _ _ _ => obtain ⟨xs, h1, h2, h3, h4⟩ := h; exact ⟨xs, by rw [← e]; exact h1, h2, by rw [← e]; exact h3, h4⟩
  | held _ _ _ _ _ _ _ _ _ => obtain ⟨xs, h1, h0, h2, h3, h4⟩ := h; exact ⟨xs, by rw [← e]; exact h1, fun hi => by obtain ⟨y, h5, h6⟩ := h0 hi; exact ⟨y, h5, R1.unren hρ hf h6⟩, h2, by rw [← e]; exact h3, h4⟩
  | bld T u => obtain ⟨b, p, x, h1, h2, h3, h4⟩ := h; exact ⟨b, p, x, e.symm.trans h1, h2, h3, R1.unren hρ hf h4⟩
  | tbl es => obtain ⟨b, arr, clock, h1, h2, h3⟩ := h; exact ⟨b, arr, clock, e.symm.trans h1, h2, h3.unmap fun a x ha hx => ⟨hx.1, R2.unren hρ (by simpa using (List.all_eq_true.1 hf) a ha) hx.2⟩⟩
end

/-- The chunks H, numbered from 0, hold, apart from one another and from F. -/
structure Holds (ρ : Nat → Value) (F : Nat → Prop) (w : World) (H : List Ch) : Prop where
  ch : ∀ i c, H[i]? = some c → ChOK ρ F w i c
  sep : ∀ (i j : Nat) b, i < H.length → j < H.length → i ≠ j → blk (ρ i) = some b → blk (ρ j) ≠ some b
  out : ∀ (i b : Nat), i < H.length → blk (ρ i) = some b → ¬ F b

def ownB (ρ : Nat → Value) (H : List Ch) : Nat → Prop := fun b => ∃ i, i < H.length ∧ blk (ρ i) = some b

/-- WHAT A CALL LEAVES: r, with the chunks H' (the first `fix` of which lie where they lay). -/
def Post (w : World) (F : Nat → Prop) (ρ : Nat → Value) (fix : Nat) (H : List Ch) (r : V) (H' : List Ch) (e : Ending) (w' : World) : Prop :=
  ∃ v ρ' F', e = .returned v ∧ Keeps w (ownB ρ H) w' ∧ (∀ i, i < fix → ρ' i = ρ i) ∧ (∀ k, F k → F' k) ∧ (∀ k, F' k → k < w'.heap.size) ∧
    (∀ k, F' k → F k ∨ w.heap.size ≤ k ∨ ownB ρ H k) ∧ R3 ρ' F' w' r v ∧ Holds ρ' F' w' H' ∧ (∀ (i b : Nat), i < H'.length → blk (ρ' i) = some b → w.heap.size ≤ b ∨ ownB ρ H b)

def Callable (P : Program) (f : FuncId) : Prop := ∃ fn, P.funcs[f]? = some fn ∧ fn.body.isSome = true ∧ (fn.name == "runtime.NumGoroutine") = false

def freshAll (args : List V) (H : List Ch) (k : Nat) : Bool := args.all (V.all3 (fresh k)) && H.all (fun c => Ch.all (fresh k) c && plainC c)

/-- **A CONTRACT**: called with args over the chunks H the function hands back r and the chunks H'. -/
def Proc (P : Pg) (f : FuncId) (fix : Nat) (args : List V) (H : List Ch) (r : V) (H' : List Ch) : Prop :=
  Callable P.P f ∧ freshAll args H H.length = true ∧ freshAll [r] H' H'.length = true ∧ fix ≤ H.length ∧ H.length ≤ H'.length ∧
  ∀ (w : World) (F : Nat → Prop) (ρ : Nat → Value) (vals : List Value), (∀ k, F k → k < w.heap.size) → EnvOK P.env F w → Holds ρ F w H → All2 (R3 ρ F w) args vals →
    Calls P.P f vals.toArray w (Post w F ρ fix H r H')

abbrev Pure (P : Pg) (f : FuncId) (args : List V) (r : V) (H' : List Ch) : Prop := Proc P f 0 args [] r H'
end Go.Sx

/-
  Sx, part 18: how a contract is proved.
-/
set_option linter.unusedVariables false
set_option linter.unusedSimpArgs false
namespace Go.Sx

def noTup : V → Option V
  | .tup _ => none
  | .g _ _ => none
  | v => some v
def res1 (g : Cfg) (s : St) : ResultVar → Option V
  | .tmp t => match get s.L t with
    | some v => noTup v
    | none => none
  | .cell t ty => match get s.L t with
    | some (.ptr i o) => match ldE g s.H ty (.ptr i o) with
      | some (v, []) => noTup v
      | _ => none
    | _ => none
def resV (g : Cfg) (s : St) : List ResultVar → Option V
  | [] => some (.tup [])
  | [x] => res1 g s x
  | [x, y] => match res1 g s x, res1 g s y with
    | some u, some v => some (.tup [u, v])
    | _, _ => none
  | [x, y, z] => match res1 g s x, res1 g s y, res1 g s z with
    | some u, some v, some t => some (.tup [u, v, t])
    | _, _, _ => none
  | [x, y, z, q] => match res1 g s x, res1 g s y, res1 g s z, res1 g s q with
    | some u, some v, some t, some r => some (.tup [u, v, t, r])
    | _, _, _, _ => none
  | [x, y, z, q, p] => match res1 g s x, res1 g s y, res1 g s z, res1 g s q, res1 g s p with
    | some u, some v, some t, some r, some o => some (.tup [u, v, t, r, o])
    | _, _, _, _, _ => none
  | _ => none

def rnH (is : List Nat) : List Nat → List Ch → List (Nat × Ch)
  | x :: xs, c :: cs => (x, c.map (ren0 is)) :: rnH is xs cs
  | _, _ => []

def notIn (x : Nat) : List Nat → Bool
  | [] => true
  | y :: r => !(Nat.beq x y) && notIn x r
def nodupB : List Nat → Bool
  | [] => true
  | x :: r => notIn x r && nodupB r
def idB : Nat → Nat → List Nat → Bool
  | 0, _, _ => true
  | n + 1, k, x :: r => Nat.beq x k && idB n (k + 1) r
  | _ + 1, _, [] => false
def okIds (fix : Nat) (ids : List Nat) (n : Nat) : Bool := Nat.beq ids.length n && nodupB ids && idB fix 0 ids

theorem notIn_sound {x : Nat} : ∀ {l : List Nat}, notIn x l = true → x ∉ l
  | [], _ => by simp
  | y :: r, h => by
    simp only [notIn, Bool.and_eq_true, Bool.not_eq_true'] at h
    intro hm
    rcases List.mem_cons.1 hm with rfl | hm
    · simp at h
    · exact notIn_sound h.2 hm
theorem nodupB_sound : ∀ {l : List Nat}, nodupB l = true → ∀ i j, i < l.length → j < l.length → i ≠ j → nth l i ≠ nth l j
  | x :: r, h, i, j, hi, hj, hij => by
    simp only [nodupB, Bool.and_eq_true] at h
    cases i with
    | zero =>
      cases j with
      | zero => exact (hij rfl).elim
      | succ j =>
        intro e
        have hj' : j < r.length := by simpa using hj
        exact notIn_sound h.1 (by simp only [nth] at e; rw [e]; exact List.mem_of_getElem? (nth_get hj'))
    | succ i =>
      have hi' : i < r.length := by simpa using hi
      cases j with
      | zero =>
        intro e
        exact notIn_sound h.1 (by simp only [nth] at e; rw [← e]; exact List.mem_of_getElem? (nth_get hi'))
      | succ j => exact nodupB_sound h.2 i j hi' (by simpa using hj) (by omega)
  | [], _, _, _, hi, _, _ => by simp at hi
theorem idB_sound : ∀ {n k : Nat} {l : List Nat}, idB n k l = true → ∀ i, i < n → nth l i = k + i
  | n + 1, k, x :: r, h, i, hi => by
    simp only [idB, Bool.and_eq_true] at h
    have h1 := Nat.eq_of_beq_eq_true h.1
    subst h1
    cases i with
    | zero => rfl
    | succ i => simp only [nth]; rw [idB_sound h.2 i (by omega)]; omega
  | n + 1, k, [], h, i, hi => by simp [idB] at h
  | 0, _, _, _, i, hi => by omega

theorem rnH_mem {is : List Nat} {H' : List (Nat × Ch)} : ∀ {xs : List Nat} {cs : List Ch} {i : Nat} {c : Ch}, xs.length = cs.length → HLE H' (rnH is xs cs) → cs[i]? = some c → ∃ c0, (nth xs i, c0) ∈ H' ∧ ChEq c0 (c.map (ren0 is))
  | x :: xs, c' :: cs, i, c, hl, h, hc => by
    cases i with
    | zero =>
      simp at hc
      subst hc
      have h1 := h.1
      cases hg : get H' x with
      | none => rw [hg] at h1; exact h1.elim
      | some u => rw [hg] at h1; exact ⟨u, get_mem hg, h1⟩
    | succ i => exact rnH_mem (xs := xs) (cs := cs) (by simpa using hl) h.2 (by simpa using hc)
  | [], [], _, _, _, _, hc => by simp at hc
  | [], _ :: _, _, _, hl, _, _ => by simp at hl
  | _ :: _, [], _, _, hl, _, _ => by simp at hl

/-- What must hold where the function ends. -/
def Ret (g : Cfg) (rs : List ResultVar) (ids : List Nat) (r : V) (H' : List Ch) : Exit → St → Prop := fun e s =>
  (e = .normal ∨ e = .ret) ∧ (match resV g s rs with | some r0 => VEq r0 (r.map3 (ren0 ids)) | none => False) ∧ HLE s.H (rnH ids ids H') ∧ okIds g.fix ids H'.length = true

section
variable {C : Ctx} {s : St} {a : Act} {w w' : World} {ρ : Nat → Value} {F : Nat → Prop} {g : Cfg}

def resSem (tmps : Array Value) : ResultVar → Sem Value
  | .tmp t => pure (tmps.getD t undef)
  | .cell t ty => do loadVar ty (← asAddr (tmps.getD t undef))

theorem noTup_sound {u v : V} {x : Value} (h : noTup u = some v) (hr : RS a.tmps ρ F w u x) : R2 ρ F w v x ∧ u = v := by
  cases u <;> simp only [noTup, Option.some.injEq, reduceCtorEq] at h <;> subst h <;> exact ⟨hr, rfl⟩

theorem res1_sound (hg : TysOK C.P g.tys) (h : SatW C s a w ρ F) {x : ResultVar} {v : V} (he : res1 g s x = some v) :
    ∃ y, R2 ρ F w v y ∧ (resSem a.tmps x).run C.P w = .ok y w := by
  cases x with
  | tmp t =>
    simp only [res1] at he
    split at he
    · rename_i u hu
      obtain ⟨y, hy, hr⟩ := h.slot t u (get_mem hu)
      exact ⟨y, (noTup_sound he hr).1, by simp [resSem, Array.getD_eq_getD_getElem?, hy]⟩
    · simp at he
  | cell t ty =>
    simp only [res1] at he
    split at he
    · rename_i i o hg0
      split at he
      · rename_i v' hld
        obtain ⟨y, hy, hr⟩ := h.slot t _ (get_mem hg0)
        obtain ⟨r, h1, _, h3⟩ := ld_sound (P := C.P) (B := fun _ => True) hg h hld trivial (show R3 ρ F w (.ptr i o) y from hr) (fun _ _ => trivial) (fun _ _ _ _ _ => trivial)
        refine ⟨r, (noTup_sound (a := a) he (RS_of h1)).1, ?_⟩
        obtain ⟨b, _, rfl⟩ := (show R0 ρ F w (.ptr i o) y from hr)
        have := h3 w (fun _ _ _ => rfl)
        simp only [Instr.loadAt, Instr.sureAddr, Sem.run_bind, Sem.run_pure, Result.andThen] at this
        simp only [resSem, Sem.run_bind, Array.getD_eq_getD_getElem?, hy, Option.getD_some, asAddr, Sem.run_pure, Result.andThen]
        exact this
      · simp at he
    · simp at he

theorem results_eq (fn : Func) (tmps : Array Value) : results fn tmps = (do
    let vs ← fn.results.mapM (resSem tmps)
    pure (if h : vs.size = 1 then vs[0] else .tuple vs)) := by
  unfold results
  congr 1

theorem res_sound (hg : TysOK C.P g.tys) (h : SatW C s a w ρ F) {fn : Func} {rs : List ResultVar} (hrs : fn.results = rs.toArray) {v : V} (he : resV g s rs = some v) :
    ∃ y, R3 ρ F w v y ∧ (results fn a.tmps).run C.P w = .ok y w := by
  rw [results_eq]
  unfold resV at he
  split at he
  · simp only [Option.some.injEq] at he
    subst he
    exact ⟨.tuple #[], ⟨[], rfl, trivial⟩, by simp [hrs]⟩
  · rename_i x
    obtain ⟨y, h1, h2⟩ := res1_sound hg h he
    exact ⟨y, R3_of h1, by simp [hrs, h2]⟩
  · rename_i x y
    split at he
    · rename_i u v' hu hv
      simp only [Option.some.injEq] at he
      subst he
      obtain ⟨y1, h1, h2⟩ := res1_sound hg h hu
      obtain ⟨y2, h3, h4⟩ := res1_sound hg h hv
      exact ⟨.tuple #[y1, y2], ⟨[y1, y2], rfl, h1, h3, trivial⟩, by simp [hrs, h2, h4]⟩
    · simp at he
  · rename_i x y z
    split at he
    · rename_i u v' t hu hv ht
      simp only [Option.some.injEq] at he
      subst he
      obtain ⟨y1, h1, h2⟩ := res1_sound hg h hu
      obtain ⟨y2, h3, h4⟩ := res1_sound hg h hv
      obtain ⟨y3, h5, h6⟩ := res1_sound hg h ht
      exact ⟨.tuple #[y1, y2, y3], ⟨[y1, y2, y3], rfl, h1, h3, h5, trivial⟩, by simp [hrs, h2, h4, h6]⟩
    · simp at he
  · rename_i x y z q
    split at he
    · rename_i u v' t p hu hv ht hp
      simp only [Option.some.injEq] at he
      subst he
      obtain ⟨y1, h1, h2⟩ := res1_sound hg h hu
      obtain ⟨y2, h3, h4⟩ := res1_sound hg h hv
      obtain ⟨y3, h5, h6⟩ := res1_sound hg h ht
      obtain ⟨y4, h7, h8⟩ := res1_sound hg h hp
      exact ⟨.tuple #[y1, y2, y3, y4], ⟨[y1, y2, y3, y4], rfl, h1, h3, h5, h7, trivial⟩, by simp [hrs, h2, h4, h6, h8]⟩
    · simp at he
  · rename_i x y z q p
    split at he
    · rename_i u v' t r o hu hv ht hr ho
      simp only [Option.some.injEq] at he
      subst he
      obtain ⟨y1, h1, h2⟩ := res1_sound hg h hu
      obtain ⟨y2, h3, h4⟩ := res1_sound hg h hv
      obtain ⟨y3, h5, h6⟩ := res1_sound hg h ht
      obtain ⟨y4, h7, h8⟩ := res1_sound hg h hr
      obtain ⟨y5, h9, h10⟩ := res1_sound hg h ho
      exact ⟨.tuple #[y1, y2, y3, y4, y5], ⟨[y1, y2, y3, y4, y5], rfl, h1, h3, h5, h7, h9, trivial⟩, by simp [hrs, h2, h4, h6, h8, h10]⟩
    · simp at he
  · simp at he

/-! ### the marks that ranges over functions leave -/
theorem RD.mono' (hw : ∀ k o v, F k → w.cell? ⟨k, o, none⟩ = some v → w'.cell? ⟨k, o, none⟩ = some v) {d : D} {v : Value} (h : RD F w d v) : RD F w' d v := by
  induction h with
  | int k n => exact .int k n
  | bool b => exact .bool b
  | str s => exact .str s
  | emp sz f a cap => exact .emp sz f a cap
  | nf => exact .nf
  | ni => exact .ni
  | np => exact .np
  | ifc t ns => exact .ifc t ns
  | sl sz n f b o cap cs hFb hn hc hl _ ih => exact .sl sz n f b o cap cs hFb hn (fun i j hi hj => hw _ _ _ hFb (hc i j hi hj)) hl ih
theorem R0.mono' (hw : ∀ k o v, F k → w.cell? ⟨k, o, none⟩ = some v → w'.cell? ⟨k, o, none⟩ = some v) {u : V} {v : Value} (h : R0 ρ F w u v) : R0 ρ F w' u v := by
  cases u with
  | d d => exact RD.mono' hw h
  | eptr ds =>
    obtain ⟨b, o, cs, h1, h2, h3⟩ := h
    exact ⟨b, o, cs, h1, h2, fun j d hd => ⟨hw _ _ _ h2 (h3 j d hd).1, RD.mono' hw (h3 j d hd).2⟩⟩
  | _ => exact h
theorem Elems.mono' (hw : ∀ k o v, F k → w.cell? ⟨k, o, none⟩ = some v → w'.cell? ⟨k, o, none⟩ = some v) {sz n : Nat} {f : Nat → List D} {xs : List Value} (h : Elems F w sz n f xs) : Elems F w' sz n f xs :=
  fun i hi => ⟨(h i hi).1, fun j d hd => let ⟨c, h1, h2⟩ := (h i hi).2 j d hd; ⟨c, h1, RD.mono' hw h2⟩⟩
theorem all_true {p : V → Bool} (hp : ∀ u, p u = true) : ∀ u : V, u.all1 p = true ∧ u.all2 p = true ∧ u.all3 p = true := by
  have h1 : ∀ u : V, u.all1 p = true := fun u => by cases u <;> simp [V.all1, hp]
  have h2 : ∀ u : V, u.all2 p = true := fun u => by cases u <;> simp [V.all2, h1]
  have h3 : ∀ u : V, u.all3 p = true := fun u => by cases u <;> simp [V.all3, h2]
  exact fun u => ⟨h1 u, h2 u, h3 u⟩
theorem map1_same (u : V) : u.map1 (fun u => u) = u := by cases u <;> simp [V.map1]
theorem map2_same (u : V) : u.map2 (fun u => u) = u := by
  cases u <;> simp only [V.map2] <;> first | exact map1_same _ | skip
  rename_i us
  congr 1
  induction us with
  | nil => rfl
  | cons u us ih => rw [List.map_cons, ih, map1_same]
theorem map3_same (u : V) : u.map3 (fun u => u) = u := by
  cases u <;> simp only [V.map3] <;> first | exact map2_same _ | skip
  rename_i us
  congr 1
  induction us with
  | nil => rfl
  | cons u us ih => rw [List.map_cons, ih, map2_same]
theorem R1.mono' (hw : ∀ k o v, F k → w.cell? ⟨k, o, none⟩ = some v → w'.cell? ⟨k, o, none⟩ = some v) {u : V} {v : Value} (h : R1 ρ F w u v) : R1 ρ F w' u v := by
  have := R1.map (p := fun _ => true) (k := fun u => u) (ρ' := ρ) (F' := F) (w' := w') (fun u v _ hr => R0.mono' hw hr) (all_true (fun _ => rfl) u).1 h
  rwa [map1_same] at this
theorem R2.mono' (hw : ∀ k o v, F k → w.cell? ⟨k, o, none⟩ = some v → w'.cell? ⟨k, o, none⟩ = some v) {u : V} {v : Value} (h : R2 ρ F w u v) : R2 ρ F w' u v := by
  have := R2.map (p := fun _ => true) (k := fun u => u) (ρ' := ρ) (F' := F) (w' := w') (fun u v _ hr => R0.mono' hw hr) (all_true (fun _ => rfl) u).2.1 h
  rwa [map2_same] at this
theorem R3.mono' (hw : ∀ k o v, F k → w.cell? ⟨k, o, none⟩ = some v → w'.cell? ⟨k, o, none⟩ = some v) {u : V} {v : Value} (h : R3 ρ F w u v) : R3 ρ F w' u v := by
  have := R3.map (p := fun _ => true) (k := fun u => u) (ρ' := ρ) (F' := F) (w' := w') (fun u v _ hr => R0.mono' hw hr) (all_true (fun _ => rfl) u).2.2 h
  rwa [map3_same] at this
theorem RS.mono' {tmps : Array Value} (hw : ∀ k o v, F k → w.cell? ⟨k, o, none⟩ = some v → w'.cell? ⟨k, o, none⟩ = some v) {u : V} {v : Value} (h : RS tmps ρ F w u v) : RS tmps ρ F w' u v := by
  by_cases hg : ∃ p y, u = .g p y
  · obtain ⟨p, y, rfl⟩ := hg
    exact ⟨fun hp => R3.mono' hw (h.1 hp), h.2⟩
  · have h0 : R3 ρ F w u v := by cases u <;> first | exact h | exact (hg ⟨_, _, rfl⟩).elim
    exact RS_of (R3.mono' hw h0)
theorem ChOK.mono' (hw : ∀ k o v, F k → w.cell? ⟨k, o, none⟩ = some v → w'.cell? ⟨k, o, none⟩ = some v) {id : Nat} {c : Ch} (hb : ∀ b, bks ρ id c b → w'.heap[b]? = w.heap[b]?) (h : ChOK ρ F w id c) : ChOK ρ F w' id c := by
  have hall : ∀ {us : List V} {cs : List Value}, All2 (R1 ρ F w) us cs → All2 (R1 ρ F w') us cs := fun {us cs} h => by
    have := h.imp (g := fun u => u) (R' := R1 ρ F w') (fun a b _ hab => R1.mono' hw hab)
    rwa [List.map_id'] at this
  cases c with
  | box us =>
    obtain ⟨b, cs, T, h1, h2, h3⟩ := h
    exact ⟨b, cs, T, h1, by rw [hb b (by show blk (ρ id) = some b; rw [h1]; rfl)]; exact h2, hall h3⟩
  | arr sz n f =>
    obtain ⟨b, cs, T, h1, h2, h3, h4⟩ := h
    exact ⟨b, cs, T, h1, by rw [hb b (by show blk (ρ id) = some b; rw [h1]; rfl)]; exact h2, h3, h4.mono' hw⟩
  | vec e sz n f =>
    obtain ⟨xs, h1, h2⟩ := h
    exact ⟨xs, ownsRow_keep h1 hb, h2.mono' hw⟩
  | iter s pos =>
    obtain ⟨b, h1, h2⟩ := h
    exact ⟨b, h1, by rw [hb b (by show blk (ρ id) = some b; rw [h1]; rfl)]; exact h2⟩
  | rows e e' sz n hole hs m f =>
    obtain ⟨xs, h1, h2, h3, h4⟩ := h
    refine ⟨xs, ownsRow_keep h1 fun b e => hb b (.inl e), fun i hi hh => ?_, h3, h4⟩
    obtain ⟨h5, ys, h6, h7⟩ := h2 i hi hh
    exact ⟨h5, ys, ownsRow_keep h6 fun b e => hb b (.inr ⟨i, hi, hh, e⟩), h7.mono' hw⟩
  | held e e' sz n i u hs m f =>
    obtain ⟨xs, h1, h0, h2, h3, h4⟩ := h
    refine ⟨xs, ownsRow_keep h1 fun b e => hb b (.inl e), fun hi => ?_, fun i hi hh => ?_, h3, h4⟩
    · obtain ⟨y, h5, h6⟩ := h0 hi
      exact ⟨y, h5, R1.mono' hw h6⟩
    · obtain ⟨h5, ys, h6, h7⟩ := h2 i hi hh
      exact ⟨h5, ys, ownsRow_keep h6 fun b e => hb b (.inr ⟨i, hi, hh, e⟩), h7.mono' hw⟩
  | bld T u =>
    obtain ⟨b, p, x, h1, h2, h3, h4⟩ := h
    exact ⟨b, p, x, h1, by rw [hb b (by show blk (ρ id) = some b; rw [h1]; rfl)]; exact h2, h3, R1.mono' hw h4⟩
  | tbl es =>
    obtain ⟨b, arr, clock, h1, h2, h3⟩ := h
    refine ⟨b, arr, clock, h1, by rw [hb b (by show blk (ρ id) = some b; rw [h1]; rfl)]; exact h2, ?_⟩
    have := h3.imp (g := fun e => e) (R' := fun e x => x.key = keyVal e.1 ∧ R2 ρ F w' e.2 x.val) (fun a x _ hx => ⟨hx.1, R2.mono' hw hx.2⟩)
    rwa [List.map_id'] at this

/-- A mark is taken: its block is shut. -/
theorem SatW.take {D : Nat} {ms : List Nat} (h : SatW C s a w ρ F) (hm : (D :: ms).Nodup) (hmk : C.mks = true) (hlo : C.w0.heap.size ≤ C.lo) (hD : ∀ k ∈ D :: ms, C.lo ≤ k ∧ F k ∧ w.heap[k]? = some (.deferred (some []))) :
    SatW C s { a with defers := ms.map markOf ++ C.defs } (w.putObj D (.deferred none)) ρ F := by
  obtain ⟨d1, d2, d3⟩ := hD D (by simp)
  have hw : ∀ k o v, F k → w.cell? ⟨k, o, none⟩ = some v → (w.putObj D (.deferred none)).cell? ⟨k, o, none⟩ = some v := fun k o v hk hc => by
    by_cases e : k = D
    · subst e
      unfold World.cell? at hc
      rw [d3] at hc
      simp at hc
    · rw [← hc]; exact World.cell?_of_block (w := w) (World.putObj_heap_other e)
  have hb : ∀ i c, (i, c) ∈ s.H → ∀ b, bks ρ i c b → (w.putObj D (.deferred none)).heap[b]? = w.heap[b]? := fun i c hi b e => World.putObj_heap_other fun e2 => by subst e2; exact h.out i c b hi e d2
  exact
    { size := h.size, sep := h.sep, out := h.out, freshL := h.freshL, freshH := h.freshH, mine := h.mine, sub := h.sub, base := h.base, fixd := h.fixd
      slot := fun t v hv => let ⟨x, hx, hr⟩ := h.slot t v hv; ⟨x, hx, RS.mono' hw hr⟩
      ch := fun i c hi => ChOK.mono' hw (hb i c hi) (h.ch i c hi)
      lt := fun k hk => by rw [World.putObj_size]; exact h.lt k hk
      env := fun g n f hm => ⟨(h.env g n f hm).1, fun j hj => hw _ _ _ (h.env g n f hm).1 ((h.env g n f hm).2.1 j hj), fun h0 => let ⟨m, hm'⟩ := (h.env g n f hm).2.2 h0; ⟨m, hw _ _ _ (h.env g n f hm).1 hm'⟩⟩
      keep := ⟨h.keep.os, h.keep.tape, h.keep.output, by rw [World.putObj_size]; exact h.keep.size, fun k hk he => (World.putObj_heap_other (by omega)).trans (h.keep.block k hk he)⟩
      defers := ⟨ms, rfl, (List.nodup_cons.1 hm).2, fun e => (by rw [hmk] at e; cases e), fun k hk => by
        obtain ⟨k1, k2, k3⟩ := hD k (by simp [hk])
        exact ⟨k1, k2, (World.putObj_heap_other fun e => (List.nodup_cons.1 hm).1 (by rw [← e]; exact hk)).trans k3⟩⟩ }

theorem leaves_marks {fn : Func} {R : Ending → World → Prop} (hmk : C.mks = true) (hdefs : C.defs = []) (hlo : C.w0.heap.size ≤ C.lo) : ∀ (ms : List Nat) (a : Act) (w : World), a.defers = ms.map markOf ++ C.defs → ms.Nodup → (∀ k ∈ ms, C.lo ≤ k ∧ F k ∧ w.heap[k]? = some (.deferred (some []))) → SatW C s a w ρ F →
    (∀ w', SatW C s { a with defers := [] } w' ρ F → ∃ y, (results fn a.tmps).run C.P w' = .ok y w' ∧ R (.returned y) w') → LeavesInM Fence.wide 9 C.P fn a.tmps R a.defers .returning w := by
  intro ms
  induction ms with
  | nil =>
    intro a w he _ _ h k
    rw [hdefs] at he
    rw [he]
    have ha : ({ a with defers := [] } : Act) = a := by cases a; simp at he; subst he; rfl
    exact k w (by rw [ha]; exact h)
  | cons D ms ih =>
    intro a w he hnd hD h k
    rw [he]
    refine ⟨by simp, .inl ⟨D, _, rfl, run_takeDeferred (hD D (by simp)).2.2, ?_⟩⟩
    have h2 := h.take hnd hmk hlo hD
    exact ih { a with defers := ms.map markOf ++ C.defs } _ rfl (List.nodup_cons.1 hnd).2 (fun j hj => by
        obtain ⟨k1, k2, k3⟩ := hD j (by simp [hj])
        exact ⟨k1, k2, (World.putObj_heap_other fun e => (List.nodup_cons.1 hnd).1 (by rw [← e]; exact hj)).trans k3⟩) h2 k

/-- **HOW A CONTRACT IS PROVED**: go through the body, from the arguments, to an end that bears r and H'. -/
theorem Proc.intro {P : Pg} {f : FuncId} {fn : Func} {c : Code} {args : List V} {H : List Ch} {r : V} {H' : List Ch} (hf : P.P.funcs[f]? = some fn) (hb : fn.body = some c) (hname : (fn.name == "runtime.NumGoroutine") = false)
    (hg : TysOK P.P g.tys) (hn : g.n = fn.ntmps) {rs : List ResultVar} (hrs : fn.results = rs.toArray) (hlen : Nat.ble args.length g.n = true) (hfr : freshAll args H H.length = true) (hfr' : freshAll [r] H' H'.length = true) (hfx : Nat.ble g.fix H.length = true) (hHH : Nat.ble H.length H'.length = true)
    (ids : List Nat)
    (hgo : ∀ (C : Ctx), C.pg = P → g.n = C.n → g.fix = C.fix → C.defs = [] → C.rd = none → C.mks = true ∧ C.lo ≤ C.w0.heap.size → Go C [.code c] ⟨ixV 0 args, ixC 0 H, H.length⟩ (Ret g rs ids r H')) : Proc P f g.fix args H r H' := by
  refine ⟨⟨fn, hf, by rw [hb]; rfl, hname⟩, hfr, hfr', by simpa using hfx, by simpa using hHH, fun w F ρ vals hF hE hH hargs => ?_⟩
  have hfx' : g.fix ≤ H.length := by simpa using hfx
  have hlen' : args.length ≤ g.n := by simpa using hlen
  have hvl := hargs.length
  simp only [freshAll, Bool.and_eq_true, List.all_eq_true] at hfr
  let C : Ctx := { P := P.P, env := P.env, n := g.n, w0 := w, E := ownB ρ H, F0 := F, ρ0 := ρ, fix := g.fix, defs := [], mks := true, lo := w.heap.size }
  refine callsIn_wide.1 (callsIn_of_wp_marks (n := 9) hf hb trivial ?_)
  have hsat : Sat C ⟨ixV 0 args, ixC 0 H, H.length⟩ { tmps := vals.toArray ++ Array.replicate (fn.ntmps - vals.toArray.size) undef, defers := [] } w := by
    refine ⟨ρ, F, { size := ?_, defers := .start rfl, slot := ?_, ch := ?_, sep := ?_, out := ?_, freshL := ?_, freshH := ?_, lt := hF, mine := ?_, sub := fun k hk => .inl hk, base := fun _ hk => hk, fixd := ⟨hfx', fun _ _ => rfl⟩, keep := ⟨rfl, rfl, rfl, Nat.le_refl _, fun _ _ _ => rfl⟩, env := hE }⟩
    · simp only [Array.size_append, List.size_toArray, Array.size_replicate]
      show _ = g.n
      omega
    · intro t v hv
      obtain ⟨_, hv⟩ := mem_ixV hv
      obtain ⟨x, hx, hr⟩ := hargs.get hv
      refine ⟨x, ?_, RS_of hr⟩
      simp only [Nat.sub_zero] at hx
      have : t < vals.length := (List.getElem?_eq_some_iff.1 hx).1
      rw [Array.getElem?_append_left (by simpa using this)]
      simpa using hx
    · intro i c hc
      obtain ⟨_, hc⟩ := mem_ixC hc
      exact hH.ch i c (by simpa using hc)
    · intro i j ci cj b hi hj hij e
      obtain ⟨_, hi⟩ := mem_ixC hi
      obtain ⟨_, hj⟩ := mem_ixC hj
      exact fun e2 => hH.sep i j b (by simpa using (List.getElem?_eq_some_iff.1 hi).1) (by simpa using (List.getElem?_eq_some_iff.1 hj).1) hij (bks_plain (hfr.2 ci (List.mem_of_getElem? hi)).2 e) (bks_plain (hfr.2 cj (List.mem_of_getElem? hj)).2 e2)
    · intro i ci b hi e
      obtain ⟨_, hi⟩ := mem_ixC hi
      exact hH.out i b (by simpa using (List.getElem?_eq_some_iff.1 hi).1) (bks_plain (hfr.2 ci (List.mem_of_getElem? hi)).2 e)
    · intro t v hv
      obtain ⟨_, hv⟩ := mem_ixV hv
      obtain ⟨x, hx, hr⟩ := hargs.get hv
      have := hfr.1 v (List.mem_of_getElem? hv)
      cases v <;> first | exact this | exact (show False from hr).elim
    · intro i ci hi
      obtain ⟨_, hi⟩ := mem_ixC hi
      exact ⟨by simpa using (List.getElem?_eq_some_iff.1 hi).1, (hfr.2 ci (List.mem_of_getElem? hi)).1⟩
    · intro i ci b hi e
      obtain ⟨_, hi⟩ := mem_ixC hi
      exact .inr ⟨i, by simpa using (List.getElem?_eq_some_iff.1 hi).1, bks_plain (hfr.2 ci (List.mem_of_getElem? hi)).2 e⟩
  refine wpIn_mono (show Code.wpIn Fence.wide 9 P.P c _ _ w from hgo C rfl rfl rfl rfl rfl ⟨rfl, Nat.le_refl _⟩ _ _ hsat) ?_
  rintro e a' w' ⟨s', ⟨ρ', F', h'⟩, he, hr, hH', hok⟩
  have key : bodyPostM Fence.wide 9 P.P fn (Post w F ρ g.fix H r H') .ret a' w' := by
    obtain ⟨ms, m1, m2, _, m4⟩ := h'.defers
    refine leaves_marks (C := C) rfl rfl (Nat.le_refl _) ms a' w' m1 m2 m4 h' ?_
    clear h' m1 m2 m4
    intro w' h'
    cases hres : resV g s' rs with
    | none => rw [hres] at hr; exact hr.elim
    | some r0 =>
      rw [hres] at hr
      obtain ⟨y, h1, h2⟩ := res_sound (C := C) hg h' hrs hres
      simp only [okIds, Bool.and_eq_true] at hok
      obtain ⟨⟨o1, o2⟩, o3⟩ := hok
      have o1 := Nat.eq_of_beq_eq_true o1
      have hy := VEq_sound hr h1
      simp only [freshAll, Bool.and_eq_true, List.all_eq_true] at hfr'
      have hrho : ∀ i, i < H'.length → ρ' (nth ids i) = (fun i => ρ' (nth ids i)) i := fun _ _ => rfl
      have hex : ∀ i, i < H'.length → ∃ c, H'[i]? = some c ∧ ∃ c0, (nth ids i, c0) ∈ s'.H ∧ ChEq c0 (c.map (ren0 ids)) := fun i hi => by
        obtain ⟨c0, k1, k2⟩ := rnH_mem o1 hH' (List.getElem?_eq_getElem hi)
        exact ⟨_, List.getElem?_eq_getElem hi, c0, k1, k2⟩
      refine ⟨y, h2, y, fun i => ρ' (nth ids i), F', rfl, h'.keep, ?_, fun k hk => ?_, h'.lt, h'.sub, ?_, ?_, ?_⟩
      · intro i hi
        show ρ' (nth ids i) = ρ i
        rw [idB_sound o3 i hi, Nat.zero_add]
        exact h'.fixd.2 i hi
      · exact h'.base k hk
      · exact R3.unren hrho (hfr'.1 r (by simp)) hy
      · refine ⟨fun i c hc => ?_, fun i j b hi hj hij e => ?_, fun i b hi e => ?_⟩
        · have hi := (List.getElem?_eq_some_iff.1 hc).1
          obtain ⟨c', hc', c0, k1, k2⟩ := hex i hi
          rw [hc] at hc'
          obtain rfl := Option.some.inj hc'
          exact ChOK.unren hrho hi (hfr'.2 c (List.mem_of_getElem? hc)).1 (ChEq_sound k2 (h'.ch _ _ k1))
        · obtain ⟨_, _, c0, k1, _⟩ := hex i hi
          obtain ⟨_, _, c1, k3, _⟩ := hex j hj
          exact fun e2 => h'.sep _ _ c0 c1 b k1 k3 (nodupB_sound o2 i j (by omega) (by omega) hij) (bks_main e) (bks_main e2)
        · obtain ⟨_, _, c0, k1, _⟩ := hex i hi
          exact h'.out _ c0 b k1 (bks_main e)
      · intro i b hi e
        obtain ⟨_, _, c0, k1, _⟩ := hex i hi
        exact h'.mine _ c0 b k1 (bks_main e)
  rcases he with rfl | rfl
  · exact key
  · exact key
end
end Go.Sx

/-
  Sx, part 19: a call, by its contract.
-/
set_option linter.unusedVariables false
set_option linter.unusedSimpArgs false
namespace Go.Sx

def callOf (L : List (Nat × V)) (q : List (Nat × Bool)) (o : Oper) : Option (FuncId × List V) :=
  match o.op with
  | .call c => match c.callee with
    | .value fo => match ev L q fo, evs L q c.args.toList with
      | some (.fn f caps), some A => some (f, A ++ caps)
      | _, _ => none
    | _ => none
  | _ => none

def inL (x : Nat) : List Nat → Bool
  | [] => false
  | y :: r => Nat.beq x y || inL x r
def killIn (xs : List Nat) : V → V
  | .ptr i o => bif inL i xs then .dead else .ptr i o
  | .own i => bif inL i xs then .dead else .own i
  | .vptr i z k o => bif inL i xs then .dead else .vptr i z k o
  | v => v
def delAll (is : List Nat) : List (Nat × Ch) → List (Nat × Ch)
  | [] => []
  | (i, c) :: r => bif inL i is then delAll is r else (i, c) :: delAll is r
def newIds : Nat → Nat → List Nat
  | _, 0 => []
  | m, n + 1 => m :: newIds (m + 1) n
def app2 {α : Type} : List α → List α → List α
  | [], b => b
  | a :: r, b => a :: app2 r b
def dropN {α : Type} : Nat → List α → List α
  | 0, l => l
  | _ + 1, [] => []
  | n + 1, _ :: r => dropN n r

/-- THE STATE BEHIND A CALL. -/
def after (s : St) (d : Nat) (is : List Nat) (fix : Nat) (r : V) (H' : List Ch) (q : List (Nat × Bool)) : St :=
  let ids := app2 is (newIds s.m (H'.length - is.length))
  let v := r.map3 (ren0 ids)
  { L := put (mapL (killIn (dropN fix is)) s.L) d (match q with | [] => v | q => .g q v), H := app2 (rnH ids ids H') (mapH (killIn (dropN fix is)) (delAll is s.H)), m := s.m + (H'.length - is.length) }

def okIs (g : Cfg) (m : Nat) (is : List Nat) (fix k : Nat) : Bool := nodupB is && is.all (fun i => Nat.blt i m) && (dropN fix is).all (fun i => Nat.ble g.fix i) && Nat.beq is.length k

def AEq : List V → List V → Prop
  | [], [] => True
  | a :: r, b :: q => VEq a b ∧ AEq r q
  | _, _ => False

section
theorem app2_eq {α : Type} (a b : List α) : app2 a b = a ++ b := by induction a <;> simp [app2, *]
theorem dropN_eq {α : Type} (n : Nat) (l : List α) : dropN n l = l.drop n := by
  induction n generalizing l with
  | zero => rfl
  | succ n ih => cases l <;> simp [dropN, ih]
theorem inL_iff {x : Nat} {l : List Nat} : inL x l = true ↔ x ∈ l := by
  induction l with
  | nil => simp [inL]
  | cons y r ih => simp [inL, ih]
theorem newIds_len (m n : Nat) : (newIds m n).length = n := by induction n generalizing m <;> simp [newIds, *]
theorem newIds_mem {m n x : Nat} : x ∈ newIds m n ↔ m ≤ x ∧ x < m + n := by
  induction n generalizing m with
  | zero => simp [newIds]
  | succ n ih => simp only [newIds, List.mem_cons, ih]; omega
theorem nth_mem {l : List Nat} {i : Nat} (h : i < l.length) : nth l i ∈ l := List.mem_of_getElem? (nth_get h)
theorem nth_app_left {a b : List Nat} {i : Nat} (h : i < a.length) : nth (app2 a b) i = nth a i := by
  rw [app2_eq]
  have h1 := nth_get (is := a ++ b) (i := i) (by simp; omega)
  have h2 := nth_get h
  rw [List.getElem?_append_left h, h2] at h1
  exact (Option.some.inj h1).symm
theorem delAll_mem {is : List Nat} {H : List (Nat × Ch)} {i : Nat} {c : Ch} (h : (i, c) ∈ delAll is H) : (i, c) ∈ H ∧ i ∉ is := by
  induction H with
  | nil => cases h
  | cons e r ih =>
    obtain ⟨j, d⟩ := e
    unfold delAll at h
    cases hj : inL j is with
    | true => rw [hj] at h; simp at h; exact ⟨List.mem_cons_of_mem _ (ih h).1, (ih h).2⟩
    | false =>
      rw [hj] at h
      simp only [cond_false, List.mem_cons, Prod.mk.injEq] at h
      rcases h with ⟨rfl, rfl⟩ | h
      · exact ⟨by simp, fun hm => by rw [inL_iff.2 hm] at hj; cases hj⟩
      · exact ⟨List.mem_cons_of_mem _ (ih h).1, (ih h).2⟩
theorem rnH_of_mem {is : List Nat} : ∀ {xs : List Nat} {cs : List Ch} {x : Nat} {c' : Ch}, (x, c') ∈ rnH is xs cs → ∃ i c, i < xs.length ∧ nth xs i = x ∧ cs[i]? = some c ∧ c' = c.map (ren0 is)
  | y :: xs, d :: cs, x, c', h => by
    rcases List.mem_cons.1 h with e | h
    · obtain ⟨rfl, rfl⟩ := Prod.mk.inj e; exact ⟨0, d, by simp, rfl, rfl, rfl⟩
    · obtain ⟨i, c, h1, h2, h3, h4⟩ := rnH_of_mem h
      exact ⟨i + 1, c, by simpa using h1, h2, by simpa using h3, h4⟩
  | [], _, _, _, h => by cases h
  | _ :: _, [], _, _, h => by cases h

/-- Where a number stands in a list. -/
def pos : List Nat → Nat → Option Nat
  | [], _ => none
  | y :: r, x => if y = x then some 0 else (pos r x).map (· + 1)
theorem pos_nth {l : List Nat} (hn : ∀ i j, i < l.length → j < l.length → i ≠ j → nth l i ≠ nth l j) {i : Nat} (h : i < l.length) : pos l (nth l i) = some i := by
  induction l generalizing i with
  | nil => simp at h
  | cons y r ih =>
    cases i with
    | zero => simp [pos, nth]
    | succ i =>
      have h0 := hn 0 (i + 1) (by simp) h (by omega)
      simp only [nth] at h0
      simp only [pos, nth, h0, if_false]
      rw [ih (fun a b ha hb hab => hn (a + 1) (b + 1) (by simpa using ha) (by simpa using hb) (by omega)) (by simpa using h)]
      rfl
theorem pos_none {l : List Nat} {x : Nat} (h : x ∉ l) : pos l x = none := by
  induction l with
  | nil => rfl
  | cons y r ih =>
    have h1 : ¬ y = x := fun e => h (by simp [e])
    simp only [pos, h1, if_false, ih (fun hm => h (by simp [hm]))]; rfl
end

theorem ren_fresh1 {is : List Nat} {k m : Nat} (hm : ∀ i, i < k → nth is i < m) {u : V} (h : u.all1 (fresh k) = true) : (u.map1 (ren0 is)).all1 (fresh m) = true := by
  have go : ∀ id, Nat.blt id k = true → Nat.blt (nth is id) m = true := fun id h => by simpa using hm id (by simpa using h)
  have g0 : ∀ u, fresh k u = true → fresh m (ren0 is u) = true := fun u h => by cases u <;> first | exact go _ h | rfl
  cases u with
  | fn f c => simp only [V.map1, V.all1, List.all_map, List.all_eq_true, Function.comp] at *; exact fun x hx => g0 x (h x hx)
  | ptr i o => exact go _ h
  | own i => exact go _ h
  | vptr i z k o => exact go _ h
  | _ => rfl
theorem ren_fresh2 {is : List Nat} {k m : Nat} (hm : ∀ i, i < k → nth is i < m) {u : V} (h : u.all2 (fresh k) = true) : (u.map2 (ren0 is)).all2 (fresh m) = true := by
  cases u with
  | agg us => simp only [V.map2, V.all2, List.all_map, List.all_eq_true, Function.comp] at *; exact fun x hx => ren_fresh1 hm (h x hx)
  | fn f c => exact ren_fresh1 (u := .fn f c) hm h
  | ptr i o => exact ren_fresh1 (u := .ptr i o) hm h
  | own i => exact ren_fresh1 (u := .own i) hm h
  | vptr i z k o => exact ren_fresh1 (u := .vptr i z k o) hm h
  | _ => rfl
theorem ren_fresh3 {is : List Nat} {k m : Nat} (hm : ∀ i, i < k → nth is i < m) {u : V} (h : u.all3 (fresh k) = true) : (u.map3 (ren0 is)).all3 (fresh m) = true := by
  cases u with
  | tup us => simp only [V.map3, V.all3, List.all_map, List.all_eq_true, Function.comp] at *; exact fun x hx => ren_fresh2 hm (h x hx)
  | agg us => exact ren_fresh2 (u := .agg us) hm h
  | fn f c => exact ren_fresh2 (u := .fn f c) hm h
  | ptr i o => exact ren_fresh2 (u := .ptr i o) hm h
  | own i => exact ren_fresh2 (u := .own i) hm h
  | vptr i z k o => exact ren_fresh2 (u := .vptr i z k o) hm h
  | _ => rfl
theorem ren_freshC {is : List Nat} {k m : Nat} (hm : ∀ i, i < k → nth is i < m) {c : Ch} (h : c.all (fresh k) = true) : (c.map (ren0 is)).all (fresh m) = true := by
  cases c with
  | box us => simp only [Ch.map, Ch.all, List.all_map, List.all_eq_true, Function.comp] at *; exact fun x hx => ren_fresh1 hm (h x hx)
  | held _ _ _ _ _ u _ _ _ => exact ren_fresh1 (u := u) hm h
  | tbl es => simp only [Ch.map, Ch.all, List.all_map, List.all_eq_true, Function.comp] at *; exact fun x hx => ren_fresh2 hm (h x hx)
  | bld T u => exact ren_fresh1 (u := u) hm h
  | _ => rfl

theorem killIn_or (xs : List Nat) (u : V) : killIn xs u = u ∨ killIn xs u = .dead := by
  cases u with
  | ptr i o => simp only [killIn]; cases inL i xs <;> simp
  | own i => simp only [killIn]; cases inL i xs <;> simp
  | vptr i z k o => simp only [killIn]; cases inL i xs <;> simp
  | _ => exact .inl rfl
theorem killIn1_fresh {xs : List Nat} {m m' : Nat} (hmm : m ≤ m') {v : V} (hv : v.all1 (fresh m) = true) : (v.map1 (killIn xs)).all1 (fresh m') = true := by
  have g0 : ∀ u, fresh m u = true → fresh m' (killIn xs u) = true := fun u h => by
    rcases killIn_or xs u with e | e <;> rw [e]
    · exact fresh_mono hmm h
    · rfl
  have g1 : ∀ u, u.leaf = true → fresh m u = true → (killIn xs u).all1 (fresh m') = true := fun u hl h => by
    have h2 := g0 u h
    rcases killIn_or xs u with e | e
    · rw [e] at h2 ⊢; cases u <;> first | exact h2 | cases hl
    · rw [e]; rfl
  cases v with
  | fn f c => simp only [V.map1, V.all1, List.all_map, List.all_eq_true, Function.comp] at *; exact fun x hx => g0 x (hv x hx)
  | ptr i o => exact g1 (.ptr i o) rfl hv
  | own i => exact g1 (.own i) rfl hv
  | vptr i z k o => exact g1 (.vptr i z k o) rfl hv
  | _ => first | rfl | exact all1_imp (fun u hu => fresh_mono hmm hu) hv
theorem killIn2_fresh {xs : List Nat} {m m' : Nat} (hmm : m ≤ m') {v : V} (hv : v.all2 (fresh m) = true) : (v.map2 (killIn xs)).all2 (fresh m') = true := by
  cases v with
  | agg us => simp only [V.map2, V.all2, List.all_map, List.all_eq_true, Function.comp] at *; exact fun x hx => killIn1_fresh hmm (hv x hx)
  | ptr i o =>
    have := killIn1_fresh (xs := xs) hmm (v := .ptr i o) hv
    rcases killIn_or xs (.ptr i o) with e | e <;> (simp only [V.map1] at this; simp only [V.map2, V.map1, e] at this ⊢; exact this)
  | own i =>
    have := killIn1_fresh (xs := xs) hmm (v := .own i) hv
    rcases killIn_or xs (.own i) with e | e <;> (simp only [V.map1] at this; simp only [V.map2, V.map1, e] at this ⊢; exact this)
  | vptr i z k o =>
    have := killIn1_fresh (xs := xs) hmm (v := .vptr i z k o) hv
    rcases killIn_or xs (.vptr i z k o) with e | e <;> (simp only [V.map1] at this; simp only [V.map2, V.map1, e] at this ⊢; exact this)
  | fn f c => exact killIn1_fresh (v := .fn f c) hmm hv
  | _ => rfl
theorem killIn3_fresh {xs : List Nat} {m m' : Nat} (hmm : m ≤ m') {v : V} (hv : v.all3 (fresh m) = true) : (v.map3 (killIn xs)).all3 (fresh m') = true := by
  cases v with
  | tup us => simp only [V.map3, V.all3, List.all_map, List.all_eq_true, Function.comp] at *; exact fun x hx => killIn2_fresh hmm (hv x hx)
  | agg us => exact killIn2_fresh (v := .agg us) hmm hv
  | ptr i o =>
    have := killIn2_fresh (xs := xs) hmm (v := .ptr i o) hv
    rcases killIn_or xs (.ptr i o) with e | e <;> (simp only [V.map2, V.map1] at this; simp only [V.map3, V.map2, V.map1, e] at this ⊢; exact this)
  | own i =>
    have := killIn2_fresh (xs := xs) hmm (v := .own i) hv
    rcases killIn_or xs (.own i) with e | e <;> (simp only [V.map2, V.map1] at this; simp only [V.map3, V.map2, V.map1, e] at this ⊢; exact this)
  | vptr i z k o =>
    have := killIn2_fresh (xs := xs) hmm (v := .vptr i z k o) hv
    rcases killIn_or xs (.vptr i z k o) with e | e <;> (simp only [V.map2, V.map1] at this; simp only [V.map3, V.map2, V.map1, e] at this ⊢; exact this)
  | fn f c => exact killIn2_fresh (v := .fn f c) hmm hv
  | _ => rfl
theorem killIn4_fresh {xs : List Nat} {m m' : Nat} (hmm : m ≤ m') {v : V} (hv : v.all4 (fresh m) = true) : (v.map4 (killIn xs)).all4 (fresh m') = true := by
  cases v with
  | g p u => exact killIn3_fresh hmm hv
  | tup us => exact killIn3_fresh (v := .tup us) hmm hv
  | agg us => exact killIn3_fresh (v := .agg us) hmm hv
  | ptr i o =>
    have := killIn3_fresh (xs := xs) hmm (v := .ptr i o) hv
    rcases killIn_or xs (.ptr i o) with e | e <;> (simp only [V.map3, V.map2, V.map1] at this; simp only [V.map4, V.map3, V.map2, V.map1, e] at this ⊢; exact this)
  | own i =>
    have := killIn3_fresh (xs := xs) hmm (v := .own i) hv
    rcases killIn_or xs (.own i) with e | e <;> (simp only [V.map3, V.map2, V.map1] at this; simp only [V.map4, V.map3, V.map2, V.map1, e] at this ⊢; exact this)
  | vptr i z k o =>
    have := killIn3_fresh (xs := xs) hmm (v := .vptr i z k o) hv
    rcases killIn_or xs (.vptr i z k o) with e | e <;> (simp only [V.map3, V.map2, V.map1] at this; simp only [V.map4, V.map3, V.map2, V.map1, e] at this ⊢; exact this)
  | fn f c => exact killIn3_fresh (v := .fn f c) hmm hv
  | _ => rfl
theorem killInC_fresh {xs : List Nat} {m m' : Nat} (hmm : m ≤ m') {c : Ch} (hc : c.all (fresh m) = true) : (c.map (killIn xs)).all (fresh m') = true := by
  cases c with
  | box us => simp only [Ch.map, Ch.all, List.all_map, List.all_eq_true, Function.comp] at *; exact fun y hy => killIn1_fresh hmm (hc y hy)
  | held _ _ _ _ _ u _ _ _ => exact killIn1_fresh (v := u) hmm hc
  | tbl es => simp only [Ch.map, Ch.all, List.all_map, List.all_eq_true, Function.comp] at *; exact fun y hy => killIn2_fresh hmm (hc y hy)
  | bld T u => exact killIn1_fresh (v := u) hmm hc
  | _ => rfl
end Go.Sx

/-
  Sx, part 20: the theorem on calls.
-/
set_option linter.unusedVariables false
set_option linter.unusedSimpArgs false
namespace Go.Sx
section
variable {C : Ctx} {s : St} {a : Act} {w w' : World} {ρ : Nat → Value} {F : Nat → Prop} {g : Cfg}

theorem R0.killIn {xs : List Nat} {m : Nat} {ρ' : Nat → Value} {F' : Nat → Prop} (hρ : ∀ i, i < m → i ∉ xs → ρ' i = ρ i) (hF : ∀ k, F k → F' k) (hw : ∀ k, F k → w'.heap[k]? = w.heap[k]?) {u : V} {v : Value} (hf : fresh m u = true) (h : R0 ρ F w u v) : R0 ρ' F' w' (killIn xs u) v := by
  have one := h.one'
  have go : ∀ id, Nat.blt id m = true → inL id xs = false → ρ' id = ρ id := fun id h1 h2 => hρ id (by simpa using h1) (fun hm => by rw [inL_iff.2 hm] at h2; cases h2)
  cases u with
  | ptr i o =>
    simp only [Sx.killIn]
    cases hi : inL i xs with
    | true => exact one
    | false => obtain ⟨b, h1, h2⟩ := h; exact ⟨b, by rw [go i hf hi]; exact h1, h2⟩
  | own i =>
    simp only [Sx.killIn]
    cases hi : inL i xs with
    | true => exact one
    | false => obtain ⟨h1, h2⟩ := h; exact ⟨by rw [go i hf hi]; exact h1, by rw [go i hf hi]; exact h2⟩
  | vptr i z k o =>
    simp only [Sx.killIn]
    cases hi : inL i xs with
    | true => exact one
    | false => obtain ⟨b, h1, h2⟩ := h; exact ⟨b, by rw [go i hf hi]; exact h1, h2⟩
  | d x => exact R0.world hF hw h
  | eptr ds => exact R0.world (u := .eptr ds) hF hw h
  | nils => exact h
  | dead => exact h
  | _ => exact h.elim

/-- What a call leaves, in the caller's state. -/
theorem SatW.called (h : SatW C s a w ρ F) (hfxg : g.fix = C.fix) {is : List Nat} {fix : Nat} {H H' : List Ch} {r : V} {e : Ending}
    (hok : okIs g s.m is fix H.length = true) (hH : HLE s.H (rnH is is H)) (hle : H.length ≤ H'.length) (hfr : freshAll [r] H' H'.length = true)
    (hpost : Post w F (fun i => ρ (nth is i)) fix H r H' e w') :
    ∃ v ρ' F', e = .returned v ∧ R3 ρ' F' w' (r.map3 (ren0 (app2 is (newIds s.m (H'.length - is.length))))) v ∧ (r.map3 (ren0 (app2 is (newIds s.m (H'.length - is.length))))).all3 (fresh (s.m + (H'.length - is.length))) = true ∧
      SatW C { L := mapL (killIn (dropN fix is)) s.L, H := app2 (rnH (app2 is (newIds s.m (H'.length - is.length))) (app2 is (newIds s.m (H'.length - is.length))) H') (mapH (killIn (dropN fix is)) (delAll is s.H)), m := s.m + (H'.length - is.length) } a w' ρ' F' := by
  obtain ⟨v, ρc, F', he, hkeep, hfix, hFF, hlt, hsub, hr, hhold, hmine⟩ := hpost
  simp only [okIs, Bool.and_eq_true, List.all_eq_true] at hok
  obtain ⟨⟨⟨o1, o2⟩, o3⟩, o4⟩ := hok
  have hisl := Nat.eq_of_beq_eq_true o4
  have o2' : ∀ i ∈ is, i < s.m := fun i hi => by simpa using o2 i hi
  have o3' : ∀ i ∈ dropN fix is, C.fix ≤ i := fun i hi => by rw [← hfxg]; simpa using o3 i hi
  generalize hn : H'.length - is.length = n
  generalize hids : app2 is (newIds s.m n) = ids
  have hidl : ids.length = H'.length := by rw [← hids, app2_eq, List.length_append, newIds_len]; omega
  have hmem : ∀ x, x ∈ ids ↔ x ∈ is ∨ (s.m ≤ x ∧ x < s.m + n) := fun x => by rw [← hids, app2_eq, List.mem_append, newIds_mem]
  have hidm : ∀ x ∈ ids, x < s.m + n := fun x hx => by
    rcases (hmem x).1 hx with h1 | h1
    · have := o2' x h1; omega
    · exact h1.2
  have hleft : ∀ i, i < is.length → nth ids i = nth is i := fun i hi => by rw [← hids]; exact nth_app_left hi
  have hnodup : ∀ i j, i < ids.length → j < ids.length → i ≠ j → nth ids i ≠ nth ids j := by
    have hright : ∀ n m i, i < n → nth (newIds m n) i = m + i := by
      intro n
      induction n with
      | zero => intro m i hi; omega
      | succ n ih =>
        intro m i hi
        cases i with
        | zero => rfl
        | succ i => simp only [newIds, nth]; rw [ih (m + 1) i (by omega)]; omega
    have hr2 : ∀ i, is.length ≤ i → i < ids.length → nth ids i = s.m + (i - is.length) := by
      intro i h1 h2
      have e1 := nth_get h2
      rw [← hids, app2_eq, List.getElem?_append_right h1] at e1
      have hlen : i - is.length < (newIds s.m n).length := by rw [newIds_len]; omega
      rw [nth_get hlen] at e1
      have e2 := Option.some.inj e1
      rw [show is ++ newIds s.m n = ids by rw [← app2_eq]; exact hids] at e2
      rw [← e2, hright n s.m _ (by rw [newIds_len] at hlen; exact hlen)]
    intro i j hi hj hij e
    by_cases h1 : i < is.length
    · by_cases h2 : j < is.length
      · rw [hleft i h1, hleft j h2] at e
        exact nodupB_sound o1 i j h1 h2 hij e
      · rw [hleft i h1, hr2 j (by omega) hj] at e
        have := o2' _ (nth_mem h1)
        omega
    · by_cases h2 : j < is.length
      · rw [hleft j h2, hr2 i (by omega) hi] at e
        have := o2' _ (nth_mem h2)
        omega
      · rw [hr2 i (by omega) hi, hr2 j (by omega) hj] at e
        omega
  let ρ' : Nat → Value := fun x => match pos ids x with | some i => ρc i | none => ρ x
  have hρn : ∀ i, i < ids.length → ρ' (nth ids i) = ρc i := fun i hi => by simp only [ρ', pos_nth hnodup hi]
  have hρo : ∀ x, x ∉ ids → ρ' x = ρ x := fun x hx => by simp only [ρ', pos_none hx]
  have hρk : ∀ i, i < H'.length → ρ' (nth ids i) = ρc i := fun i hi => hρn i (by omega)
  -- the passed chunks in the caller
  have hpass : ∀ p, p < is.length → ∃ c0, (nth is p, c0) ∈ s.H := fun p hp => by
    obtain ⟨c0, k1, _⟩ := rnH_mem hisl hH (List.getElem?_eq_getElem (show p < H.length by omega))
    exact ⟨c0, k1⟩
  have hE : ∀ b, ownB (fun i => ρ (nth is i)) H b → ∃ p c0, p < is.length ∧ (nth is p, c0) ∈ s.H ∧ bks ρ (nth is p) c0 b := fun b hb => by
    obtain ⟨p, hp, hb⟩ := hb
    obtain ⟨c0, k1⟩ := hpass p (by omega)
    exact ⟨p, c0, by omega, k1, bks_main hb⟩
  have hwF : ∀ k, F k → w'.heap[k]? = w.heap[k]? := fun k hk => hkeep.block k (h.lt k hk) (fun hb => by
    obtain ⟨p, c0, hp, k1, k2⟩ := hE k hb
    exact h.out _ c0 k k1 k2 hk)
  have hkeepC : Keeps C.w0 C.E w' := ⟨hkeep.os.trans h.keep.os, hkeep.tape.trans h.keep.tape, hkeep.output.trans h.keep.output, Nat.le_trans h.keep.size hkeep.size, fun k hk hne => by
    refine (hkeep.block k (Nat.lt_of_lt_of_le hk h.keep.size) (fun hb => ?_)).trans (h.keep.block k hk hne)
    obtain ⟨p, c0, hp, k1, k2⟩ := hE k hb
    rcases h.mine _ c0 k k1 k2 with h1 | h1
    · omega
    · exact hne h1⟩
  have hfixρ : ∀ i, i < C.fix → ρ' i = C.ρ0 i := fun i hi => by
    by_cases hm : i ∈ ids
    · rcases (hmem i).1 hm with h1 | h1
      · obtain ⟨p, hp, rfl⟩ : ∃ p, p < is.length ∧ nth is p = i := by
          obtain ⟨p, hp⟩ := List.getElem?_of_mem h1
          have hlt := (List.getElem?_eq_some_iff.1 hp).1
          rw [nth_get hlt] at hp
          exact ⟨p, hlt, Option.some.inj hp⟩
        have hpf : p < fix := by
          rcases Nat.lt_or_ge p fix with h2 | h2
          · exact h2
          · have : nth is p ∈ dropN fix is := by
              rw [dropN_eq]
              have h3 : (is.drop fix)[p - fix]? = some (nth is p) := by
                rw [List.getElem?_drop, show fix + (p - fix) = p by omega]; exact nth_get hp
              exact List.mem_of_getElem? h3
            have := o3' _ this
            omega
        have e5 := hρn p (by omega)
        rw [hleft p hp] at e5
        rw [e5, hfix p hpf]
        exact h.fixd.2 _ hi
      · have := h.fixd.1; omega
    · rw [hρo i hm]; exact h.fixd.2 i hi
  have hother : ∀ {i : Nat} {c : Ch}, (i, c) ∈ s.H → i ∉ is → i ∉ ids := fun hic hni hm => by
    rcases (hmem _).1 hm with h1 | h1
    · exact hni h1
    · have := (h.freshH _ _ hic).1; omega
  have hA : SatW C { L := mapL (killIn (dropN fix is)) s.L, H := mapH (killIn (dropN fix is)) (delAll is s.H), m := s.m + n } a w' ρ' F' := by
    refine h.change (killIn (dropN fix is)) (fun u v hu hr => R0.killIn (m := s.m) (fun i hi hni => ?_) hFF hwF hu hr) (fun t v hv => ?_) (fun i c hc => ?_) hFF hwF hlt hkeepC (by omega) (fun k hk => ?_) hfixρ
    · by_cases hm : i ∈ ids
      · rcases (hmem i).1 hm with h1 | h1
        · obtain ⟨p, hp⟩ := List.getElem?_of_mem h1
          have hlt := (List.getElem?_eq_some_iff.1 hp).1
          rw [nth_get hlt] at hp
          obtain rfl := Option.some.inj hp
          have hpf : p < fix := by
            rcases Nat.lt_or_ge p fix with h2 | h2
            · exact h2
            · refine (hni ?_).elim
              rw [dropN_eq]
              have h3 : (is.drop fix)[p - fix]? = some (nth is p) := by
                rw [List.getElem?_drop, show fix + (p - fix) = p by omega]; exact nth_get hlt
              exact List.mem_of_getElem? h3
          rw [← hleft p hlt, hρn p (by omega), hfix p hpf, hleft p hlt]
        · omega
      · exact hρo i hm
    · obtain ⟨v0, h1, rfl⟩ := mem_mapL hv
      exact ⟨⟨v0, h1, rfl⟩, killIn4_fresh (by omega) (h.freshL t v0 h1)⟩
    · obtain ⟨c0, h1, rfl⟩ := mem_mapH hc
      obtain ⟨h1, h2⟩ := delAll_mem h1
      refine ⟨⟨c0, h1, rfl⟩, killInC_fresh (by omega) (h.freshH i c0 h1).2, hρo i (hother h1 h2), fun b e => by rw [bks_map] at e; exact ⟨hkeep.block b ((h.ch i c0 h1).lt e) (fun hb => by
        obtain ⟨p, c1, hp, k1, k2⟩ := hE b hb
        exact h.sep i (nth is p) c0 c1 b h1 k1 (fun e2 => h2 (by rw [e2]; exact nth_mem hp)) e k2), fun hb => by
        rcases hsub b hb with h3 | h3 | h3
        · exact h.out i c0 b h1 e h3
        · have := (h.ch i c0 h1).lt e; omega
        · obtain ⟨p, c1, hp, k1, k2⟩ := hE b h3
          exact h.sep i (nth is p) c0 c1 b h1 k1 (fun e2 => h2 (by rw [e2]; exact nth_mem hp)) e k2⟩⟩
    · rcases hsub k hk with h1 | h1 | h1
      · exact h.sub k h1
      · exact .inr (.inl (Nat.le_trans h.keep.size h1))
      · obtain ⟨p, c0, hp, k1, k2⟩ := hE k h1
        rcases h.mine _ c0 k k1 k2 with h2 | h2
        · exact .inr (.inl h2)
        · exact .inr (.inr h2)
  simp only [freshAll, Bool.and_eq_true, List.all_eq_true] at hfr
  have hfrm : ∀ i, i < H'.length → nth ids i < s.m + n := fun i hi => hidm _ (nth_mem (by omega))
  refine ⟨v, ρ', F', he, ?_, ren_fresh3 hfrm (hfr.1 r (by simp)), ?_⟩
  · have := R3.map (p := fresh H'.length) (k := ren0 ids) (ρ' := ρ') (F' := F') (w' := w') (fun u x hu hr => R0.ren hρk hu hr) (hfr.1 r (by simp)) hr
    exact this
  · have split : ∀ {i : Nat} {c : Ch}, (i, c) ∈ app2 (rnH ids ids H') (mapH (killIn (dropN fix is)) (delAll is s.H)) → (∃ p c0, p < H'.length ∧ nth ids p = i ∧ H'[p]? = some c0 ∧ c = c0.map (ren0 ids)) ∨ (i, c) ∈ mapH (killIn (dropN fix is)) (delAll is s.H) := by
      intro i c hic
      rw [app2_eq, List.mem_append] at hic
      rcases hic with h1 | h1
      · obtain ⟨p, c0, p1, p2, p3, p4⟩ := rnH_of_mem h1
        exact .inl ⟨p, c0, by omega, p2, p3, p4⟩
      · exact .inr h1
    have hnewblk : ∀ p b, p < H'.length → blk (ρc p) = some b → (w.heap.size ≤ b ∨ ownB (fun i => ρ (nth is i)) H b) := fun p b hp e => hmine p b hp e
    have hcross : ∀ {p i : Nat} {c : Ch} {b : Nat}, p < H'.length → (i, c) ∈ mapH (killIn (dropN fix is)) (delAll is s.H) → blk (ρc p) = some b → ¬ bks ρ' i c b := by
      intro p i c b hp hic e e2
      obtain ⟨c0, h1, rfl⟩ := mem_mapH hic
      obtain ⟨h1, h2⟩ := delAll_mem h1
      rw [bks_congr (hρo i (hother h1 h2)), bks_map] at e2
      rcases hnewblk p b hp e with h3 | h3
      · have := (h.ch i c0 h1).lt e2; omega
      · obtain ⟨q, c1, hq, k1, k2⟩ := hE b h3
        exact h.sep i (nth is q) c0 c1 b h1 k1 (fun e3 => h2 (by rw [e3]; exact nth_mem hq)) e2 k2
    exact { size := hA.size, defers := hA.defers, slot := hA.slot, freshL := hA.freshL, lt := hA.lt, sub := hA.sub, base := hA.base, fixd := hA.fixd, keep := hA.keep, env := hA.env
            ch := fun i c hic => by
              rcases split hic with ⟨p, c0, p1, rfl, p3, rfl⟩ | h1
              · exact ChOK.ren hρk p1 (hfr.2 c0 (List.mem_of_getElem? p3)).1 (hhold.ch p c0 p3)
              · exact hA.ch i c h1
            sep := fun i j ci cj b hi hj hij e => by
              rcases split hi with ⟨p, c0, p1, rfl, p3, rfl⟩ | h1
              · have e := bks_plain (by rw [plain_map]; exact (hfr.2 c0 (List.mem_of_getElem? p3)).2) e
                rw [hρk p p1] at e
                rcases split hj with ⟨q, c1, q1, rfl, q3, rfl⟩ | h2
                · intro e2
                  have e2 := bks_plain (by rw [plain_map]; exact (hfr.2 c1 (List.mem_of_getElem? q3)).2) e2
                  rw [hρk q q1] at e2
                  exact hhold.sep p q b p1 q1 (fun e2 => hij (by rw [e2])) e e2
                · exact hcross p1 h2 e
              · rcases split hj with ⟨q, c1, q1, rfl, q3, rfl⟩ | h2
                · intro e2
                  have e2 := bks_plain (by rw [plain_map]; exact (hfr.2 c1 (List.mem_of_getElem? q3)).2) e2
                  rw [hρk q q1] at e2
                  exact hcross q1 h1 e2 e
                · exact hA.sep i j ci cj b h1 h2 hij e
            out := fun i c b hi e => by
              rcases split hi with ⟨p, c0, p1, rfl, p3, rfl⟩ | h1
              · have e := bks_plain (by rw [plain_map]; exact (hfr.2 c0 (List.mem_of_getElem? p3)).2) e
                rw [hρk p p1] at e; exact hhold.out p b p1 e
              · exact hA.out i c b h1 e
            freshH := fun i c hi => by
              rcases split hi with ⟨p, c0, p1, rfl, p3, rfl⟩ | h1
              · exact ⟨hfrm p p1, ren_freshC hfrm (hfr.2 c0 (List.mem_of_getElem? p3)).1⟩
              · exact hA.freshH i c h1
            mine := fun i c b hi e => by
              rcases split hi with ⟨p, c0, p1, rfl, p3, rfl⟩ | h1
              · have e := bks_plain (by rw [plain_map]; exact (hfr.2 c0 (List.mem_of_getElem? p3)).2) e
                rw [hρk p p1] at e
                rcases hnewblk p b p1 e with h3 | h3
                · exact .inl (Nat.le_trans h.keep.size h3)
                · obtain ⟨q, c1, hq, k1, k2⟩ := hE b h3
                  exact h.mine _ c1 b k1 k2
              · exact hA.mine i c b h1 e }

theorem run_call {P : Program} {a : Act} {o : Oper} {c : Call} {fo : Operand} (hop : o.op = .call c) (hc : c.callee = .value fo) {f : FuncId} {cs : Array Value} (hf : a.eval fo = .func (.func f) #[] cs) (hcall : Callable P f) (w : World) :
    (execOp a.eval o).run P w = .ok (.enter f (c.args.map a.eval ++ cs)) w := by
  obtain ⟨fn, h1, h2, h3⟩ := hcall
  have hb : fn.body.isNone = false := by cases hh : fn.body <;> simp_all
  simp only [execOp, hop, resolve, hc, hf, Deferred.ofValue, Sem.run_bind, Sem.run_pure, Result.andThen, invoke, callFunc, program]
  simp [Sem.run, h1, h3, hb]

theorem AEq_sound : ∀ {us vs : List V} {cs : List Value}, AEq us vs → All2 (R3 ρ F w) us cs → All2 (R3 ρ F w) vs cs
  | [], [], _, _, hr => hr
  | u :: us, v :: vs, c :: cs, h, hr => ⟨VEq_sound h.1 hr.1, AEq_sound h.2 hr.2⟩
  | u :: us, v :: vs, [], h, hr => hr.elim
  | [], _ :: _, _, h, _ => h.elim
  | _ :: _, [], _, h, _ => h.elim

/-- A call, carried out in a world. -/
theorem call_run (h : SatW C s a w ρ F) (hfxg : g.fix = C.fix) {q : List (Nat × Bool)} (hq : pcA a.tmps q) {o : Oper} {f : FuncId} {A : List V} (hco : callOf s.L q o = some (f, A))
    {is : List Nat} {fix : Nat} {args : List V} {H H' : List Ch} {r : V} (hp : Proc C.pg f fix args H r H') (hA : AEq A (args.map (V.map3 (ren0 is)))) (hok : okIs g s.m is fix H.length = true) (hH : HLE s.H (rnH is is H)) :
    ∃ vals, (execOp a.eval o).run C.P w = .ok (.enter f vals) w ∧ Calls C.P f vals w (fun e w' => ∃ v ρ' F', e = .returned v ∧ R3 ρ' F' w' (r.map3 (ren0 (app2 is (newIds s.m (H'.length - is.length))))) v ∧ (r.map3 (ren0 (app2 is (newIds s.m (H'.length - is.length))))).all3 (fresh (s.m + (H'.length - is.length))) = true ∧
      SatW C { L := mapL (killIn (dropN fix is)) s.L, H := app2 (rnH (app2 is (newIds s.m (H'.length - is.length))) (app2 is (newIds s.m (H'.length - is.length))) H') (mapH (killIn (dropN fix is)) (delAll is s.H)), m := s.m + (H'.length - is.length) } a w' ρ' F') := by
  obtain ⟨hcall, hfr, hfr', hfx, hHH, hcalls⟩ := hp
  unfold callOf at hco
  split at hco
  · rename_i c hop
    split at hco
    · rename_i fo hc
      split at hco
      · rename_i f' caps A' he hes
        simp only [Option.some.injEq, Prod.mk.injEq] at hco
        obtain ⟨rfl, rfl⟩ := hco
        obtain ⟨cs, hcs, hcaps⟩ := (show R1 ρ F w (.fn f' caps) _ from (ev_sound h hq he).1)
        have hargs := (evs_sound h hq hes).1
        have hok' := hok
        simp only [okIs, Bool.and_eq_true, List.all_eq_true] at hok
        obtain ⟨⟨⟨o1, o2⟩, o3⟩, o4⟩ := hok
        have hisl := Nat.eq_of_beq_eq_true o4
        simp only [freshAll, Bool.and_eq_true, List.all_eq_true] at hfr
        have hvals : c.args.map a.eval ++ cs.toArray = (c.args.toList.map a.eval ++ cs).toArray := by
          cases c.args; simp
        have hall : All2 (R3 ρ F w) (A' ++ caps) (c.args.toList.map a.eval ++ cs) := hargs.app (hcaps.mono fun u v hr => R3_of (R2_of (R1_of hr)))
        have hall2 := AEq_sound hA hall
        have hall3 : All2 (R3 (fun i => ρ (nth is i)) F w) args (c.args.toList.map a.eval ++ cs) := hall2.unmap fun u v hu hr => R3.unren (k := H.length) (fun _ _ => rfl) (hfr.1 u hu) hr
        have hold : Holds (fun i => ρ (nth is i)) F w H := by
          have hx : ∀ i, i < H.length → ∃ c, H[i]? = some c ∧ ∃ c0, (nth is i, c0) ∈ s.H ∧ ChEq c0 (c.map (ren0 is)) := fun i hi => by
            obtain ⟨c0, k1, k2⟩ := rnH_mem hisl hH (List.getElem?_eq_getElem hi)
            exact ⟨_, List.getElem?_eq_getElem hi, c0, k1, k2⟩
          refine ⟨fun i c hc => ?_, fun i j b hi hj hij e => ?_, fun i b hi e => ?_⟩
          · have hi := (List.getElem?_eq_some_iff.1 hc).1
            obtain ⟨c', hc', c0, k1, k2⟩ := hx i hi
            rw [hc] at hc'
            obtain rfl := Option.some.inj hc'
            exact ChOK.unren (k := H.length) (ρ := fun i => ρ (nth is i)) (fun _ _ => rfl) hi (hfr.2 c (List.mem_of_getElem? hc)).1 (ChEq_sound k2 (h.ch _ _ k1))
          · obtain ⟨_, _, c0, k1, _⟩ := hx i hi
            obtain ⟨_, _, c1, k3, _⟩ := hx j hj
            exact fun e2 => h.sep _ _ c0 c1 b k1 k3 (nodupB_sound o1 i j (by omega) (by omega) hij) (bks_main e) (bks_main e2)
          · obtain ⟨_, _, c0, k1, _⟩ := hx i hi
            exact h.out _ c0 b k1 (bks_main e)
        refine ⟨_, run_call hop hc hcs hcall w, ?_⟩
        rw [hvals]
        exact (hcalls w F _ _ h.lt h.env hold hall3).mono fun e w' hpost => SatW.called h hfxg hok' hH hHH hfr' hpost
      · simp at hco
    · simp at hco
  · simp at hco

variable {K : List Item} {Φ : Exit → St → Prop}

/-- **A CALL, BY ITS CONTRACT.** -/
theorem Go.call (hn : g.n = C.n) (hfxg : g.fix = C.fix) {all : Array Oper} {o : Oper} {rest : List Oper} (is : List Nat) {fix : Nat} {args : List V} {H H' : List Ch} {r : V} {f : FuncId} {A : List V} {d : Nat}
    (hp : Proc C.pg f fix args H r H') (hgd : o.guard = none) (hd : o.dst = some d) (hdn : Nat.blt d g.n = true) (hco : callOf s.L [] o = some (f, A)) (hA : AEq A (args.map (V.map3 (ren0 is)))) (hok : okIs g s.m is fix H.length = true) (hH : HLE s.H (rnH is is H))
    (k : Go C (.ops all rest :: K) (after s d is fix r H' []) Φ) : Go C (.ops all (o :: rest) :: K) s Φ := by
  rintro a w ⟨ρ, F, h⟩
  obtain ⟨vals, h1, h2⟩ := call_run h hfxg (pc_nil _) hco hp hA hok hH
  show wqList C.rd C.P all (den C (conc C Φ) K) (o :: rest) a w
  refine wqList_plain hgd fun N hN => ?_
  refine wqO_of h1 trivial ?_
  rw [Oper.upon_enter]
  refine h2.mono ?_
  rintro e w' ⟨v, ρ', F', rfl, r1, r2, r3⟩
  refine hN _ _ ?_
  rw [hd]
  exact k _ _ ⟨ρ', F', r3.put (by rw [← hn]; simpa using hdn) r1 r2⟩

/-- A call under a guard, of a function that keeps to itself: its contract is wanted where the guard holds. -/
theorem Go.callG (hn : g.n = C.n) (hfxg : g.fix = C.fix) {all : Array Oper} {o : Oper} {rest : List Oper} {args : List V} {r : V} {f : FuncId} {A : List V} {d j : Nat} {u : Bool} {q : List (Nat × Bool)}
    (hgd : o.guard = some (j, u)) (hgp : gpath s.L all j u = some q) (hd : o.dst = some d) (hdn : (Nat.blt d g.n && !(q.any fun e => Nat.beq e.1 d) && r.all3 (fresh 0)) = true) (hco : callOf s.L q o = some (f, A))
    (hp : imp s.L q (Pure C.pg f args r [])) (hA : AEq A (args.map (V.map3 (ren0 [])))) (hok : okIs g s.m [] 0 0 = true)
    (k : Go C (.ops all rest :: K) { s with L := put s.L d (.g q r) } Φ) : Go C (.ops all (o :: rest) :: K) s Φ := by
  rintro a w ⟨ρ, F, h⟩
  simp only [Bool.and_eq_true, Bool.not_eq_true'] at hdn
  obtain ⟨⟨b1, b2⟩, b3⟩ := hdn
  have hgs := gpath_sound h hgp
  have hwant : Region.wanted o (yielded all a.tmps) = true ↔ pcA a.tmps q := by rw [← hgs]; simp [Region.wanted, hgd]
  show wqList C.rd C.P all (den C (conc C Φ) K) (o :: rest) a w
  refine wqList_step fun N hN => ?_
  cases hw : Region.wanted o (yielded all a.tmps) with
  | true =>
    have hpc := hwant.1 hw
    have hp := imp_sound h hpc hp
    obtain ⟨vals, h1, h2⟩ := call_run h hfxg hpc hco hp hA hok trivial
    simp only [if_true]
    refine wqO_of h1 trivial ?_
    rw [Oper.upon_enter]
    refine h2.mono ?_
    rintro e w' ⟨v, ρ', F', rfl, r1, r2, r3⟩
    refine hN _ _ ?_
    rw [hd]
    have hr0 : ∀ u v, fresh 0 u = true → R0 ρ' F' w' (ren0 ([] : List Nat) u) v → R0 ρ' F' w' u v := fun u v hu hr => by cases u <;> first | exact hr | simp [fresh] at hu
    have r1' : R3 ρ' F' w' r v := R3.unren (ρ := ρ') (k := 0) (fun i hi => by omega) b3 r1
    have hid : mapL (killIn (dropN 0 [])) s.L = s.L := by
      have hk : (killIn (dropN 0 ([] : List Nat))) = fun u => u := by funext u; cases u <;> rfl
      rw [hk]
      have : ∀ L, mapL (fun u => u) L = L := fun L => by induction L with
        | nil => rfl
        | cons e L ih => simp [mapL, map4_id, ih]
      exact this _
    have hidH : mapH (killIn (dropN 0 [])) (delAll [] s.H) = s.H := by
      have hk : (killIn (dropN 0 ([] : List Nat))) = fun u => u := by funext u; cases u <;> rfl
      rw [hk]
      have h0 : ∀ H, delAll [] H = H := fun H => by induction H with
        | nil => rfl
        | cons e L ih => simp [delAll, inL, ih]
      have : ∀ L, mapH (fun u => u) L = L := fun L => by induction L with
        | nil => rfl
        | cons e L ih => simp [mapH, chmap_id, ih]
      rw [h0, this]
    have r3' : SatW C s a w' ρ' F' := by
      rw [hid, hidH] at r3
      exact r3
    exact k _ _ ⟨ρ', F', r3'.putS (by rw [← hn]; simpa using b1) ⟨fun _ => r1', fun hno => (hno ((pcA_put b2).2 hpc)).elim⟩ (all3_imp (fun u hu => fresh_mono (Nat.zero_le _) hu) b3)⟩
  | false =>
    simp only [Bool.false_eq_true, if_false]
    have hpc : ¬ pcA a.tmps q := fun hc => by rw [hwant.2 hc] at hw; cases hw
    refine hN _ _ ?_
    rw [hd]
    exact k _ _ ⟨ρ, F, h.putS (by rw [← hn]; simpa using b1) ⟨fun hc => (hpc ((pcA_put b2).1 hc)).elim, fun _ => rfl⟩ (all3_imp (fun u hu => fresh_mono (Nat.zero_le _) hu) b3)⟩
end
end Go.Sx
