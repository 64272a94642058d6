/-
  Sx, part 15: the machine is right.
-/
import Derived.Test.YtdgopbgckdnncaaSx14
set_option linter.unusedVariables false
set_option linter.unusedSimpArgs false
namespace Go.Sx
section
variable {C : Ctx} {Q : Exit → Act → World → Prop} {a : Act} {w : World}

theorem den_exit_some {id : Nat} : ∀ {K K' : List Item}, popTo id K = some K' → den C Q K (.exit id) a w = den C Q K' .normal a w
  | .blk i :: K, K', h => by
    simp only [popTo] at h
    cases hi : Nat.beq i id with
    | true =>
      rw [hi] at h
      simp only [cond_true, Option.some.injEq] at h
      subst h
      have := Nat.eq_of_beq_eq_true hi
      subst this
      simp [den, Exit.inBlock]
    | false =>
      rw [hi] at h
      simp only [cond_false] at h
      have : id ≠ i := by rintro rfl; simp at hi
      simp only [den, Exit.inBlock, this, if_false]
      exact den_exit_some h
  | .code c :: K, K', h => by simp only [den]; exact den_exit_some (K := K) h
  | .ops _ _ :: K, K', h => by simp only [den]; exact den_exit_some (K := K) h
  | .back _ :: K, K', h => by simp only [den]; exact den_exit_some (K := K) h

theorem den_exit_none {id : Nat} : ∀ {K : List Item}, popTo id K = none → den C Q K (.exit id) a w = Q (.exit id) a w
  | [], _ => rfl
  | .blk i :: K, h => by
    simp only [popTo] at h
    cases hi : Nat.beq i id with
    | true => rw [hi] at h; simp at h
    | false =>
      rw [hi] at h
      simp only [cond_false] at h
      have : id ≠ i := by rintro rfl; simp at hi
      simp only [den, Exit.inBlock, this, if_false]
      exact den_exit_none h
  | .code c :: K, h => by simp only [den]; exact den_exit_none (K := K) h
  | .ops _ _ :: K, h => by simp only [den]; exact den_exit_none (K := K) h
  | .back _ :: K, h => by simp only [den]; exact den_exit_none (K := K) h

theorem den_ret : ∀ {K : List Item}, den C Q K .ret a w = Q .ret a w
  | [] => rfl
  | .blk i :: K => by simp only [den, Exit.inBlock]; exact den_ret
  | .code c :: K => by simp only [den]; exact den_ret
  | .ops _ _ :: K => by simp only [den]; exact den_ret
  | .back _ :: K => by simp only [den]; exact den_ret
theorem den_goto {l : Nat} : ∀ {K : List Item}, den C Q K (.goto l) a w = Q (.goto l) a w
  | [] => rfl
  | .blk i :: K => by simp only [den, Exit.inBlock]; exact den_goto
  | .code c :: K => by simp only [den]; exact den_goto
  | .ops _ _ :: K => by simp only [den]; exact den_goto
  | .back _ :: K => by simp only [den]; exact den_goto

theorem den_code (c : Code) (K : List Item) : den C Q (.code c :: K) .normal a w = c.wp C.P (den C Q K) a w := rfl

theorem den_then (c : Code) (K : List Item) : den C Q (.code c :: K) = Exit.then (c.wp C.P (den C Q K)) (den C Q K) := by
  funext e a w; cases e <;> rfl

theorem wp_seq_den {x y : Code} {K : List Item} (h : den C Q (.code x :: .code y :: K) .normal a w) : den C Q (.code (.seq x y) :: K) .normal a w := by
  rw [den_code] at *
  refine wp_seq ?_
  rwa [den_then] at h

theorem wp_block_den {id : Nat} {b : Code} {K : List Item} (h : den C Q (.code b :: .blk id :: K) .normal a w) : den C Q (.code (.block id b) :: K) .normal a w := by
  rw [den_code] at *
  exact wp_block h

theorem wp_region_den {id : Nat} {ops : Array Oper} {K : List Item} (h : den C Q (.ops ops ops.toList :: K) .normal a w) : den C Q (.code (.region id ops false) :: K) .normal a w := by
  rw [den_code]
  exact wp_region_list h

theorem ops_next {all : Array Oper} {o : Oper} {rest : List Oper} {K : List Item} (hg : o.guard = none) {x : Value} {w' : World}
    (hr : (execOp a.eval o).run C.P w = .ok (.value x) w' ∨ ((execOp a.eval o).run C.P w = .ok .skip w' ∧ x = undef))
    (h : den C Q (.ops all rest :: K) .normal (a.put o.dst x) w') : den C Q (.ops all (o :: rest) :: K) .normal a w := by
  show wpList C.P all (den C Q K) (o :: rest) a w
  refine wpList_plain hg fun N hN => ?_
  unfold Oper.wp
  rcases hr with hr | ⟨hr, rfl⟩
  · rw [hr]; exact hN _ _ h
  · rw [hr]; exact hN _ _ h

theorem ops_guarded {all : Array Oper} {o : Oper} {rest : List Oper} {K : List Item} {x : Value}
    (hyes : Region.wanted o (yielded all a.tmps) = true → (execOp a.eval o).run C.P w = .ok (.value x) w)
    (hno : Region.wanted o (yielded all a.tmps) = false → x = undef)
    (h : den C Q (.ops all rest :: K) .normal (a.put o.dst x) w) : den C Q (.ops all (o :: rest) :: K) .normal a w := by
  show wpList C.P all (den C Q K) (o :: rest) a w
  refine wpList_step fun N hN => ?_
  cases hw : Region.wanted o (yielded all a.tmps) with
  | true =>
    simp only [if_true]
    unfold Oper.wp
    rw [hyes hw]
    exact hN _ _ h
  | false =>
    simp only [Bool.false_eq_true, if_false]
    rw [← hno hw]
    exact hN _ _ h
end

section
variable {C : Ctx} {s : St} {a : Act} {w : World} {ρ : Nat → Value} {F : Nat → Prop} {g : Cfg}

theorem imp_sound (h : SatW C s a w ρ F) : ∀ {q : List (Nat × Bool)} {P : Prop}, pcA a.tmps q → imp s.L q P → P
  | [], P, _, hp => hp
  | (t, u) :: q, P, hq, hp => by
    have hq' : pcA a.tmps q := fun e he => hq e (by simp [he])
    have ht : a.tmps[t]? = some (.bool u) := hq (t, u) (by simp)
    simp only [imp] at hp
    split at hp
    · rename_i b hb
      obtain ⟨x, hx, hr⟩ := h.slot t _ (get_mem hb)
      rw [ht] at hx
      obtain rfl := Option.some.inj hx
      cases (show RD F w _ _ from hr)
      exact imp_sound h hq' (hp rfl)
    · rename_i p b hb
      obtain ⟨x, hx, hr⟩ := h.slot t _ (get_mem hb)
      rw [ht] at hx
      obtain rfl := Option.some.inj hx
      by_cases hpc : pcA a.tmps p
      · cases (show RD F w _ _ from hr.1 hpc)
        exact imp_sound h hq' (hp rfl)
      · have := hr.2 hpc
        simp [undef] at this
    · exact imp_sound h hq' hp

theorem imps_sound (h : SatW C s a w ρ F) {q : List (Nat × Bool)} (hq : pcA a.tmps q) : ∀ {l : List Prop}, AllP (imps s.L q l) → AllP l
  | [], _ => trivial
  | p :: r, hp => by
    simp only [imps, AllP_cons] at hp ⊢
    exact ⟨imp_sound h hq hp.1, imps_sound h hq hp.2⟩

theorem gpath_sound (h : SatW C s a w ρ F) {all : Array Oper} {j : Nat} {u : Bool} {q : List (Nat × Bool)} (hg : gpath s.L all j u = some q) : (yielded all a.tmps j = some u ↔ pcA a.tmps q) := by
  unfold gpath at hg
  split at hg
  · rename_i o ho
    split at hg
    · rename_i t ht
      have hy : yielded all a.tmps j = match a.tmps[t]? with | some (.bool b) => some b | _ => none := by
        have : all[j]? = some o := by simpa using ho
        unfold yielded
        rw [this]
        simp only [Option.bind_some, ht]
        rfl
      split at hg
      · rename_i b hb
        simp only [Option.some.injEq] at hg
        subst hg
        obtain ⟨x, hx, hr⟩ := h.slot t _ (get_mem hb)
        cases (show RD F w _ _ from hr)
        rw [hy, hx]
        simp [pcA, hx]
      · rename_i p b hb
        simp only [Option.some.injEq] at hg
        subst hg
        obtain ⟨x, hx, hr⟩ := h.slot t _ (get_mem hb)
        have happ : pcA a.tmps (p ++ [(t, u)]) ↔ pcA a.tmps p ∧ a.tmps[t]? = some (.bool u) := by
          unfold pcA
          simp only [List.mem_append, List.mem_singleton]
          exact ⟨fun H => ⟨fun e he => H e (.inl he), H (t, u) (.inr rfl)⟩, fun H e he => by
            rcases he with he | rfl
            · exact H.1 e he
            · exact H.2⟩
        rw [hy, happ, hx]
        by_cases hpc : pcA a.tmps p
        · cases (show RD F w _ _ from hr.1 hpc)
          simp [hpc]
        · have := hr.2 hpc
          subst this
          simp [hpc, undef]
      · simp at hg
    · simp at hg
  · simp at hg

theorem AllP_app {a b : List Prop} (h : AllP (a ++ b)) : AllP a ∧ AllP b := (AllP_append a b).1 h

set_option maxHeartbeats 1000000 in
theorem run_holds (hg : TysOK C.P g.tys) (hn : g.n = C.n) (hfx : g.fix = C.fix) {Φ : Exit → St → Prop} : ∀ (n : Nat) (K : List Item) (s : St) (ob : List Prop), (run g n K s ob).holds C Φ → AllP ob ∧ Go C K s Φ := by
  intro n
  induction n with
  | zero => intro K s ob h; exact h.elim
  | succ n ih =>
    intro K s ob h
    unfold run at h
    split at h
    · -- []
      rw [fS_eq, fO_eq] at h
      exact ⟨h.1, fun a w hs => ⟨s, hs, h.2⟩⟩
    · obtain ⟨h1, h2⟩ := ih _ _ _ h
      exact ⟨h1, fun a w hs => h2 a w hs⟩
    · rw [fS_eq, fO_eq] at h
      exact ⟨h.1, fun a w hs => ⟨s, hs, h.2⟩⟩
    · -- code
      split at h
      · obtain ⟨h1, h2⟩ := ih _ _ _ h
        exact ⟨h1, fun a w hs => wp_skip (h2 a w hs)⟩
      · obtain ⟨h1, h2⟩ := ih _ _ _ h
        exact ⟨h1, fun a w hs => wp_label (h2 a w hs)⟩
      · obtain ⟨h1, h2⟩ := ih _ _ _ h
        exact ⟨h1, fun a w hs => wp_seq_den (h2 a w hs)⟩
      · obtain ⟨h1, h2⟩ := ih _ _ _ h
        exact ⟨h1, fun a w hs => wp_block_den (h2 a w hs)⟩
      · obtain ⟨h1, h2⟩ := ih _ _ _ h
        exact ⟨h1, fun a w hs => wp_region_den (h2 a w hs)⟩
      · rename_i c x y
        split at h
        · rename_i b hb
          rw [fS_eq, fO_eq] at h
          refine ⟨h.1, fun a w hs => ?_⟩
          obtain ⟨ρ, F, hw⟩ := hs
          have hr := (ev_sound hw (pc_nil _) hb).1
          have hv : a.eval c = .bool b := by
            generalize a.eval c = v at hr
            cases (show RD F w _ _ from hr); rfl
          rw [den_code]
          exact wp_cond_split hv (fun hb => h.2.1 hb a w ⟨ρ, F, hw⟩) (fun hb => h.2.2 hb a w ⟨ρ, F, hw⟩)
        · exact h.elim
      · rw [fS_eq, fO_eq] at h; exact h
      · split at h
        · rename_i id K' hp
          obtain ⟨h1, h2⟩ := ih _ _ _ h
          refine ⟨h1, fun a w hs => ?_⟩
          rw [den_code]
          refine wp_exit ?_
          rw [den_exit_some hp]
          exact h2 a w hs
        · rename_i id hp
          rw [fS_eq, fO_eq] at h
          refine ⟨h.1, fun a w hs => ?_⟩
          rw [den_code]
          refine wp_exit ?_
          rw [den_exit_none hp]
          exact ⟨s, hs, h.2⟩
      · rw [fS_eq, fO_eq] at h
        refine ⟨h.1, fun a w hs => ?_⟩
        rw [den_code]
        refine wp_goto ?_
        rw [den_goto]
        exact ⟨s, hs, h.2⟩
      · rw [fS_eq, fO_eq] at h
        refine ⟨h.1, fun a w hs => ?_⟩
        rw [den_code]
        refine wp_ret ?_
        rw [den_ret]
        exact ⟨s, hs, h.2⟩
      · rw [fS_eq, fO_eq] at h; exact h
    · -- ops
      split at h
      · obtain ⟨h1, h2⟩ := ih _ _ _ h
        exact ⟨h1, fun a w hs => h2 a w hs⟩
      · rename_i all K l o rest
        split at h
        · rename_i hgd
          split at h
          · rename_i v p hrd
            split at h
            · rename_i d hd
              cases hb : Nat.blt d g.n with
              | false => rw [hb] at h; exact h.elim
              | true =>
                rw [hb] at h
                simp only [cond_true, f3_eq, fL_eq, fA_eq] at h
                obtain ⟨h1, h2⟩ := ih _ _ _ h
                obtain ⟨h3, h4⟩ := AllP_app h1
                refine ⟨h3, fun a w hs => ?_⟩
                obtain ⟨ρ, F, hw⟩ := hs
                obtain ⟨x, r1, r2, r3⟩ := rd_sound hg hw (pc_nil _) hrd h4
                refine ops_next hgd (.inl (r3 w fun _ _ => rfl)) ?_
                rw [hd]
                exact h2 _ _ ⟨ρ, F, hw.put (by rw [← hn]; simpa using hb) r1 r2⟩
            · exact h.elim
          · split at h
            · rename_i s' p hef
              simp only [fS_eq, fA_eq] at h
              obtain ⟨h1, h2⟩ := ih _ _ _ h
              obtain ⟨h3, h4⟩ := AllP_app h1
              refine ⟨h3, fun a w hs => ?_⟩
              obtain ⟨ρ, F, hw⟩ := hs
              obtain ⟨x, w', r1, r2⟩ := ef_sound hg hn hfx hw hef h4
              exact ops_next hgd r1 (h2 _ _ r2)
            · rw [fS_eq, fO_eq] at h; exact h
        · rename_i j u hgd
          split at h
          · exact h.elim
          · rename_i q hq
            split at h
            · rename_i v p hrd
              split at h
              · rename_i d hd
                cases hb : (Nat.blt d g.n && !(q.any fun e => Nat.beq e.1 d) && v.all3 (fresh s.m)) with
                | false => rw [hb] at h; exact h.elim
                | true =>
                  rw [hb] at h
                  simp only [cond_true, fIs_eq, f3_eq, fL_eq, fP_eq, fA_eq] at h
                  simp only [Bool.and_eq_true, Bool.not_eq_true'] at hb
                  obtain ⟨⟨b1, b2⟩, b3⟩ := hb
                  obtain ⟨h1, h2⟩ := ih _ _ _ h
                  obtain ⟨h3, h4⟩ := AllP_app h1
                  refine ⟨h3, fun a w hs => ?_⟩
                  obtain ⟨ρ, F, hw⟩ := hs
                  have hgp := gpath_sound hw hq
                  have hwant : Region.wanted o (yielded all a.tmps) = true ↔ pcA a.tmps q := by
                    rw [← hgp]; simp [Region.wanted, hgd]
                  by_cases hpc : pcA a.tmps q
                  · obtain ⟨x, r1, r2, r3⟩ := rd_sound hg hw hpc hrd (imps_sound hw hpc h4)
                    refine ops_guarded (x := x) (fun _ => r3 w fun _ _ => rfl) (fun hno => by rw [hwant.2 hpc] at hno; simp at hno) ?_
                    rw [hd]
                    exact h2 _ _ ⟨ρ, F, hw.putS (by rw [← hn]; simpa using b1) ⟨fun _ => r1, fun hno => (hno ((pcA_put b2).2 hpc)).elim⟩ b3⟩
                  · refine ops_guarded (x := undef) (fun hyes => (hpc (hwant.1 hyes)).elim) (fun _ => rfl) ?_
                    rw [hd]
                    exact h2 _ _ ⟨ρ, F, hw.putS (by rw [← hn]; simpa using b1) ⟨fun hp => (hpc ((pcA_put b2).1 hp)).elim, fun _ => rfl⟩ b3⟩
              · exact h.elim
            · rw [fS_eq, fO_eq] at h; exact h
end
end Go.Sx
