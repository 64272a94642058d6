/- The order in which nodes are told: each that is reached once; what leads to one that is told later lies in a circle. -/
import Derived.Test.YtdgopbgckdnncaaT10J
namespace Go.Proofs.Ytdgopbgckdnncaa
open Go.Sx
set_option linter.unusedVariables false
set_option linter.unusedSimpArgs false
set_option maxRecDepth 100000

/-- What a visit tells: each node that it marks, once; and what each of these leads to is told ahead of it, or leads back to it. -/
structure Told (to : List (List Int)) (st st' : DS) (new : List Int) : Prop where
  app : st'.2 = st.2 ++ new
  nodup : new.Nodup
  mem : ∀ v : Nat, (v : Int) ∈ new ↔ (st'.1 v = true ∧ st.1 v = false)
  pos : ∀ y ∈ new, 0 ≤ y

theorem Told.nil (to : List (List Int)) (st : DS) : Told to st st [] :=
  ⟨by simp, List.nodup_nil, fun v => ⟨fun h => (by cases h), fun h => by rw [h.1] at h; cases h.2⟩, fun y h => by cases h⟩
theorem Told.trans {to : List (List Int)} {a b c : DS} {l m : List Int} (hab : LeB a.1 b.1) (hbc : LeB b.1 c.1) (h1 : Told to a b l) (h2 : Told to b c m) : Told to a c (l ++ m) where
  app := by rw [h2.app, h1.app, List.append_assoc]
  nodup := by
    rw [List.nodup_append]
    refine ⟨h1.nodup, h2.nodup, fun x hx y hy e => ?_⟩
    subst e
    have hp := h1.pos x hx
    rw [show x = ((x.toNat : Nat) : Int) by omega] at hx hy
    have e1 := ((h1.mem _).1 hx).1
    have e2 := ((h2.mem _).1 hy).2
    rw [e1] at e2; cases e2
  mem v := by
    rw [List.mem_append, h1.mem, h2.mem]
    constructor
    · rintro (⟨e1, e2⟩ | ⟨e1, e2⟩)
      · exact ⟨hbc _ e1, e2⟩
      · refine ⟨e1, ?_⟩
        cases h : a.1 v with
        | false => rfl
        | true => rw [hab v h] at e2; cases e2
    · rintro ⟨e1, e2⟩
      cases h : b.1 v with
      | true => exact .inl ⟨rfl, e2⟩
      | false => exact .inr ⟨e1, rfl⟩
  pos y hy := by
    rcases List.mem_append.1 hy with hy | hy
    · exact h1.pos y hy
    · exact h2.pos y hy

theorem visit_told {to : List (List Int)} (hg : GOK to) (fu : Nat) : ∀ (i : Nat) (st : DS), i < to.length → st.1 i = false → freeN to.length st.1 ≤ fu → ∃ new, Told to st (visit to fu i st) new ∧ ∃ l, new = l ++ [(i : Int)] := by
  induction fu with
  | zero => exact fun i st hi hb hf => absurd (freeN_pos hi hb) (by omega)
  | succ fu ih =>
    intro i st hi hb hf
    have hf2 := freeN_set hi hb
    have step : ∀ k, k ≤ (to.getD i []).length → ∃ new, Told to (setB st.1 i, st.2) (foldV to fu i st k) new := fun k => by
      induction k with
      | zero => exact fun _ => ⟨[], Told.nil _ _⟩
      | succ k ih2 =>
        intro hk
        obtain ⟨l, hl⟩ := ih2 (by omega)
        rw [foldV_succ to fu i st (by omega)]
        unfold stepV
        split
        · exact ⟨l, hl⟩
        · rename_i hy
          have hin := gok_in hg hi (k := k) (by omega)
          have hm := freeN_le (foldV_mono to fu i st k (by omega)) to.length
          obtain ⟨m, hm2, _⟩ := ih ((to.getD i []).getD k 0).toNat (foldV to fu i st k) (by omega) (by simpa using hy) (by omega)
          exact ⟨l ++ m, hl.trans (foldV_mono to fu i st k (by omega)) (visit_mono _ _ _ _) hm2⟩
    obtain ⟨l, hl⟩ := step _ (Nat.le_refl _)
    refine ⟨l ++ [(i : Int)], ?_, l, rfl⟩
    rw [visit_eq]
    have hii : (foldV to fu i st (to.getD i []).length).1 i = true := foldV_mono to fu i st _ (Nat.le_refl _) i (by simp [setB])
    have hno : (i : Int) ∉ l := fun h => by
      have := ((hl.mem i).1 h).2
      simp [setB] at this
    refine ⟨by show (foldV to fu i st (to.getD i []).length).2 ++ [(i : Int)] = st.2 ++ (l ++ [(i : Int)]); rw [hl.app, List.append_assoc], ?_, fun v => ?_, fun y hy => ?_⟩
    · rw [List.nodup_append]
      exact ⟨hl.nodup, by simp, fun x hx y hy e => by simp at hy; subst hy; subst e; exact hno hx⟩
    · rw [List.mem_append, hl.mem, List.mem_singleton]
      constructor
      · rintro (⟨e1, e2⟩ | e1)
        · refine ⟨e1, ?_⟩
          have e2 : (if v = i then true else st.1 v) = false := e2
          by_cases hv : v = i
          · rw [if_pos hv] at e2; cases e2
          · rw [if_neg hv] at e2; exact e2
        · obtain rfl : v = i := by omega
          exact ⟨hii, hb⟩
      · rintro ⟨e1, e2⟩
        by_cases hv : v = i
        · exact .inr (by omega)
        · exact .inl ⟨e1, by simp [setB, hv, e2]⟩
    · rcases List.mem_append.1 hy with hy | hy
      · exact hl.pos y hy
      · rw [List.mem_singleton.1 hy]; omega

theorem foldV_marked {to : List (List Int)} (hg : GOK to) (fu : Nat) {i : Nat} {st : DS} (hi : i < to.length) (hb : st.1 i = false) (hf : freeN to.length st.1 ≤ fu + 1) : ∀ k, k ≤ (to.getD i []).length → ∀ j, j < k → (foldV to fu i st k).1 ((to.getD i []).getD j 0).toNat = true := fun k => by
  have hf2 := freeN_set hi hb
  induction k with
  | zero => exact fun _ j hj => absurd hj (Nat.not_lt_zero _)
  | succ k ih =>
    intro hk j hj
    rw [foldV_succ to fu i st (by omega)]
    have hin := gok_in hg hi (k := k) (by omega)
    have hm := freeN_le (foldV_mono to fu i st k (by omega)) to.length
    rcases Nat.lt_or_ge j k with h1 | h1
    · exact stepV_mono _ _ _ _ _ (ih (by omega) j h1)
    · obtain rfl : j = k := by omega
      unfold stepV
      split
      · assumption
      · rename_i hy
        exact (visit_closed hg fu ((to.getD i []).getD j 0).toNat (foldV to fu i st j) (by omega) (by simpa using hy) (by omega)).1
theorem foldV_told {to : List (List Int)} (hg : GOK to) (fu : Nat) {i : Nat} {st : DS} (hi : i < to.length) (hb : st.1 i = false) (hf : freeN to.length st.1 ≤ fu + 1) : ∀ k, k ≤ (to.getD i []).length → ∃ new, Told to (setB st.1 i, st.2) (foldV to fu i st k) new := fun k => by
  have hf2 := freeN_set hi hb
  induction k with
  | zero => exact fun _ => ⟨[], Told.nil _ _⟩
  | succ k ih2 =>
    intro hk
    obtain ⟨l, hl⟩ := ih2 (by omega)
    rw [foldV_succ to fu i st (by omega)]
    unfold stepV
    split
    · exact ⟨l, hl⟩
    · rename_i hy
      have hin := gok_in hg hi (k := k) (by omega)
      have hm := freeN_le (foldV_mono to fu i st k (by omega)) to.length
      obtain ⟨m, hm2, _⟩ := visit_told hg fu ((to.getD i []).getD k 0).toNat (foldV to fu i st k) (by omega) (by simpa using hy) (by omega)
      exact ⟨l ++ m, hl.trans (foldV_mono to fu i st k (by omega)) (visit_mono _ _ _ _) hm2⟩

/-- Whoever is marked and not told leads to i. -/
def Gray (to : List (List Int)) (st : DS) (i : Nat) : Prop := ∀ v : Nat, st.1 v = true → (v : Int) ∉ st.2 → Way to (-1) v i
/-- What a node that is told leads to was told ahead of it, or leads back. -/
def Ahead (to : List (List Int)) (n : Nat) (out : List Int) : Prop := ∀ p, n ≤ p → p < out.length → ∀ v ∈ to.getD (out.getD p 0).toNat [], (∃ q, q < p ∧ out.getD q 0 = v) ∨ Way to (-1) v.toNat (out.getD p 0).toNat

theorem getD_app {l m : List Int} {p : Nat} (h : p < l.length) : (l ++ m).getD p 0 = l.getD p 0 := by
  rw [List.getD_eq_getElem?_getD, List.getElem?_append_left h, ← List.getD_eq_getElem?_getD]
theorem Ahead.trans {to : List (List Int)} {n : Nat} {l m : List Int} (h1 : Ahead to n l) (h2 : Ahead to l.length (l ++ m)) : Ahead to n (l ++ m) := by
  intro p hp hpl v hv
  rcases Nat.lt_or_ge p l.length with h | h
  · rw [getD_app h] at hv ⊢
    rcases h1 p hp h v hv with ⟨q, hq, e⟩ | hw
    · exact .inl ⟨q, hq, by rw [getD_app (by omega)]; exact e⟩
    · exact .inr hw
  · exact h2 p h hpl v hv

theorem visit_ahead {to : List (List Int)} (hg : GOK to) (fu : Nat) : ∀ (i : Nat) (st : DS), i < to.length → st.1 i = false → freeN to.length st.1 ≤ fu → Gray to st i → (∀ v : Nat, (v : Int) ∈ st.2 → st.1 v = true) → Ahead to st.2.length (visit to fu i st).2 := by
  induction fu with
  | zero => exact fun i st hi hb hf => absurd (freeN_pos hi hb) (by omega)
  | succ fu ih =>
    intro i st hi hb hf hgr hsub
    have hf2 := freeN_set hi hb
    -- whoever is marked and not told, on the way
    have gray : ∀ k, k ≤ (to.getD i []).length → Gray to (foldV to fu i st k) i := fun k hk v hv hno => by
      obtain ⟨l, hl⟩ := foldV_told hg fu hi hb hf k hk
      rw [hl.app, List.mem_append] at hno
      cases h : setB st.1 i v with
      | false => exact absurd (.inr ((hl.mem v).2 ⟨hv, h⟩)) hno
      | true =>
        have h : (if v = i then true else st.1 v) = true := h
        by_cases hvi : v = i
        · subst hvi; exact .here (by omega)
        · rw [if_neg hvi] at h
          exact hgr v h (fun hm => hno (.inl hm))
    have step : ∀ k, k ≤ (to.getD i []).length → Ahead to st.2.length (foldV to fu i st k).2 := fun k => by
      induction k with
      | zero => exact fun _ p hp hpl => absurd hpl (by rw [foldV_zero]; show ¬ p < st.2.length; omega)
      | succ k ih2 =>
        intro hk
        have h1 := ih2 (by omega)
        have hgk := gray k (by omega)
        rw [foldV_succ to fu i st (by omega)]
        unfold stepV
        split
        · exact h1
        · rename_i hy
          have hin := gok_in hg hi (k := k) (by omega)
          have hm := freeN_le (foldV_mono to fu i st k (by omega)) to.length
          obtain ⟨m, hm2, _⟩ := visit_told hg fu ((to.getD i []).getD k 0).toNat (foldV to fu i st k) (by omega) (by simpa using hy) (by omega)
          have h2 := ih ((to.getD i []).getD k 0).toNat (foldV to fu i st k) (by omega) (by simpa using hy) (by omega) (fun v hv hno => (hgk v hv hno).trans (.step (.here (by omega)) (getD_in (by omega : k < (to.getD i []).length)) (by omega))) (fun v hv => by
            obtain ⟨l, hl⟩ := foldV_told hg fu hi hb hf k (by omega)
            rw [hl.app, List.mem_append] at hv
            rcases hv with hv | hv
            · exact foldV_mono to fu i st k (by omega) v (leB_set _ _ _ (hsub v hv))
            · exact ((hl.mem v).1 hv).1)
          rw [hm2.app] at h2 ⊢
          exact h1.trans h2
    have h1 := step _ (Nat.le_refl _)
    rw [visit_eq]
    refine h1.trans fun p hp hpl v hv => ?_
    have hp : p = (foldV to fu i st (to.getD i []).length).2.length := by
      simp only [List.length_append, List.length_singleton] at hpl
      omega
    have hu : ((foldV to fu i st (to.getD i []).length).2 ++ [(i : Int)]).getD p 0 = i := by
      rw [hp, List.getD_eq_getElem?_getD, List.getElem?_append_right (Nat.le_refl _)]; simp
    rw [hu, Int.toNat_natCast] at hv ⊢
    obtain ⟨j, hj, rfl⟩ := List.getElem_of_mem hv
    rw [getD_at hj]
    have hmk := foldV_marked hg fu hi hb hf _ (Nat.le_refl _) j hj
    have hij := gok_in hg hi hj
    by_cases hmem : (to.getD i []).getD j 0 ∈ (foldV to fu i st (to.getD i []).length).2
    · obtain ⟨q, hq, e⟩ := List.getElem_of_mem hmem
      exact .inl ⟨q, by omega, by rw [getD_app hq, ← getD_at hq]; exact e⟩
    · refine .inr (gray _ (Nat.le_refl _) _ hmk ?_)
      rwa [show ((((to.getD i []).getD j 0).toNat : Nat) : Int) = (to.getD i []).getD j 0 by omega]

/-! ### what the whole order is -/
theorem post_facts {to : List (List Int)} (hg : GOK to) : (post to).Nodup ∧ (∀ v : Nat, (v : Int) ∈ post to ↔ seen to 0 v = true) ∧ (∀ y ∈ post to, 0 ≤ y ∧ y < to.length) ∧ (∃ l, post to = l ++ [0]) ∧ Ahead to 0 (post to) := by
  have hf : freeN to.length (fun _ => false) ≤ to.length + 1 := by rw [freeN_no]; omega
  obtain ⟨new, ht, l, hl⟩ := visit_told hg (to.length + 1) 0 (fun _ => false, []) hg.1 rfl hf
  have e : post to = new := by
    have := ht.app
    unfold post
    rw [this]; rfl
  rw [e]
  have hm : ∀ v : Nat, (v : Int) ∈ new ↔ seen to 0 v = true := fun v => by
    rw [ht.mem v]
    exact ⟨fun h => h.1, fun h => ⟨h, rfl⟩⟩
  refine ⟨ht.nodup, hm, fun y hy => ?_, ⟨l, hl⟩, ?_⟩
  · have hp := ht.pos y hy
    rw [show y = ((y.toNat : Nat) : Int) by omega] at hy
    have := ((seen_iff hg hg.1 _).1 ((hm _).1 hy)).lt hg hg.1
    omega
  · have := visit_ahead hg (to.length + 1) 0 (fun _ => false, []) hg.1 rfl hf (fun v hv => by cases hv) (fun v hv => by cases hv)
    rw [ht.app] at this
    exact this
end Go.Proofs.Ytdgopbgckdnncaa
