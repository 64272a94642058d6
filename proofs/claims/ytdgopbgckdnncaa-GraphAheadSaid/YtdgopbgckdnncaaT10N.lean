/- The law GraphAhead. -/
import Derived.Test.YtdgopbgckdnncaaT10M
namespace Go.Proofs.Ytdgopbgckdnncaa
open Go.Sx
set_option linter.unusedVariables false
set_option linter.unusedSimpArgs false
set_option maxRecDepth 100000

/-- Where the nodes stand, of the first k of an order. -/
def pl (O : List Int) : Nat → Nat → Int
  | 0, _ => -1
  | k + 1, v => if v = (O.getD k 0).toNat then (k : Int) else pl O k v
theorem pl_cases (O : List Int) (k v : Nat) : pl O k v = -1 ∨ ∃ j : Nat, j < k ∧ pl O k v = j ∧ (O.getD j 0).toNat = v := by
  induction k with
  | zero => exact .inl rfl
  | succ k ih =>
    simp only [pl]
    by_cases h : v = (O.getD k 0).toNat
    · rw [if_pos h]; exact .inr ⟨k, by omega, rfl, h.symm⟩
    · rw [if_neg h]
      rcases ih with ih | ⟨j, h1, h2, h3⟩
      · exact .inl ih
      · exact .inr ⟨j, by omega, h2, h3⟩
theorem pl_bound (O : List Int) (k v : Nat) : -1 ≤ pl O k v ∧ pl O k v < k := by
  rcases pl_cases O k v with h | ⟨j, h1, h2, _⟩
  · omega
  · omega

/-- What an order of a graph's nodes must be. -/
structure OrderOf (to : List (List Int)) (O : List Int) : Prop where
  nodup : O.Nodup
  mem : ∀ v : Nat, (v : Int) ∈ O ↔ seen to 0 v = true
  lt : ∀ y ∈ O, 0 ≤ y ∧ y < to.length
  first : O.getD 0 0 = 0 ∧ 0 < O.length
  ahead : ∀ p q : Nat, p < O.length → q < O.length → O.getD q 0 ∈ to.getD (O.getD p 0).toNat [] → q ≤ p → Way to (-1) (O.getD q 0).toNat (O.getD p 0).toNat

theorem getD_rev (l : List Int) {p : Nat} (hp : p < l.length) : l.reverse.getD p 0 = l.getD (l.length - 1 - p) 0 := by
  rw [← getD_at (l := l.reverse) (by simpa using hp), List.getElem_reverse, getD_at]
theorem nodup_idx {l : List Int} (h : l.Nodup) {i j : Nat} (hi : i < l.length) (hj : j < l.length) (e : l.getD i 0 = l.getD j 0) : i = j := by
  rw [List.nodup_iff_pairwise_ne, List.pairwise_iff_getElem] at h
  rcases Nat.lt_trichotomy i j with h1 | h1 | h1
  · exact absurd (by rw [getD_at, getD_at]; exact e) (h i j hi hj h1)
  · exact h1
  · exact absurd (by rw [getD_at, getD_at]; exact e.symm) (h j i hj hi h1)
theorem order_of {to : List (List Int)} (hg : GOK to) : OrderOf to (orderL to) := by
  obtain ⟨h1, h2, h3, ⟨l, h4⟩, h5⟩ := post_facts hg
  have e : orderL to = (post to).reverse := by rw [orderL, if_pos hg]
  rw [e]
  refine ⟨?_, fun v => by rw [List.mem_reverse]; exact h2 v, fun y hy => h3 y (List.mem_reverse.1 hy), ?_, fun p q hp hq hm hqp => ?_⟩
  · rw [List.nodup_iff_pairwise_ne] at h1 ⊢
    rw [List.pairwise_reverse]
    exact h1.imp fun h => h.symm
  · rw [h4]; simp
  · rw [List.length_reverse] at hp hq
    rw [getD_rev _ hp, getD_rev _ hq] at *
    rcases h5 ((post to).length - 1 - p) (Nat.zero_le _) (by omega) _ hm with ⟨r, hr, e2⟩ | hw
    · have := nodup_idx h1 (by omega) (by omega) e2
      omega
    · exact hw

/-- How many of the first i are marked. -/
def cntB (b : Nat → Bool) : Nat → Nat
  | 0 => 0
  | i + 1 => cntB b i + if b i then 1 else 0
theorem cntB_filter (b : Nat → Bool) (n : Nat) : cntB b n = ((List.range n).filter b).length := by
  induction n with
  | zero => rfl
  | succ n ih =>
    rw [List.range_succ, List.filter_append, List.length_append, ← ih, cntB]
    simp only [List.filter_cons, List.filter_nil]
    split <;> simp
theorem cntB_order {to : List (List Int)} (hg : GOK to) {O : List Int} (h : OrderOf to O) : cntB (seen to 0) to.length = O.length := by
  rw [cntB_filter]
  let A := ((List.range to.length).filter (seen to 0)).map fun v : Nat => (v : Int)
  have hA : A.length = ((List.range to.length).filter (seen to 0)).length := List.length_map _
  rw [← hA]
  have hAn : A.Nodup := by
    show (List.map _ _).Nodup
    rw [List.nodup_iff_pairwise_ne, List.pairwise_map]
    exact ((List.pairwise_lt_range (n := to.length)).filter _).imp fun h => by omega
  have hm : ∀ y : Int, y ∈ A ↔ y ∈ O := fun y => by
    show y ∈ List.map _ _ ↔ _
    simp only [List.mem_map, List.mem_filter, List.mem_range]
    constructor
    · rintro ⟨v, ⟨h1, h2⟩, rfl⟩; exact (h.mem v).2 h2
    · intro hy
      have := h.lt y hy
      refine ⟨y.toNat, ⟨by omega, (h.mem _).1 (by rw [show ((y.toNat : Nat) : Int) = y by omega]; exact hy)⟩, by omega⟩
  exact Nat.le_antisymm (hAn.length_le_of_subset fun y hy => (hm y).1 hy) (h.nodup.length_le_of_subset fun y hy => (hm y).2 hy)
theorem cntB_le (b : Nat → Bool) (n : Nat) : cntB b n ≤ n := by
  induction n with
  | zero => exact Nat.le_refl _
  | succ n ih => simp only [cntB]; split <;> omega

theorem pl_free {to : List (List Int)} {O : List Int} (h : OrderOf to O) {k : Nat} (hk : k < O.length) : pl O k (O.getD k 0).toNat = -1 := by
  rcases pl_cases O k (O.getD k 0).toNat with h1 | ⟨j, h1, h2, h3⟩
  · exact h1
  · have e1 := h.lt _ (getD_in hk)
    have e2 := h.lt _ (getD_in (by omega : j < O.length))
    have := nodup_idx h.nodup (by omega) hk (by omega : O.getD j 0 = O.getD k 0)
    omega
/-- One that a node leads to, and that does not stand behind it, leads back. -/
theorem back_way {to : List (List Int)} (hg : GOK to) {O : List Int} (h : OrderOf to O) {i : Nat} (hi : i < to.length) (hs : seen to 0 i = true) {y : Int} (hy : y ∈ to.getD i []) (hle : pl O O.length y.toNat ≤ pl O O.length i) : Way to (-1) y.toNat i := by
  have hin := (gok_row hg hi).1 y hy
  have find : ∀ v : Nat, seen to 0 v = true → ∃ j : Nat, j < O.length ∧ pl O O.length v = j ∧ O.getD j 0 = v := fun v hv => by
    have hmem := (h.mem v).2 hv
    obtain ⟨j, hj, e⟩ := List.getElem_of_mem hmem
    rw [getD_at] at e
    have up : ∀ k, j < k → k ≤ O.length → pl O k v = j := fun k => by
      induction k with
      | zero => exact fun h => absurd h (Nat.not_lt_zero _)
      | succ k ih =>
        intro h1 h2
        simp only [pl]
        by_cases hjk : j = k
        · subst hjk
          rw [if_pos (by omega)]
        · rw [if_neg ?_]
          · exact ih (by omega) (by omega)
          · intro e2
            have e3 := h.lt _ (getD_in (by omega : k < O.length))
            exact hjk (nodup_idx h.nodup hj (by omega) (by omega))
    exact ⟨j, hj, up _ hj (Nat.le_refl _), e⟩
  have hsy : seen to 0 y.toNat = true := by
    rw [seen_iff hg hg.1] at hs ⊢
    exact .step hs hy (by omega)
  obtain ⟨p, p1, p2, p3⟩ := find i hs
  obtain ⟨q, q1, q2, q3⟩ := find y.toNat hsy
  have := h.ahead p q p1 q1 (by rw [p3, q3, Int.toNat_natCast, show ((y.toNat : Nat) : Int) = y by omega]; exact hy) (by omega)
  rwa [p3, q3, Int.toNat_natCast, Int.toNat_natCast] at this
end Go.Proofs.Ytdgopbgckdnncaa
