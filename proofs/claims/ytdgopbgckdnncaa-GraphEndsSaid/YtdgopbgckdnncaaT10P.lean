/- The first node that is not reached; the first that does not end. -/
import Derived.Test.YtdgopbgckdnncaaT10K
namespace Go.Proofs.Ytdgopbgckdnncaa
open Go.Sx
set_option linter.unusedVariables false
set_option linter.unusedSimpArgs false
set_option maxRecDepth 100000

/-- The first of n flags that is v, or none. -/
def fstB (b : Nat → Bool) (v : Bool) (n : Nat) : Int := match (List.range n).find? fun j => b j == v with
  | some j => j
  | none => -1
theorem fstB_found {b : Nat → Bool} {v : Bool} {n i : Nat} (hi : i < n) (hb : b i = v) (hno : ∀ j, j < i → b j ≠ v) : fstB b v n = i := by
  unfold fstB
  have : (List.range n).find? (fun j => b j == v) = some i := by
    rw [List.find?_range_eq_some]
    exact ⟨by simp [hb], by simp [hi], fun j hj => by simpa using hno j hj⟩
  rw [this]
theorem fstB_none {b : Nat → Bool} {v : Bool} {n : Nat} (hno : ∀ j, j < n → b j ≠ v) : fstB b v n = -1 := by
  unfold fstB
  have : (List.range n).find? (fun j => b j == v) = none := by
    rw [List.find?_range_eq_none]
    exact fun j hj => by simpa using hno j hj
  rw [this]
theorem fstB_congr {b c : Nat → Bool} {v : Bool} {n : Nat} (h : ∀ j, j < n → b j = c j) : fstB b v n = fstB c v n := by
  by_cases hx : ∃ i, i < n ∧ c i = v
  · have hd : ∀ m, (∃ i, i < m ∧ i < n ∧ c i = v) → ∃ i, i < n ∧ c i = v ∧ ∀ j, j < i → c j ≠ v := fun m => by
      induction m with
      | zero => rintro ⟨i, h, _⟩; omega
      | succ m ih =>
        intro h0
        by_cases h1 : ∃ i, i < m ∧ i < n ∧ c i = v
        · exact ih h1
        · obtain ⟨i, h2, h3, h4⟩ := h0
          exact ⟨i, h3, h4, fun j hj e => h1 ⟨j, by omega, by omega, e⟩⟩
    obtain ⟨i, hi, hc⟩ := hx
    obtain ⟨i, h1, h2, h3⟩ := hd (i + 1) ⟨i, by omega, hi, hc⟩
    rw [fstB_found h1 h2 h3, fstB_found h1 ((h i h1).trans h2) fun j hj => by rw [h j (by omega)]; exact h3 j hj]
  · rw [fstB_none fun j hj e => hx ⟨j, hj, e⟩, fstB_none fun j hj e => hx ⟨j, hj, by rw [← h j hj]; exact e⟩]
theorem fstB_bound (b : Nat → Bool) (v : Bool) (n : Nat) : -1 ≤ fstB b v n ∧ fstB b v n < max n 1 := by
  unfold fstB
  split
  · rename_i j hj
    have := List.mem_range.1 (List.mem_of_find?_eq_some hj)
    omega
  · omega

theorem index_spec (n : Nat) (b : Nat → Bool) (v : Bool) (hn : n ≤ 9223372036854775807) : Pure PG 40 [.d (dBools n b), vb v] (vi (fstB b v n)) [] := by
  refine Proc.mk (cfg 19) tysOK [] Try.func40 rfl (by kernel_rfl) rfl rfl rfl ?_
  intro C x
  refine x.loop (α := { i : Nat // i ≤ n ∧ ∀ j, j < i → b j ≠ v }) (fun y => ⟨[(0, .d (dBools n b)), (1, vb v), (7, vi (n : Int)), (8, vi (y.1 : Int))], [], 0⟩) (fun y => n - y.1) ⟨0, by omega, fun j hj => by omega⟩ rfl trivial ⟨⟨veq_d rfl, rfl, rfl, rfl, trivial⟩, trivial, rfl⟩ (fun y => ?_)
  obtain ⟨i, hi, hup⟩ := y
  change Go C _ ⟨[(0, .d (dBools n b)), (1, vb v), (7, vi (n : Int)), (8, vi (i : Int))], [], 0⟩ _
  refine x.cond rfl trivial (fun h1 => ?_) (fun h1 => ?_)
  · have h1 : i < n := by have := of_decide_eq_true h1; omega
    refine x.cond rfl (by simp only [AllP]; omega) (fun h2 => ?_) (fun h2 => ?_)
    · have h2 : (v == b i) = true := h2
      refine x.exit rfl trivial ?_
      refine ⟨.inr rfl, ?_, trivial, rfl⟩
      show (i : Int) = fstB b v n
      exact (fstB_found h1 (by simpa using Eq.symm (eq_of_beq h2)) hup).symm
    · have h2 : (v == b i) = false := h2
      refine x.back rfl (show inI64 _ by unfold inI64; omega) ⟨⟨i + 1, by omega, fun j hj => ?_⟩, by show n - (i + 1) < n - i; omega, ⟨veq_d rfl, rfl, rfl, rfl, trivial⟩, trivial, rfl⟩
      rcases Nat.lt_or_ge j i with h3 | h3
      · exact hup j h3
      · obtain rfl : j = i := by omega
        intro e
        rw [e] at h2
        simp at h2
  · have h1 : i = n := by have := of_decide_eq_false h1; omega
    subst h1
    refine x.exit rfl trivial ?_
    refine ⟨.inr rfl, ?_, trivial, rfl⟩
    show (-1 : Int) = fstB b v i
    exact (fstB_none hup).symm

/-- At least 0. -/
def mx0 (a : Int) : Int := if 0 > a then 0 else a
theorem first_spec (n : Nat) (b : Nat → Bool) (hn : n ≤ 9223372036854775807) : Pure PG 36 [.d (dBools n b)] (.tup [vi (mx0 (fstB b false n)), vb (decide (0 ≤ fstB b false n))]) [] := by
  refine Proc.mk (cfg 11) tysOK [] Try.func36 rfl (by kernel_rfl) rfl rfl rfl ?_
  intro C x
  refine x.pure rfl trivial rfl (index_spec n b false hn) ⟨veq_d rfl, rfl, trivial⟩ ?_
  refine x.exit rfl trivial ?_
  exact ⟨.inr rfl, ⟨rfl, rfl, trivial⟩, trivial, rfl⟩

/-! ### Lost -/
def lostN (to : List (List Int)) : Int := if GOK to then fstB (seen to 0) false to.length else -1
theorem lost_spec (to : List (List Int)) (hf : Fit to) : Pure PG 26 [gv to] (.tup [vi (mx0 (lostN to)), vb (decide (0 ≤ lostN to))]) [] := by
  refine Proc.mk (cfg 12) tysOK [] Try.func26 rfl (by kernel_rfl) rfl rfl rfl ?_
  intro C x
  refine x.pure rfl trivial rfl (right_spec to hf) ⟨veq_d rfl, trivial⟩ ?_
  refine x.cond rfl trivial (fun h => ?_) (fun h => ?_)
  · have hg : ¬ GOK to := by simpa using h
    have e : lostN to = -1 := by rw [lostN, if_neg hg]
    rw [e]
    refine x.exit rfl trivial ?_
    exact ⟨.inr rfl, ⟨rfl, rfl, trivial⟩, trivial, rfl⟩
  have hg : GOK to := by simpa using h
  have hn := hg.2.1
  have e : lostN to = fstB (seen to 0) false to.length := by rw [lostN, if_pos hg]
  rw [e]
  refine x.pure rfl trivial rfl (reached_spec to 0 hf) ⟨veq_d rfl, rfl, trivial⟩ ?_
  have r1 : reachN to 0 = to.length := by
    unfold reachN
    rw [if_pos ⟨hg, by omega, by have := hg.1; omega⟩]
  rw [r1]
  refine x.pure rfl trivial rfl (first_spec to.length (seen to 0) (by omega)) ⟨veq_d rfl, trivial⟩ ?_
  refine x.exit rfl trivial ?_
  exact ⟨.inr rfl, ⟨rfl, rfl, trivial⟩, trivial, rfl⟩

theorem reflost_spec (to : List (List Int)) (hg : GOK to) : Pure PG 28 [gv to] (vi (fstB (wayB to (-1) 0) false to.length)) [] := by
  refine Proc.mk (cfg 19) tysOK [] Try.func28 rfl (by kernel_rfl) rfl rfl rfl ?_
  intro C x
  have hn := hg.2.1
  refine x.pure rfl trivial rfl (without_spec to hg 0 (-1) hg.1) ⟨veq_d rfl, rfl, rfl, trivial⟩ ?_
  obtain ⟨b, hb⟩ : ∃ b, wayB to (-1) 0 = b := ⟨_, rfl⟩
  rw [hb]
  refine x.loop (α := { i : Nat // i ≤ to.length ∧ ∀ j, j < i → b j ≠ false }) (fun y => ⟨[(0, gv to), (3, .d (dBools to.length b)), (4, vi (y.1 : Int))], [], 0⟩) (fun y => to.length - y.1) ⟨0, by omega, fun j hj => by omega⟩ rfl trivial ⟨⟨veq_d rfl, veq_d rfl, rfl, trivial⟩, trivial, rfl⟩ (fun y => ?_)
  obtain ⟨i, hi, hup⟩ := y
  change Go C _ ⟨[(0, gv to), (3, .d (dBools to.length b)), (4, vi (i : Int))], [], 0⟩ _
  refine x.cond rfl trivial (fun h1 => ?_) (fun h1 => ?_)
  · have h1 : i < to.length := by have := of_decide_eq_true h1; omega
    refine x.cond rfl (by simp only [AllP]; omega) (fun h2 => ?_) (fun h2 => ?_)
    · have h2 : b i = false := by
        have h2 : (!b i) = true := h2
        simpa using h2
      refine x.exit rfl trivial ?_
      refine ⟨.inr rfl, ?_, trivial, rfl⟩
      show (i : Int) = fstB b false to.length
      exact (fstB_found h1 h2 hup).symm
    · have h2 : b i = true := by
        have h2 : (!b i) = false := h2
        simpa using h2
      refine x.back rfl (show inI64 _ by unfold inI64; omega) ⟨⟨i + 1, by omega, fun j hj => ?_⟩, by show to.length - (i + 1) < to.length - i; omega, ⟨veq_d rfl, veq_d rfl, rfl, trivial⟩, trivial, rfl⟩
      rcases Nat.lt_or_ge j i with h3 | h3
      · exact hup j h3
      · obtain rfl : j = i := by omega
        rw [h2]; simp
  · have h1 : i = to.length := by have := of_decide_eq_false h1; omega
    refine x.exit rfl trivial ?_
    refine ⟨.inr rfl, ?_, trivial, rfl⟩
    show (-1 : Int) = fstB b false to.length
    exact (fstB_none fun j hj => hup j (by omega)).symm

/-! ### the answer's Ends, Stuck -/
noncomputable def endsB (to : List (List Int)) (i : Nat) : Bool := (List.range to.length).any fun v => wayB to (-1) i v && decide ((to.getD v []).length = 0)
theorem endsB_iff (to : List (List Int)) (i : Nat) : endsB to i = true ↔ ∃ v, v < to.length ∧ wayB to (-1) i v = true ∧ (to.getD v []).length = 0 := by
  unfold endsB
  simp only [List.any_eq_true, List.mem_range, Bool.and_eq_true, decide_eq_true_eq]
theorem refends_spec (to : List (List Int)) (hg : GOK to) (i : Nat) (hi : i < to.length) : Pure PG 38 [gv to, vi (i : Int)] (vb (endsB to i)) [] := by
  refine Proc.mk (cfg 28) tysOK [] Try.func38 rfl (by kernel_rfl) rfl rfl rfl ?_
  intro C x
  have hn := hg.2.1
  refine x.pure rfl trivial rfl (without_spec to hg i (-1) hi) ⟨veq_d rfl, rfl, rfl, trivial⟩ ?_
  refine x.loop (α := { k : Nat // k ≤ to.length ∧ ∀ j, j < k → ¬ (wayB to (-1) i j = true ∧ (to.getD j []).length = 0) }) (fun y => ⟨[(0, gv to), (5, .d (dBools to.length (wayB to (-1) i))), (6, vi (y.1 : Int))], [], 0⟩) (fun y => to.length - y.1) ⟨0, by omega, fun j hj => by omega⟩ rfl trivial ⟨⟨veq_d rfl, veq_d rfl, rfl, trivial⟩, trivial, rfl⟩ (fun y => ?_)
  obtain ⟨k, hk, hup⟩ := y
  change Go C _ ⟨[(0, gv to), (5, .d (dBools to.length (wayB to (-1) i))), (6, vi (k : Int))], [], 0⟩ _
  refine x.cond rfl trivial (fun h1 => ?_) (fun h1 => ?_)
  · have h1 : k < to.length := by have := of_decide_eq_true h1; omega
    refine x.cond rfl ?_ (fun h2 => ?_) (fun h2 => ?_)
    · simp only [AllP]
      exact ⟨by omega, fun _ => by omega⟩
    · have h2 : (wayB to (-1) i k && decide (((to.getD k []).length : Int) = 0)) = true := h2
      simp only [Bool.and_eq_true, decide_eq_true_eq] at h2
      refine x.exit rfl trivial ?_
      refine ⟨.inr rfl, ?_, trivial, rfl⟩
      show true = endsB to i
      exact ((endsB_iff to i).2 ⟨k, h1, h2.1, by omega⟩).symm
    · have h2 : (wayB to (-1) i k && decide (((to.getD k []).length : Int) = 0)) = false := h2
      refine x.back rfl (show inI64 _ by unfold inI64; omega) ⟨⟨k + 1, by omega, fun j hj => ?_⟩, by show to.length - (k + 1) < to.length - k; omega, ⟨veq_d rfl, veq_d rfl, rfl, trivial⟩, trivial, rfl⟩
      rcases Nat.lt_or_ge j k with h3 | h3
      · exact hup j h3
      · obtain rfl : j = k := by omega
        rintro ⟨e1, e2⟩
        rw [e1, e2] at h2
        simp at h2
  · have h1 : k = to.length := by have := of_decide_eq_false h1; omega
    refine x.exit rfl trivial ?_
    refine ⟨.inr rfl, ?_, trivial, rfl⟩
    show false = endsB to i
    rw [eq_comm, Bool.eq_false_iff]
    intro h
    obtain ⟨v, e1, e2, e3⟩ := (endsB_iff to i).1 h
    exact hup v (by omega) ⟨e2, e3⟩
theorem refstuck_spec (to : List (List Int)) (hg : GOK to) : Pure PG 29 [gv to] (vi (fstB (endsB to) false to.length)) [] := by
  refine Proc.mk (cfg 15) tysOK [] Try.func29 rfl (by kernel_rfl) rfl rfl rfl ?_
  intro C x
  have hn := hg.2.1
  refine x.loop (α := { i : Nat // i ≤ to.length ∧ ∀ j, j < i → endsB to j ≠ false }) (fun y => ⟨[(0, gv to), (3, vi (y.1 : Int))], [], 0⟩) (fun y => to.length - y.1) ⟨0, by omega, fun j hj => by omega⟩ rfl trivial ⟨⟨veq_d rfl, rfl, trivial⟩, trivial, rfl⟩ (fun y => ?_)
  obtain ⟨i, hi, hup⟩ := y
  change Go C _ ⟨[(0, gv to), (3, vi (i : Int))], [], 0⟩ _
  refine x.cond rfl trivial (fun h1 => ?_) (fun h1 => ?_)
  · have h1 : i < to.length := by have := of_decide_eq_true h1; omega
    refine x.pure rfl trivial rfl (refends_spec to hg i h1) ⟨veq_d rfl, rfl, trivial⟩ ?_
    refine x.cond rfl trivial (fun h2 => ?_) (fun h2 => ?_)
    · have h2 : endsB to i = false := by
        have h2 : (!endsB to i) = true := h2
        simpa using h2
      refine x.exit rfl trivial ?_
      refine ⟨.inr rfl, ?_, trivial, rfl⟩
      show (i : Int) = fstB (endsB to) false to.length
      exact (fstB_found h1 h2 hup).symm
    · have h2 : endsB to i = true := by
        have h2 : (!endsB to i) = false := h2
        simpa using h2
      refine x.back rfl (show inI64 _ by unfold inI64; omega) ⟨⟨i + 1, by omega, fun j hj => ?_⟩, by show to.length - (i + 1) < to.length - i; omega, ⟨veq_d rfl, rfl, trivial⟩, trivial, rfl⟩
      rcases Nat.lt_or_ge j i with h3 | h3
      · exact hup j h3
      · obtain rfl : j = i := by omega
        rw [h2]; simp
  · have h1 : i = to.length := by have := of_decide_eq_false h1; omega
    refine x.exit rfl trivial ?_
    refine ⟨.inr rfl, ?_, trivial, rfl⟩
    show (-1 : Int) = fstB (endsB to) false to.length
    exact (fstB_none fun j hj => hup j (by omega)).symm
end Go.Proofs.Ytdgopbgckdnncaa
