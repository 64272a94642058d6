/- The answer's Right, Copy, Ints. -/
import Derived.Test.YtdgopbgckdnncaaT10D
namespace Go.Proofs.Ytdgopbgckdnncaa
open Go.Sx
set_option linter.unusedVariables false
set_option linter.unusedSimpArgs false
set_option maxRecDepth 100000

theorem ints_spec (l r : List Int) (hl : l.length ≤ 9223372036854775807) (hr : r.length ≤ 9223372036854775807) : Pure PG 14 [iv l, iv r] (vb (decide (l = r))) [] := by
  refine Proc.mk (cfg 26) tysOK [] Try.func14 rfl (by kernel_rfl) rfl rfl rfl ?_
  intro C x
  refine x.cond rfl trivial (fun h => ?_) (fun h => ?_)
  · refine x.exit rfl trivial ?_
    refine ⟨.inr rfl, ?_, trivial, rfl⟩
    have h : ¬ ((l.length : Int) = r.length) := by simpa using h
    show false = decide (l = r)
    refine (decide_eq_false fun e => h ?_).symm
    rw [e]
  have h : l.length = r.length := by
    have : (l.length : Int) = r.length := by simpa using h
    omega
  refine x.loop (α := { i : Nat // i ≤ l.length ∧ ∀ j, j < i → l.getD j 0 = r.getD j 0 }) (fun y => ⟨[(0, iv l), (1, iv r), (5, vi (y.1 : Int))], [], 0⟩) (fun y => l.length - y.1) ⟨0, by omega, fun j hj => by omega⟩ rfl trivial ⟨⟨veq_d rfl, veq_d rfl, rfl, trivial⟩, trivial, rfl⟩ (fun y => ?_)
  obtain ⟨i, hi, hup⟩ := y
  change Go C _ ⟨[(0, iv l), (1, iv r), (5, vi (i : Int))], [], 0⟩ _
  refine x.cond rfl trivial (fun h1 => ?_) (fun h1 => ?_)
  · have h1 : i < l.length := by have := of_decide_eq_true h1; omega
    refine x.quiet rfl trivial mixedP (by kernel_rfl) ?_
    refine x.qdone rfl ?_ ?_
    · simp only [AllP]; omega
    refine x.cond rfl trivial (fun h2 => ?_) (fun h2 => ?_)
    · refine x.exit rfl trivial ?_
      refine ⟨.inr rfl, ?_, trivial, rfl⟩
      show false = decide (l = r)
      have h2 : ¬ l.getD i 0 = r.getD i 0 := by
        have : (!decide (l.getD i 0 = r.getD i 0)) = true := h2
        simpa only [Bool.not_eq_true', decide_eq_false_iff_not] using this
      refine (decide_eq_false fun e => h2 ?_).symm
      rw [e]
    · have h2 : l.getD i 0 = r.getD i 0 := by
        have : (!decide (l.getD i 0 = r.getD i 0)) = false := h2
        simpa only [Bool.not_eq_false', decide_eq_true_eq] using this
      refine x.back rfl (show inI64 _ by unfold inI64; omega) ⟨⟨i + 1, by omega, fun j hj => ?_⟩, by show l.length - (i + 1) < l.length - i; omega, ⟨veq_d rfl, veq_d rfl, rfl, trivial⟩, trivial, rfl⟩
      rcases Nat.lt_or_ge j i with h3 | h3
      · exact hup j h3
      · obtain rfl : j = i := by omega
        exact h2
  · have h1 : i = l.length := by have := of_decide_eq_false h1; omega
    refine x.exit rfl trivial ?_
    refine ⟨.inr rfl, ?_, trivial, rfl⟩
    show true = decide (l = r)
    refine (decide_eq_true (List.ext_getElem h fun j hj hj' => ?_)).symm
    rw [getD_at, getD_at]
    exact hup j (by omega)

/-! ### Copy -/
theorem copy_spec (to : List (List Int)) (hn : to.length ≤ 64) (hf : ∀ l ∈ to, l.length * 8 ≤ big) : Pure PG 11 [gv to] (gv to) [] := by
  refine Proc.mk (cfg 21) tysOK [] Try.func11 rfl (by kernel_rfl) rfl rfl rfl ?_
  intro C x
  refine x.toLoop rfl trivial ?_
  refine Go.own 3 23 1 (fun j => [dInts (to.getD j [])]) rfl ?_
  refine x.loop (α := { i : Nat // i ≤ to.length }) (fun y => ⟨[(0, gv to), (3, .own 0), (4, vi (y.1 : Int))], [(0, .vec 23 1 y.1 fun j => [dInts (to.getD j [])])], 1⟩) (fun y => to.length - y.1) ⟨0, by omega⟩ rfl trivial ⟨⟨veq_d rfl, rfl, rfl, trivial⟩, ⟨⟨rfl, rfl, rfl, fun _ _ => rfl⟩, trivial⟩, rfl⟩ (fun y => ?_)
  obtain ⟨i, hi⟩ := y
  change Go C _ ⟨[(0, gv to), (3, .own 0), (4, vi (i : Int))], [(0, .vec 23 1 i fun j => [dInts (to.getD j [])])], 1⟩ _
  refine x.cond rfl trivial (fun h1 => ?_) (fun h1 => ?_)
  · have h1 : i < to.length := by have := of_decide_eq_true h1; omega
    obtain ⟨l, hrow⟩ : ∃ l, to.getD i [] = l := ⟨_, rfl⟩
    have hl : l.length * 8 ≤ big := hf l (hrow ▸ getD_mem h1)
    refine x.op rfl ?_ ?_
    · simp only [AllP]
      simp only [show ((i : Int)).toNat = i from rfl, hrow]
      unfold big at hl ⊢
      omega
    refine x.le (s' := ⟨[(0, gv to), (4, vi (i : Int)), (11, .own 0), (17, .own 1)], [(0, .vec 23 1 i fun j => [dInts (to.getD j [])]), (1, outC l)], 2⟩) ?_ ?_
    · refine ⟨⟨veq_d rfl, rfl, rfl, rfl, trivial⟩, ⟨⟨rfl, rfl, rfl, fun _ _ => rfl⟩, ⟨rfl, rfl, ?_, fun j hj => ?_⟩, trivial⟩, rfl⟩
      · show 0 + (to.getD i []).length = l.length
        rw [hrow]; omega
      · have hj : j < l.length := by
          have : j < 0 + (to.getD i []).length := hj
          rw [hrow] at this; omega
        refine (congrFun (app_int .i64 0 (fun _ => 0) fun j => (to.getD i []).getD j 0) j).trans ?_
        dsimp only
        rw [if_neg (by omega), hrow]; rfl
    refine Sx.Go.freeze 1 ?_
    refine x.back rfl ?_ ⟨⟨i + 1, by omega⟩, by show to.length - (i + 1) < to.length - i; omega, ⟨veq_d rfl, rfl, rfl, trivial⟩, ⟨⟨rfl, rfl, rfl, fun j hj => ?_⟩, trivial⟩, rfl⟩
    · simp only [AllP, inI64, big]; omega
    · show zipIte (j < i) [dInts (to.getD j [])] [dInts l] = [dInts (to.getD j [])]
      by_cases hji : j < i
      · rw [zipIte_pos hji]
      · rw [zipIte_neg hji, ← hrow, show j = i by omega]
  · have h1 : i = to.length := by have := of_decide_eq_false h1; omega
    subst h1
    refine Sx.Go.freeze 0 ?_
    refine x.exit rfl trivial ?_
    exact ⟨.inr rfl, veq_d rfl, trivial, rfl⟩

/-! ### the answer's Right -/
theorem refright_spec (to : List (List Int)) (hf : Fit to) : Pure PG 12 [gv to] (vb (decide (GOK to))) [] := by
  refine Proc.mk (cfg 75) tysOK [] Try.func12 rfl (by kernel_rfl) rfl rfl rfl ?_
  intro C x
  refine x.cond rfl trivial (fun h => ?_) (fun h => ?_)
  · refine x.exit rfl trivial ?_
    refine ⟨.inr rfl, ?_, trivial, rfl⟩
    show false = decide (GOK to)
    refine (decide_eq_false fun hg => ?_).symm
    have := hg.1
    have := hg.2.1
    simp only [Bool.or_eq_true, decide_eq_true_eq] at h
    omega
  have hn : 1 ≤ to.length ∧ to.length ≤ 256 := by
    simp only [Bool.or_eq_false_iff, decide_eq_false_iff_not] at h
    omega
  refine x.loop (α := { i : Nat // i ≤ to.length ∧ ∀ j, j < i → RowOK to.length (to.getD j []) }) (fun y => ⟨[(0, gv to), (3, vi (y.1 : Int))], [], 0⟩) (fun y => to.length - y.1) ⟨0, by omega, fun j hj => by omega⟩ rfl trivial ⟨⟨veq_d rfl, rfl, trivial⟩, trivial, rfl⟩ (fun y => ?_)
  obtain ⟨i, hi, hrows⟩ := y
  change Go C _ ⟨[(0, gv to), (3, vi (i : Int))], [], 0⟩ _
  refine x.cond rfl trivial (fun h1 => ?_) (fun h1 => ?_)
  · have h1 : i < to.length := by have := of_decide_eq_true h1; omega
    obtain ⟨l, hrow⟩ : ∃ l, to.getD i [] = l := ⟨_, rfl⟩
    have hmem : l ∈ to := hrow ▸ getD_mem h1
    refine x.cond rfl (show _ ∧ _ by omega) (fun h2 => ?_) (fun h2 => ?_)
    · refine x.exit rfl trivial ?_
      refine ⟨.inr rfl, ?_, trivial, rfl⟩
      show false = decide (GOK to)
      refine (decide_eq_false fun hg => ?_).symm
      have h2 : ((to.getD i []).length : Int) > 256 := of_decide_eq_true h2
      rw [hrow] at h2
      have := row_len (hg.2.2 l hmem)
      omega
    have hl : l.length ≤ 256 := by
      have h2 : ¬ ((to.getD i []).length : Int) > 256 := of_decide_eq_false h2
      rw [hrow] at h2
      omega
    refine x.loop (α := { k : Nat // k ≤ l.length ∧ Upto to.length l k }) (fun y => ⟨[(0, gv to), (3, vi (i : Int)), (4, vi (y.1 : Int))], [], 0⟩) (fun y => l.length - y.1) ⟨0, by omega, fun j hj => by omega⟩ rfl trivial ⟨⟨veq_d rfl, rfl, rfl, trivial⟩, trivial, rfl⟩ (fun y => ?_)
    obtain ⟨k, hk, hup⟩ := y
    change Go C _ ⟨[(0, gv to), (3, vi (i : Int)), (4, vi (k : Int))], [], 0⟩ _
    refine x.cond rfl (show _ ∧ _ by omega) (fun h3 => ?_) (fun h3 => ?_)
    · have h3 : k < l.length := by
        have h3 : (k : Int) < ((to.getD i []).length : Int) := of_decide_eq_true h3
        rw [hrow] at h3
        omega
      refine x.cond rfl ?_ (fun h4 => ?_) (fun h4 => ?_)
      · simp only [AllP]
        simp only [show ((i : Int)).toNat = i from rfl, hrow]
        refine ⟨by omega, by omega, fun _ => by omega, fun _ => by omega⟩
      · refine x.exit rfl trivial ?_
        refine ⟨.inr rfl, ?_, trivial, rfl⟩
        show false = decide (GOK to)
        refine (decide_eq_false fun hg => ?_).symm
        have h4 : (decide ((to.getD i []).getD k 0 < 0) || decide ((to.length : Int) ≤ (to.getD i []).getD k 0)) = true := h4
        rw [hrow] at h4
        simp only [Bool.or_eq_true, decide_eq_true_eq] at h4
        have := (hg.2.2 l hmem).1 _ (getD_in h3)
        omega
      have h4 : 0 ≤ l.getD k 0 ∧ l.getD k 0 < to.length := by
        have h4 : (decide ((to.getD i []).getD k 0 < 0) || decide ((to.length : Int) ≤ (to.getD i []).getD k 0)) = false := h4
        rw [hrow] at h4
        simp only [Bool.or_eq_false_iff, decide_eq_false_iff_not] at h4
        omega
      refine x.loop (α := { m : Nat // m ≤ k ∧ ∀ j, j < m → l.getD j 0 ≠ l.getD k 0 }) (fun y => ⟨[(0, gv to), (3, vi (i : Int)), (4, vi (k : Int)), (5, vi (y.1 : Int))], [], 0⟩) (fun y => k - y.1) ⟨0, by omega, fun j hj => by omega⟩ rfl trivial ⟨⟨veq_d rfl, rfl, rfl, rfl, trivial⟩, trivial, rfl⟩ (fun y => ?_)
      obtain ⟨m, hm, hne⟩ := y
      change Go C _ ⟨[(0, gv to), (3, vi (i : Int)), (4, vi (k : Int)), (5, vi (m : Int))], [], 0⟩ _
      refine x.cond rfl trivial (fun h5 => ?_) (fun h5 => ?_)
      · have h5 : m < k := by have := of_decide_eq_true h5; omega
        refine x.quiet rfl trivial mixedP (by kernel_rfl) ?_
        refine x.qdone rfl ?_ ?_
        · simp only [AllP]
          simp only [show ((i : Int)).toNat = i from rfl, hrow]
          omega
        refine x.cond rfl trivial (fun h6 => ?_) (fun h6 => ?_)
        · refine x.exit rfl trivial ?_
          refine ⟨.inr rfl, ?_, trivial, rfl⟩
          show false = decide (GOK to)
          refine (decide_eq_false fun hg => ?_).symm
          have h6 : (to.getD i []).getD m 0 = (to.getD i []).getD k 0 := of_decide_eq_true h6
          rw [hrow] at h6
          exact (upto_row.2 (hg.2.2 l hmem) k h3).2 m h5 h6
        · have h6 : ¬ (to.getD i []).getD m 0 = (to.getD i []).getD k 0 := of_decide_eq_false h6
          rw [hrow] at h6
          refine x.back rfl (show inI64 _ by unfold inI64; omega) ⟨⟨m + 1, by omega, fun j hj => ?_⟩, by show k - (m + 1) < k - m; omega, ⟨veq_d rfl, rfl, rfl, rfl, trivial⟩, trivial, rfl⟩
          rcases Nat.lt_or_ge j m with h7 | h7
          · exact hne j h7
          · obtain rfl : j = m := by omega
            exact h6
      · have h5 : m = k := by have := of_decide_eq_false h5; omega
        subst h5
        refine x.back rfl (show inI64 _ by unfold inI64; omega) ⟨⟨m + 1, by omega, fun j hj => ?_⟩, by show l.length - (m + 1) < l.length - m; omega, ⟨veq_d rfl, rfl, rfl, trivial⟩, trivial, rfl⟩
        rcases Nat.lt_or_ge j m with h7 | h7
        · exact hup j h7
        · obtain rfl : j = m := by omega
          exact ⟨h4, hne⟩
    · have h3 : k = l.length := by
        have h3 : ¬ (k : Int) < ((to.getD i []).length : Int) := of_decide_eq_false h3
        rw [hrow] at h3
        omega
      subst h3
      refine x.back rfl (show inI64 _ by unfold inI64; omega) ⟨⟨i + 1, by omega, fun j hj => ?_⟩, by show to.length - (i + 1) < to.length - i; omega, ⟨veq_d rfl, rfl, trivial⟩, trivial, rfl⟩
      rcases Nat.lt_or_ge j i with h5 | h5
      · exact hrows j h5
      · obtain rfl : j = i := by omega
        rw [hrow]
        exact upto_row.1 hup
  · have h1 : i = to.length := by have := of_decide_eq_false h1; omega
    refine x.exit rfl trivial ?_
    refine ⟨.inr rfl, ?_, trivial, rfl⟩
    show true = decide (GOK to)
    refine (decide_eq_true ⟨by omega, by omega, fun l hl => ?_⟩).symm
    obtain ⟨j, hj, rfl⟩ := List.getElem_of_mem hl
    have := hrows j (by omega)
    rwa [List.getD_eq_getElem?_getD, List.getElem?_eq_getElem hj] at this
end Go.Proofs.Ytdgopbgckdnncaa
