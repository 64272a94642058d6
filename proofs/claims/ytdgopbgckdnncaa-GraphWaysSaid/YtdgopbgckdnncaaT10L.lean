/- What is reached from a node: itself, and what is reached from those that it leads to. -/
import Derived.Test.YtdgopbgckdnncaaT10J
namespace Go.Proofs.Ytdgopbgckdnncaa
open Go.Sx
set_option linter.unusedVariables false
set_option linter.unusedSimpArgs false
set_option maxRecDepth 100000

theorem Way.head {to : List (List Int)} (hg : GOK to) {no : Int} {i j : Nat} (hi : i < to.length) (h : Way to no i j) : j = i ∨ ∃ k ∈ to.getD i [], k ≠ no ∧ Way to no k.toNat j := by
  induction h with
  | here => exact .inl rfl
  | step hw hk hn ih =>
    rename_i j k
    right
    rcases ih with ih | ⟨m, h1, h2, h3⟩
    · subst ih
      exact ⟨k, hk, hn, .here (by have := (gok_row hg hi).1 k hk; omega)⟩
    · exact ⟨m, h1, h2, .step h3 hk hn⟩

def accW (to : List (List Int)) (i k j : Nat) : Bool := decide (j = i) || ((to.getD i []).take k).any fun y => seen to y.toNat j
theorem accW_zero (to : List (List Int)) (i j : Nat) : accW to i 0 j = decide (j = i) := by simp [accW]
theorem accW_succ (to : List (List Int)) (i j : Nat) {k : Nat} (hk : k < (to.getD i []).length) : accW to i (k + 1) j = (accW to i k j || seen to ((to.getD i []).getD k 0).toNat j) := by
  unfold accW
  rw [List.take_succ_eq_append_getElem hk, List.any_append, getD_at, Bool.or_assoc]
  simp
theorem accW_end {to : List (List Int)} (hg : GOK to) {i : Nat} (hi : i < to.length) (j : Nat) : seen to i j = accW to i (to.getD i []).length j := by
  unfold accW
  rw [List.take_length, Bool.eq_iff_iff, seen_iff hg hi]
  simp only [Bool.or_eq_true, decide_eq_true_eq, List.any_eq_true]
  constructor
  · intro h
    rcases h.head hg hi with h | ⟨k, h1, h2, h3⟩
    · exact .inl h
    · exact .inr ⟨k, h1, (seen_iff hg (by have := (gok_row hg hi).1 k h1; omega) j).2 h3⟩
  · rintro (rfl | ⟨k, h1, h2⟩)
    · exact .here (by omega)
    · have hin := (gok_row hg hi).1 k h1
      exact Way.trans (.step (.here (by omega)) h1 (by omega)) ((seen_iff hg (by omega) j).1 h2)

theorem graphWays_spec (to : List (List Int)) (i : Int) (hf : Fit to) : Pure PG 7 [gv to, vi i] (vb true) [] := by
  refine Proc.mk (cfg 85) tysOK [] Try.func7 rfl (by kernel_rfl) rfl rfl rfl ?_
  intro C x
  refine x.pureG rfl trivial rfl (fun _ => right_spec to hf) rfl ⟨veq_d rfl, trivial⟩ ?_
  refine x.cond rfl trivial (fun h => ?_) (fun h => ?_)
  · refine x.pure rfl trivial rfl awake_spec trivial ?_
    refine x.exit rfl trivial ?_
    exact ⟨.inr rfl, rfl, trivial, rfl⟩
  have h : to.length ≤ 40 ∧ GOK to ∧ 0 ≤ i ∧ i < to.length := by
    have h : (((decide ((40 : Int) < to.length) || !decide (GOK to)) || decide (i < 0)) || decide ((to.length : Int) ≤ i)) = false := h
    simp only [Bool.or_eq_false_iff, decide_eq_false_iff_not, Bool.not_eq_false', decide_eq_true_eq] at h
    exact ⟨by omega, h.1.1.2, by omega, by omega⟩
  obtain ⟨hn, hg, hi0, hi⟩ := h
  obtain ⟨i, rfl⟩ : ∃ m : Nat, i = m := ⟨i.toNat, by omega⟩
  have hi : i < to.length := by omega
  obtain ⟨row, hrow⟩ : ∃ l, to.getD i [] = l := ⟨_, rfl⟩
  have hro : RowOK to.length row := hrow ▸ gok_row hg hi
  have hrl : row.length ≤ 256 := by have := row_len hro; omega
  refine x.loop (α := { k : Nat // k ≤ row.length }) (fun y => ⟨[(0, gv to), (1, vi (i : Int)), (5, .own 0), (6, vi (y.1 : Int))], [(0, beenC to.length (accW to i y.1))], 1⟩) (fun y => row.length - y.1) ⟨0, by omega⟩ rfl ?_ ?_ (fun y => ?_)
  · simp only [AllP, List.length, big, Int.toNat_natCast]; omega
  · refine ⟨⟨veq_d rfl, rfl, rfl, rfl, trivial⟩, ⟨⟨rfl, rfl, rfl, fun j hj => ?_⟩, trivial⟩, rfl⟩
    refine (congrFun (put2_bool (fun _ => false) i true) j).trans ?_
    show [D.bool (if j = i then true else false)] = [D.bool (accW to i 0 j)]
    rw [accW_zero]
    by_cases hj : j = i <;> simp [hj]
  obtain ⟨k, hk⟩ := y
  change Go C _ ⟨[(0, gv to), (1, vi (i : Int)), (5, .own 0), (6, vi (k : Int))], [(0, beenC to.length (accW to i k))], 1⟩ _
  refine x.cond rfl (by simp only [AllP]; omega) (fun h1 => ?_) (fun h1 => ?_)
  · have h1 : k < row.length := by
      have h1 : (k : Int) < ((to.getD i []).length : Int) := of_decide_eq_true h1
      rw [hrow] at h1
      omega
    have hin := hro.1 _ (getD_in h1)
    refine x.pure rfl ?_ rfl (reached_spec to (row.getD k 0) hf) ⟨veq_d rfl, ?_, trivial⟩ ?_
    · simp only [AllP]
      simp only [show ((i : Int)).toNat = i from rfl, hrow]
      omega
    · show (to.getD i []).getD k 0 = row.getD k 0
      rw [hrow]
    have r1 : reachN to (row.getD k 0) = to.length := by
      unfold reachN
      rw [if_pos ⟨hg, by omega, by omega⟩]
    rw [r1]
    have hacc : ∀ j, accW to i (k + 1) j = (accW to i k j || seen to (row.getD k 0).toNat j) := fun j => by
      rw [accW_succ to i j (by rw [hrow]; exact h1), hrow]
    refine x.loop (α := { j : Nat // j ≤ to.length }) (fun y => ⟨[(0, gv to), (1, vi (i : Int)), (5, .own 0), (6, vi (k : Int)), (7, .d (dBools to.length (seen to (row.getD k 0).toNat))), (8, vi (y.1 : Int))], [(0, beenC to.length fun v => if v < y.1 then accW to i (k + 1) v else accW to i k v)], 1⟩) (fun y => to.length - y.1) ⟨0, by omega⟩ rfl trivial ?_ (fun y => ?_)
    · exact ⟨⟨veq_d rfl, rfl, rfl, rfl, veq_d rfl, rfl, trivial⟩, ⟨⟨rfl, rfl, rfl, fun j hj => by simp⟩, trivial⟩, rfl⟩
    obtain ⟨j, hj⟩ := y
    change Go C _ ⟨[(0, gv to), (1, vi (i : Int)), (5, .own 0), (6, vi (k : Int)), (7, .d (dBools to.length (seen to (row.getD k 0).toNat))), (8, vi (j : Int))], [(0, beenC to.length fun v => if v < j then accW to i (k + 1) v else accW to i k v)], 1⟩ _
    refine x.cond rfl trivial (fun h2 => ?_) (fun h2 => ?_)
    · have h2 : j < to.length := by
        have h2 : (decide ((j : Int) < to.length) && decide ((j : Int) < to.length)) = true := h2
        simp only [Bool.and_self, decide_eq_true_eq] at h2
        omega
      refine x.back rfl ?_ ⟨⟨j + 1, by omega⟩, by show to.length - (j + 1) < to.length - j; omega, ⟨veq_d rfl, rfl, rfl, rfl, veq_d rfl, rfl, trivial⟩, ⟨⟨rfl, rfl, rfl, fun v hv => ?_⟩, trivial⟩, rfl⟩
      · simp only [AllP, inI64, List.length]
        exact ⟨by omega, by omega, fun _ => by omega, by omega, ⟨by omega, Nat.le_refl _⟩, by omega⟩
      · refine (congrFun (put2_bool (fun v => if v < j then accW to i (k + 1) v else accW to i k v) j _) v).trans ?_
        show [D.bool (if v = j then ((if j < j then accW to i (k + 1) j else accW to i k j) || seen to (row.getD k 0).toNat j) else if v < j then accW to i (k + 1) v else accW to i k v)] = [D.bool (if v < j + 1 then accW to i (k + 1) v else accW to i k v)]
        by_cases hvj : v = j
        · rw [if_pos hvj, if_neg (Nat.lt_irrefl _), if_pos (by omega), hvj, hacc]
        · rw [if_neg hvj]
          by_cases hlt : v < j
          · rw [if_pos hlt, if_pos (by omega)]
          · rw [if_neg hlt, if_neg (by omega)]
    · have h2 : j = to.length := by
        have h2 : (decide ((j : Int) < to.length) && decide ((j : Int) < to.length)) = false := h2
        simp only [Bool.and_self, decide_eq_false_iff_not] at h2
        omega
      subst h2
      refine x.back rfl (show inI64 _ by unfold inI64; omega) ⟨⟨k + 1, by omega⟩, by show row.length - (k + 1) < row.length - k; omega, ⟨veq_d rfl, rfl, rfl, rfl, trivial⟩, ⟨⟨rfl, rfl, rfl, fun v hv => ?_⟩, trivial⟩, rfl⟩
      show [D.bool (if v < to.length then accW to i (k + 1) v else accW to i k v)] = [D.bool (accW to i (k + 1) v)]
      rw [if_pos hv]
  · have h1 : k = row.length := by
      have h1 : ¬ (k : Int) < ((to.getD i []).length : Int) := of_decide_eq_false h1
      rw [hrow] at h1
      omega
    subst h1
    refine x.pure rfl trivial rfl (reached_spec to (i : Int) hf) ⟨veq_d rfl, rfl, trivial⟩ ?_
    have r1 : reachN to (i : Int) = to.length := by
      unfold reachN
      rw [if_pos ⟨hg, by omega, by omega⟩]
    rw [r1, Int.toNat_natCast]
    refine x.op rfl trivial ?_
    refine Sx.Go.freeze 0 ?_
    refine x.pure rfl trivial rfl (bools_spec to.length to.length (seen to i) (accW to i row.length) (by omega) (by omega)) ⟨veq_d rfl, veq_d rfl, trivial⟩ ?_
    refine x.pureG rfl trivial rfl (fun _ => awake_spec) rfl trivial ?_
    refine x.exit rfl trivial ?_
    refine ⟨.inr rfl, ?_, trivial, rfl⟩
    have hall : to.length = to.length ∧ ∀ j, j < to.length → seen to i j = accW to i row.length j := ⟨rfl, fun j _ => by rw [accW_end hg hi, hrow]⟩
    show (decide _ && true) = true
    rw [decide_eq_true hall]
    rfl
end Go.Proofs.Ytdgopbgckdnncaa
