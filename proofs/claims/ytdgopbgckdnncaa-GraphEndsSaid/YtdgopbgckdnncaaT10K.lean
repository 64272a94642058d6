/- A graph turned round twice. -/
import Derived.Test.YtdgopbgckdnncaaT10J
namespace Go.Proofs.Ytdgopbgckdnncaa
open Go.Sx
set_option linter.unusedVariables false
set_option linter.unusedSimpArgs false
set_option maxRecDepth 100000

theorem mem_into {to : List (List Int)} {i v : Nat} {y : Int} : y ∈ into to i v ↔ ∃ j : Nat, j < i ∧ (j : Int) = y ∧ (v : Int) ∈ to.getD j [] := by
  unfold into
  simp only [List.mem_map, List.mem_filter, List.mem_range, List.contains_iff_mem]
  constructor
  · rintro ⟨j, ⟨h1, h2⟩, h3⟩; exact ⟨j, h1, h3, h2⟩
  · rintro ⟨j, h1, h3, h2⟩; exact ⟨j, ⟨h1, h2⟩, h3⟩
theorem into_sorted (to : List (List Int)) (i v : Nat) : (into to i v).Pairwise (· < ·) := by
  unfold into
  rw [List.pairwise_map]
  exact ((List.pairwise_lt_range (n := i)).filter _).imp fun h => by omega
theorem into_nodup (to : List (List Int)) (i v : Nat) : (into to i v).Nodup := by
  rw [List.nodup_iff_pairwise_ne]
  exact (into_sorted to i v).imp fun h => by omega
theorem backL_len (to : List (List Int)) : (backL to).length = to.length := by simp [backL]
theorem backL_row (to : List (List Int)) {v : Nat} (hv : v < to.length) : (backL to).getD v [] = into to to.length v := by
  rw [backL, List.getD_eq_getElem?_getD, List.getElem?_map, List.getElem?_range hv]; rfl
theorem backL_gok {to : List (List Int)} (hg : GOK to) : GOK (backL to) := by
  refine ⟨by rw [backL_len]; exact hg.1, by rw [backL_len]; exact hg.2.1, fun l hl => ?_⟩
  rw [backL_len]
  obtain ⟨v, hv, rfl⟩ := List.mem_map.1 hl
  refine ⟨fun y hy => ?_, into_nodup _ _ _⟩
  obtain ⟨j, h1, rfl, _⟩ := mem_into.1 hy
  omega
/-- Turned round: j leads to v just if v leads to j there. -/
theorem mem_backL {to : List (List Int)} (hg : GOK to) {j v : Nat} (hv : v < to.length) : (j : Int) ∈ (backL to).getD v [] ↔ j < to.length ∧ (v : Int) ∈ to.getD j [] := by
  rw [backL_row to hv, mem_into]
  constructor
  · rintro ⟨k, h1, h2, h3⟩
    obtain rfl : k = j := by omega
    exact ⟨h1, h3⟩
  · rintro ⟨h1, h2⟩
    exact ⟨j, h1, rfl, h2⟩
/-- Turned round twice, a row is the first one, in order. -/
theorem back2_mem {to : List (List Int)} (hg : GOK to) {i : Nat} (hi : i < to.length) (y : Int) : y ∈ (backL (backL to)).getD i [] ↔ y ∈ to.getD i [] := by
  have hg2 := backL_gok hg
  have hi2 : i < (backL to).length := by rw [backL_len]; exact hi
  constructor
  · intro h
    have hy := (gok_row (backL_gok hg2) (by rw [backL_len]; exact hi2)).1 y h
    rw [show y = ((y.toNat : Nat) : Int) by omega] at h ⊢
    have h1 := (mem_backL hg2 hi2).1 h
    rw [backL_len] at h1
    exact ((mem_backL hg h1.1).1 h1.2).2
  · intro h
    have hy := (gok_row hg hi).1 y h
    rw [show y = ((y.toNat : Nat) : Int) by omega] at h ⊢
    exact (mem_backL hg2 hi2).2 ⟨by rw [backL_len]; omega, (mem_backL hg (by omega)).2 ⟨hi, h⟩⟩
theorem back2_len {to : List (List Int)} (hg : GOK to) {i : Nat} (hi : i < to.length) : ((backL (backL to)).getD i []).length = (to.getD i []).length := by
  have hg2 := backL_gok (backL_gok hg)
  have h1 := (gok_row hg hi).2
  have h2 := (gok_row hg2 (by rw [backL_len, backL_len]; exact hi)).2
  exact Nat.le_antisymm (h2.length_le_of_subset fun y hy => (back2_mem hg hi y).1 hy) (h1.length_le_of_subset fun y hy => (back2_mem hg hi y).2 hy)

theorem way_back {to : List (List Int)} (hg : GOK to) {i j : Nat} (hi : i < to.length) (h : Way to (-1) i j) : Way (backL to) (-1) j i := by
  induction h with
  | here h => exact .here h
  | step hw hk hn ih =>
    rename_i j k
    have hj := hw.lt hg hi
    have hin := (gok_row hg hj).1 _ hk
    have h1 : (j : Int) ∈ (backL to).getD k.toNat [] := (mem_backL hg (by omega)).2 ⟨hj, by rw [show ((k.toNat : Nat) : Int) = k by omega]; exact hk⟩
    have h2 : Way (backL to) (-1) k.toNat j := Way.step (k := (j : Int)) (.here (by omega)) h1 (by omega)
    exact h2.trans ih
theorem Way.mono {A B : List (List Int)} (hg : GOK A) {no : Int} (hs : ∀ v, v < A.length → ∀ y ∈ A.getD v [], y ∈ B.getD v []) {i j : Nat} (hi : i < A.length) (h : Way A no i j) : Way B no i j := by
  induction h with
  | here h => exact .here h
  | step hw hk hn ih => exact .step ih (hs _ (hw.lt hg hi) _ hk) hn
theorem way_back_iff {to : List (List Int)} (hg : GOK to) {i j : Nat} (hi : i < to.length) (hj : j < to.length) : Way (backL to) (-1) j i ↔ Way to (-1) i j := by
  refine ⟨fun h => ?_, way_back hg hi⟩
  have h2 := way_back (backL_gok hg) (by rw [backL_len]; exact hj) h
  exact h2.mono (backL_gok (backL_gok hg)) (fun v hv y hy => (back2_mem hg (by rw [backL_len, backL_len] at hv; exact hv) y).1 hy) (by rw [backL_len, backL_len]; exact hi)

theorem graphTurned_spec (to : List (List Int)) (a b : Int) (hf : Fit to) : Pure PG 5 [gv to, vi a, vi b] (vb true) [] := by
  refine Proc.mk (cfg 143) tysOK [] Try.func5 rfl (by kernel_rfl) rfl rfl rfl ?_
  intro C x
  refine x.pureG rfl trivial rfl (fun _ => right_spec to hf) rfl ⟨veq_d rfl, trivial⟩ ?_
  refine x.cond rfl trivial (fun h => ?_) (fun h => ?_)
  · refine x.pure rfl trivial rfl awake_spec trivial ?_
    refine x.exit rfl trivial ?_
    exact ⟨.inr rfl, rfl, trivial, rfl⟩
  have h : to.length ≤ 40 ∧ GOK to := by
    have h : (decide ((40 : Int) < to.length) || !decide (GOK to)) = false := h
    simp only [Bool.or_eq_false_iff, decide_eq_false_iff_not, Bool.not_eq_false', decide_eq_true_eq] at h
    exact ⟨by omega, h.2⟩
  obtain ⟨hn, hg⟩ := h
  have hg1 := backL_gok hg
  have hg2 := backL_gok hg1
  have e1 : backG to = backL to := by rw [backG, if_pos hg]
  have e2 : backG (backL to) = backL (backL to) := by rw [backG, if_pos hg1]
  have hf1 := backL_fit to hg
  have hf2 := backL_fit _ hg1
  have hl1 : (backL to).length = to.length := backL_len to
  have hl2 : (backL (backL to)).length = to.length := by rw [backL_len, hl1]
  refine x.pure rfl trivial rfl (back_spec to hf) ⟨veq_d rfl, trivial⟩ ?_
  rw [e1]
  refine x.pure rfl trivial rfl (back_spec (backL to) hf1) ⟨veq_d rfl, trivial⟩ ?_
  rw [e2]
  obtain ⟨re, hre⟩ : ∃ re, backL (backL to) = re := ⟨_, rfl⟩
  have hrm : ∀ i, i < to.length → ∀ y, y ∈ re.getD i [] → y ∈ to.getD i [] := fun i hi y hy => by rw [← hre] at hy; exact (back2_mem hg hi y).1 hy
  have hrl : ∀ i, i < to.length → (re.getD i []).length = (to.getD i []).length := fun i hi => by rw [← hre]; exact back2_len hg hi
  have hrs : ∀ i, i < to.length → (re.getD i []).Pairwise (· < ·) := fun i hi => by
    rw [← hre, backL_row _ (by rw [hl1]; exact hi)]
    exact into_sorted _ _ _
  rw [hre] at hl2 hg2 hf2 ⊢
  obtain ⟨bk, hbk⟩ : ∃ bk, backL to = bk := ⟨_, rfl⟩
  rw [hbk] at hl1 hg1 hf1 ⊢
  refine x.loop (α := { i : Nat // i ≤ to.length }) (fun y => ⟨[(0, gv to), (1, vi a), (2, vi b), (7, gv bk), (8, gv re), (9, vi (y.1 : Int))], [], 0⟩) (fun y => to.length - y.1) ⟨0, by omega⟩ rfl trivial ⟨⟨veq_d rfl, rfl, rfl, veq_d rfl, veq_d rfl, rfl, trivial⟩, trivial, rfl⟩ (fun y => ?_)
  obtain ⟨i, hi⟩ := y
  change Go C _ ⟨[(0, gv to), (1, vi a), (2, vi b), (7, gv bk), (8, gv re), (9, vi (i : Int))], [], 0⟩ _
  refine x.cond rfl trivial (fun h1 => ?_) (fun h1 => ?_)
  · have h1 : i < to.length := by have := of_decide_eq_true h1; omega
    have hlen := hrl i h1
    have hrow := row_len (gok_row hg h1)
    refine x.quiet rfl trivial mixedP (by kernel_rfl) ?_
    refine x.qdone rfl ?_ ?_
    · simp only [AllP]
      exact ⟨fun _ => by omega, fun _ => by omega⟩
    refine x.cond rfl trivial (fun h2 => ?_) (fun h2 => ?_)
    · have h2 : ((!decide ((re.length : Int) = to.length)) || !decide (((re.getD i []).length : Int) = (to.getD i []).length)) = true := h2
      rw [hl2, hlen] at h2
      exact absurd h2 (by simp)
    refine x.loop (α := { k : Nat // k ≤ (to.getD i []).length }) (fun y => ⟨[(0, gv to), (1, vi a), (2, vi b), (7, gv bk), (8, gv re), (9, vi (i : Int)), (10, vi (y.1 : Int))], [], 0⟩) (fun y => (to.getD i []).length - y.1) ⟨0, by omega⟩ rfl trivial ⟨⟨veq_d rfl, rfl, rfl, veq_d rfl, veq_d rfl, rfl, rfl, trivial⟩, trivial, rfl⟩ (fun y => ?_)
    obtain ⟨k, hk⟩ := y
    change Go C _ ⟨[(0, gv to), (1, vi a), (2, vi b), (7, gv bk), (8, gv re), (9, vi (i : Int)), (10, vi (k : Int))], [], 0⟩ _
    refine x.cond rfl (by simp only [AllP]; omega) (fun h3 => ?_) (fun h3 => ?_)
    · have h3 : k < (re.getD i []).length := by
        have h3 : (k : Int) < ((re.getD i []).length : Int) := of_decide_eq_true h3
        omega
      refine x.quiet rfl trivial mixedP (by kernel_rfl) ?_
      refine x.qcall rfl ?_ rfl (leads_spec to i ((re.getD i []).getD k 0) h1 (by omega)) rfl rfl ⟨veq_d rfl, rfl, rfl, trivial⟩ ?_
      · simp only [AllP]
        simp only [show ((i : Int)).toNat = i from rfl]
        omega
      have hle : (to.getD i []).contains ((re.getD i []).getD k 0) = true := List.contains_iff_mem.2 (hrm i h1 _ (getD_in h3))
      rw [hle]
      refine x.qdone rfl ?_ ?_
      · simp only [AllP]
        simp only [show ((i : Int)).toNat = i from rfl, inI64]
        refine ⟨fun _ _ => by omega, fun _ _ => by omega, fun _ h => ?_, fun _ _ => by omega, fun _ _ => by omega⟩
        have := of_decide_eq_true h
        omega
      refine x.cond rfl trivial (fun h4 => ?_) (fun h4 => ?_)
      · have h4 : (!true || (decide ((0 : Int) < k) && decide ((re.getD i []).getD k 0 ≤ (re.getD i []).getD ((k : Int) - 1).toNat 0))) = true := h4
        simp only [Bool.not_true, Bool.false_or, Bool.and_eq_true, decide_eq_true_eq] at h4
        have hs := List.pairwise_iff_getElem.1 (hrs i h1) (k - 1) k (by omega) h3 (by omega)
        rw [getD_at, getD_at] at hs
        rw [show ((k : Int) - 1).toNat = k - 1 by omega] at h4
        omega
      · exact x.back rfl (show inI64 _ by unfold inI64; omega) ⟨⟨k + 1, by omega⟩, by show (to.getD i []).length - (k + 1) < (to.getD i []).length - k; omega, ⟨veq_d rfl, rfl, rfl, veq_d rfl, veq_d rfl, rfl, rfl, trivial⟩, trivial, rfl⟩
    · have h3 : k = (to.getD i []).length := by
        have h3 : ¬ (k : Int) < ((re.getD i []).length : Int) := of_decide_eq_false h3
        omega
      exact x.back rfl (show inI64 _ by unfold inI64; omega) ⟨⟨i + 1, by omega⟩, by show to.length - (i + 1) < to.length - i; omega, ⟨veq_d rfl, rfl, rfl, veq_d rfl, veq_d rfl, rfl, trivial⟩, trivial, rfl⟩
  refine x.cond rfl trivial (fun h2 => ?_) (fun h2 => ?_)
  · refine x.pure rfl trivial rfl awake_spec trivial ?_
    refine x.exit rfl trivial ?_
    exact ⟨.inr rfl, rfl, trivial, rfl⟩
  have h2 : 0 ≤ a ∧ a < to.length ∧ 0 ≤ b ∧ b < to.length := by
    have h2 : (((decide (a < 0) || decide (b < 0)) || decide ((to.length : Int) ≤ a)) || decide ((to.length : Int) ≤ b)) = false := h2
    simp only [Bool.or_eq_false_iff, decide_eq_false_iff_not] at h2
    omega
  refine x.pure rfl trivial rfl (reached_spec to a hf) ⟨veq_d rfl, rfl, trivial⟩ ?_
  refine x.pure rfl trivial rfl (reached_spec bk b hf1) ⟨veq_d rfl, rfl, trivial⟩ ?_
  have r1 : reachN to a = to.length := by
    unfold reachN
    rw [if_pos ⟨hg, by omega, by omega⟩]
  have r2 : reachN bk b = to.length := by
    unfold reachN
    rw [if_pos ⟨hg1, by omega, by omega⟩, hl1]
  rw [r1, r2]
  have hsame : seen to a.toNat b.toNat = seen bk b.toNat a.toNat := by
    rw [Bool.eq_iff_iff, seen_iff hg (by omega), seen_iff hg1 (by omega), ← hbk]
    exact (way_back_iff hg (by omega) (by omega)).symm
  refine x.quiet rfl trivial mixedP (by kernel_rfl) ?_
  refine x.qcallG rfl ?_ rfl (fun _ => awake_spec) rfl rfl trivial ?_
  · exact ⟨fun _ => by omega, fun _ => by omega⟩
  refine x.qdone rfl trivial ?_
  refine x.exit rfl trivial ?_
  refine ⟨.inr rfl, ?_, trivial, rfl⟩
  show ((decide ((to.length : Int) = to.length) && decide ((to.length : Int) = to.length) && (seen to a.toNat b.toNat == seen bk b.toNat a.toNat)) && true) = true
  rw [hsame]
  simp
end Go.Proofs.Ytdgopbgckdnncaa
