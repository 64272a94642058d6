/- graph.Back: the graph turned round. -/
import Derived.Test.YtdgopbgckdnncaaT10E
namespace Go.Proofs.Ytdgopbgckdnncaa
open Go.Sx
set_option linter.unusedVariables false
set_option linter.unusedSimpArgs false
set_option maxRecDepth 100000

/-- Who, among the first i, leads to v. -/
def into (to : List (List Int)) (i : Nat) (v : Nat) : List Int := List.map (fun j : Nat => (j : Int)) ((List.range i).filter fun j => (to.getD j []).contains (v : Int))
/-- The same, and of row i the first k. -/
def intoK (to : List (List Int)) (i k : Nat) (v : Nat) : List Int := into to i v ++ if ((to.getD i []).take k).contains (v : Int) then [(i : Int)] else []
def backL (to : List (List Int)) : List (List Int) := (List.range to.length).map (into to to.length)
def backG (to : List (List Int)) : List (List Int) := if GOK to then backL to else []

theorem into_len (to : List (List Int)) (i v : Nat) : (into to i v).length ≤ i := by
  unfold into
  rw [List.length_map]
  exact Nat.le_trans (List.length_filter_le _ _) (by rw [List.length_range]; exact Nat.le_refl _)
theorem intoK_len (to : List (List Int)) (i k v : Nat) : (intoK to i k v).length ≤ i + 1 := by
  unfold intoK
  have := into_len to i v
  split <;> simp <;> omega
theorem into_succ (to : List (List Int)) (i v : Nat) : into to (i + 1) v = intoK to i (to.getD i []).length v := by
  unfold into intoK into
  rw [List.range_succ, List.filter_append, List.map_append, List.take_length]
  congr 1
  simp only [List.filter_cons, List.filter_nil]
  split <;> simp
theorem intoK_zero (to : List (List Int)) (i v : Nat) : intoK to i 0 v = into to i v := by
  unfold intoK
  simp
theorem take_contains {l : List Int} {k : Nat} (hk : k < l.length) (v : Int) : (l.take (k + 1)).contains v = ((l.take k).contains v || (v == l.getD k 0)) := by
  rw [List.take_succ_eq_append_getElem hk, List.contains_append, getD_at]
  rw [Bool.eq_iff_iff]
  simp
theorem intoK_succ {to : List (List Int)} (hg : GOK to) {i k : Nat} (hi : i < to.length) (hk : k < (to.getD i []).length) (v : Nat) :
    intoK to i (k + 1) v = if v = ((to.getD i []).getD k 0).toNat then intoK to i k v ++ [(i : Int)] else intoK to i k v := by
  have hin := gok_in hg hi hk
  unfold intoK
  rw [take_contains hk]
  by_cases h : v = ((to.getD i []).getD k 0).toNat
  · have hno : ((to.getD i []).take k).contains (v : Int) = false := by
      rw [Bool.eq_false_iff]
      intro hc
      rw [show (v : Int) = (to.getD i []).getD k 0 by omega] at hc
      obtain ⟨j, hj, e⟩ := List.getElem_of_mem (List.contains_iff_mem.1 hc)
      simp only [List.length_take] at hj
      rw [List.getElem_take, getD_at] at e
      exact ((upto_row.2 (gok_row hg hi)) k hk).2 j (by omega) e
    have hyes : ((v : Int) == (to.getD i []).getD k 0) = true := by
      rw [beq_iff_eq]; omega
    rw [hno, hyes, if_pos h]
    simp
  · have hno : ((v : Int) == (to.getD i []).getD k 0) = false := by
      rw [beq_eq_false_iff_ne]; omega
    rw [hno, if_neg h, Bool.or_false]

abbrev rowsC (n : Nat) (hs : Nat → Value) (R : Nat → List Int) : Ch := .rows 23 3 1 n none hs (fun v => (R v).length) fun v j => [.int .i64 ((R v).getD j 0)]

theorem back_spec (to : List (List Int)) (hf : Fit to) : Pure PG 16 [gv to] (gv (backG to)) [] := by
  refine Proc.mk (cfg 55) tysOK [] Try.func16 rfl (by kernel_rfl) rfl rfl rfl ?_
  intro C x
  refine x.pure rfl trivial rfl (right_spec to hf) ⟨veq_d rfl, trivial⟩ ?_
  refine x.cond rfl trivial (fun h => ?_) (fun h => ?_)
  · have hg : ¬ GOK to := by simpa using h
    refine x.exit rfl trivial ?_
    refine ⟨.inr rfl, ?_, trivial, rfl⟩
    show (backG to).length = 0
    rw [backG, if_neg hg]; rfl
  have hg : GOK to := by simpa using h
  have hn := hg.2.1
  refine x.loop (α := { i : Nat // i ≤ to.length } × (Nat → Value)) (fun y => ⟨[(3, .own 0), (15, gv to), (16, vi (to.length : Int)), (17, vi (y.1.1 : Int))], [(0, rowsC to.length y.2 (into to y.1.1))], 1⟩) (fun y => to.length - y.1.1) (⟨0, by omega⟩, fun _ => .slice none 0 0) rfl ?_ ?_ (fun y => ?_)
  · simp only [AllP, big, Int.toNat_natCast]; omega
  · exact ⟨⟨rfl, veq_d rfl, rfl, rfl, trivial⟩, ⟨⟨rfl, rfl, rfl, rfl, rfl, fun i hi => ⟨rfl, rfl, fun j hj => absurd hj (Nat.not_lt_zero _)⟩⟩, trivial⟩, rfl⟩
  obtain ⟨⟨i, hi⟩, hs⟩ := y
  change Go C _ ⟨[(3, .own 0), (15, gv to), (16, vi (to.length : Int)), (17, vi (i : Int))], [(0, rowsC to.length hs (into to i))], 1⟩ _
  refine x.cond rfl trivial (fun h1 => ?_) (fun h1 => ?_)
  · have h1 : i < to.length := by have := of_decide_eq_true h1; omega
    obtain ⟨row, hrow⟩ : ∃ l, to.getD i [] = l := ⟨_, rfl⟩
    have hro : RowOK to.length row := hrow ▸ gok_row hg h1
    have hrl : row.length ≤ 256 := Nat.le_trans (row_len hro) hn
    refine x.loop (α := { k : Nat // k ≤ row.length } × (Nat → Value)) (fun y => ⟨[(3, .own 0), (15, gv to), (16, vi (to.length : Int)), (17, vi (i : Int)), (4, vi (i : Int)), (22, iv row), (23, vi (row.length : Int)), (24, vi (y.1.1 : Int))], [(0, rowsC to.length y.2 (intoK to i y.1.1))], 1⟩) (fun y => row.length - y.1.1) (⟨0, by omega⟩, hs) rfl ?_ ?_ (fun y => ?_)
    · show _ ∧ _; omega
    · refine ⟨⟨rfl, veq_d rfl, rfl, rfl, rfl, veq_d ?_, ?_, rfl, trivial⟩, ⟨⟨rfl, rfl, rfl, rfl, rfl, fun v hv => ⟨rfl, ?_, fun j hj => ?_⟩⟩, trivial⟩, rfl⟩
      · show dInts (to.getD i []) = _
        rw [hrow]
      · show ((to.getD i []).length : Int) = _
        rw [hrow]
      · show (into to i v).length = (intoK to i 0 v).length
        rw [intoK_zero]
      · show [D.int .i64 ((into to i v).getD j 0)] = [D.int .i64 ((intoK to i 0 v).getD j 0)]
        rw [intoK_zero]
    obtain ⟨⟨k, hk⟩, hs⟩ := y
    change Go C _ ⟨[(3, .own 0), (15, gv to), (16, vi (to.length : Int)), (17, vi (i : Int)), (4, vi (i : Int)), (22, iv row), (23, vi (row.length : Int)), (24, vi (k : Int))], [(0, rowsC to.length hs (intoK to i k))], 1⟩ _
    refine x.cond rfl trivial (fun h2 => ?_) (fun h2 => ?_)
    · have h2 : k < row.length := by have := of_decide_eq_true h2; omega
      have hin := hro.1 _ (getD_in h2)
      refine x.loadRow rfl ?_ rfl ?_ ?_
      · simp only [AllP]
        simp only [show ((k : Int)).toNat = k from rfl]
        omega
      · show (row.getD k 0).toNat < to.length
        omega
      refine x.storeRow rfl ?_ rfl ?_ (fun val => ?_)
      · have := intoK_len to i k (row.getD k 0).toNat
        simp only [AllP]
        simp only [show ((k : Int)).toNat = k from rfl]
        unfold big
        omega
      · exact ⟨rfl, by show (row.getD k 0).toNat < to.length; omega⟩
      · refine x.back rfl (show inI64 _ by unfold inI64; omega) ⟨(⟨k + 1, by omega⟩, _), by show row.length - (k + 1) < row.length - k; omega, ⟨rfl, veq_d rfl, rfl, rfl, rfl, veq_d rfl, rfl, rfl, trivial⟩, ⟨⟨rfl, rfl, rfl, rfl, rfl, fun v hv => ⟨rfl, ?_, fun j hj => ?_⟩⟩, trivial⟩, rfl⟩
        · have e := intoK_succ hg h1 (k := k) (by rw [hrow]; exact h2) v
          rw [hrow] at e
          show (if v = (row.getD k 0).toNat then (intoK to i k (row.getD k 0).toNat).length + 1 else (intoK to i k v).length) = (intoK to i (k + 1) v).length
          rw [e]
          by_cases hvt : v = (row.getD k 0).toNat
          · rw [if_pos hvt, if_pos hvt, ← hvt]; simp
          · rw [if_neg hvt, if_neg hvt]
        · have e := intoK_succ hg h1 (k := k) (by rw [hrow]; exact h2) v
          rw [hrow] at e
          have hj : j < (if v = (row.getD k 0).toNat then (intoK to i k (row.getD k 0).toNat).length + 1 else (intoK to i k v).length) := hj
          show (if v = (row.getD k 0).toNat then app (intoK to i k (row.getD k 0).toNat).length (fun j => [D.int .i64 ((intoK to i k (row.getD k 0).toNat).getD j 0)]) (fun _ => [D.int .i64 (i : Int)]) else fun j => [D.int .i64 ((intoK to i k v).getD j 0)]) j = [D.int .i64 ((intoK to i (k + 1) v).getD j 0)]
          rw [e]
          by_cases hvt : v = (row.getD k 0).toNat
          · rw [if_pos hvt] at hj
            rw [if_pos hvt, if_pos hvt]
            rw [← hvt] at hj ⊢
            exact app_list _ _ _ _ hj
          · rw [if_neg hvt, if_neg hvt]
    · have h2 : k = row.length := by have := of_decide_eq_false h2; omega
      subst h2
      refine x.back rfl (show inI64 _ by unfold inI64; omega) ⟨(⟨i + 1, by omega⟩, hs), by show to.length - (i + 1) < to.length - i; omega, ⟨rfl, veq_d rfl, rfl, rfl, trivial⟩, ⟨⟨rfl, rfl, rfl, rfl, rfl, fun v hv => ⟨rfl, ?_, fun j hj => ?_⟩⟩, trivial⟩, rfl⟩
      · show (intoK to i row.length v).length = (into to (i + 1) v).length
        rw [into_succ, hrow]
      · show [D.int .i64 ((intoK to i row.length v).getD j 0)] = [D.int .i64 ((into to (i + 1) v).getD j 0)]
        rw [into_succ, hrow]
  · have h1 : i = to.length := by have := of_decide_eq_false h1; omega
    subst h1
    refine x.toLoop rfl trivial ?_
    refine Sx.Go.close 0 ?_
    refine x.loop (α := { i : Nat // i ≤ to.length }) (fun y => ⟨[(3, .own 0), (41, vi (to.length : Int)), (42, vi (y.1 : Int))], [(0, .vec 23 1 to.length fun v => [dInts (into to to.length v)])], 1⟩) (fun y => to.length - y.1) ⟨0, by omega⟩ rfl trivial ⟨⟨rfl, rfl, rfl, trivial⟩, ⟨⟨rfl, rfl, rfl, fun _ _ => rfl⟩, trivial⟩, rfl⟩ (fun y => ?_)
    obtain ⟨i, hi⟩ := y
    change Go C _ ⟨[(3, .own 0), (41, vi (to.length : Int)), (42, vi (i : Int))], [(0, .vec 23 1 to.length fun v => [dInts (into to to.length v)])], 1⟩ _
    refine x.cond rfl trivial (fun h1 => ?_) (fun h1 => ?_)
    · have h1 : i < to.length := by have := of_decide_eq_true h1; omega
      refine x.pure rfl ?_ rfl (clip_spec (into to to.length i) (by have := into_len to to.length i; unfold big; omega)) ⟨veq_d rfl, trivial⟩ ?_
      · simp only [AllP]; omega
      refine x.back rfl ?_ ⟨⟨i + 1, by omega⟩, by show to.length - (i + 1) < to.length - i; omega, ⟨rfl, rfl, rfl, trivial⟩, ⟨⟨rfl, rfl, rfl, fun v hv => ?_⟩, trivial⟩, rfl⟩
      · simp only [AllP, inI64, List.length]
        exact ⟨by omega, ⟨by omega, Nat.le_refl _⟩, by omega⟩
      · show zipIte (v = i) [dInts (into to to.length i)] [dInts (into to to.length v)] = [dInts (into to to.length v)]
        by_cases hvi : v = i
        · rw [zipIte_pos hvi, hvi]
        · rw [zipIte_neg hvi]
    · refine Sx.Go.freeze 0 ?_
      refine x.exit rfl trivial ?_
      refine ⟨.inr rfl, ⟨?_, fun _ => rfl, fun v hv => ?_⟩, trivial, rfl⟩
      · show to.length = (backG to).length
        rw [backG, if_pos hg]; simp [backL]
      · show [dInts (into to to.length v)] = [dInts ((backG to).getD v [])]
        have hv : v < to.length := hv
        rw [backG, if_pos hg, backL, List.getD_eq_getElem?_getD, List.getElem?_map, List.getElem?_range hv]; rfl
end Go.Proofs.Ytdgopbgckdnncaa
