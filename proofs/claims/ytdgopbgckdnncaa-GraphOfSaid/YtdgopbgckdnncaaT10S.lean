/- The answer's Of; the law GraphOf. -/
import Derived.Test.YtdgopbgckdnncaaT10R
namespace Go.Proofs.Ytdgopbgckdnncaa
open Go.Sx
set_option linter.unusedVariables false
set_option linter.unusedSimpArgs false
set_option maxRecDepth 100000

theorem refof_spec (p q : Int) (bs : List (List OpV)) (hn : bs.length ≤ 64) (hl : ∀ l ∈ bs, l.length ≤ 9223372036854775807) : Pure PG 25 [bodyV p q bs] (.tup [gv (ofG bs), vb (decide (OfOK bs))]) [] := by
  refine Proc.mk (cfg 72) tysOK [] Try.func25 rfl (by kernel_rfl) rfl rfl rfl ?_
  intro C x
  refine x.toLoop rfl trivial ?_
  refine Go.own 4 23 1 (fun j => [dInts (rowsOf bs j)]) rfl ?_
  refine x.loop (α := { i : Nat // i ≤ bs.length ∧ ∀ j, j < i → rowOf (bs.getD j []) ≠ none }) (fun y => ⟨[(1, .ptr 0 0), (4, .own 1), (5, vi (y.1 : Int))], [(0, .box [vi p, vi q, .d (dBlocks bs)]), (1, .vec 23 1 y.1 fun j => [dInts (rowsOf bs j)])], 2⟩) (fun y => bs.length - y.1) ⟨0, by omega, fun j hj => by omega⟩ rfl trivial ⟨⟨⟨rfl, rfl⟩, rfl, rfl, trivial⟩, ⟨⟨rfl, rfl, veq0_d rfl, trivial⟩, ⟨rfl, rfl, rfl, fun _ _ => rfl⟩, trivial⟩, rfl⟩ (fun y => ?_)
  obtain ⟨i, hi, hup⟩ := y
  change Go C _ ⟨[(1, .ptr 0 0), (4, .own 1), (5, vi (i : Int))], [(0, .box [vi p, vi q, .d (dBlocks bs)]), (1, .vec 23 1 i fun j => [dInts (rowsOf bs j)])], 2⟩ _
  refine x.cond rfl trivial (fun h1 => ?_) (fun h1 => ?_)
  · have h1 : i < bs.length := by have := of_decide_eq_true h1; omega
    obtain ⟨l, hrow⟩ : ∃ l, bs.getD i [] = l := ⟨_, rfl⟩
    have hmem : l ∈ bs := by
      rw [← hrow, List.getD_eq_getElem?_getD, List.getElem?_eq_getElem h1]
      exact List.getElem_mem h1
    have hll := hl l hmem
    have bad : rowOf l = none → ¬ OfOK bs := fun e h => h.1 i h1 (by rw [hrow]; exact e)
    have good : ∀ r, rowOf l = some r → (∀ j, j < i + 1 → rowOf (bs.getD j []) ≠ none) ∧ rowsOf bs i = r := fun r e => by
      refine ⟨fun j hj => ?_, by rw [rowsOf, hrow, e]; rfl⟩
      rcases Nat.lt_or_ge j i with h2 | h2
      · exact hup j h2
      · obtain rfl : j = i := by omega
        rw [hrow, e]; simp
    refine x.cond rfl (by simp only [AllP]; omega) (fun h2 => ?_) (fun h2 => ?_)
    · have h2 : ((bs.getD i []).length : Int) = 0 := of_decide_eq_true h2
      rw [hrow] at h2
      have hb := bad (by rw [rowOf, if_pos (by omega)])
      rw [ofG, if_neg hb, decide_eq_false hb]
      refine x.exit rfl trivial ?_
      exact ⟨.inr rfl, ⟨rfl, rfl, trivial⟩, trivial, rfl⟩
    have h2 : l.length ≠ 0 := by
      have h2 : ¬ ((bs.getD i []).length : Int) = 0 := of_decide_eq_false h2
      rw [hrow] at h2
      omega
    obtain ⟨o, ho⟩ : ∃ o, l.getD (l.length - 1) default = o := ⟨_, rfl⟩
    have hro : rowOf l = outs o := by rw [rowOf, if_neg h2, ho]
    have hraw : (bs.getD ((i : Int)).toNat []).getD (((bs.getD ((i : Int)).toNat []).length : Int) - 1).toNat default = o := by
      rw [show ((i : Int)).toNat = i from rfl, hrow, show ((l.length : Int) - 1).toNat = l.length - 1 by omega, ho]
    have hnext : ∀ r, outs o = some r → ∀ j, j < i + 1 → zipIte (j < i) [dInts (rowsOf bs j)] [dInts r] = [dInts (rowsOf bs j)] := fun r e j hj => by
      by_cases hji : j < i
      · rw [zipIte_pos hji]
      · obtain rfl : j = i := by omega
        rw [zipIte_neg hji, (good r (hro.trans e)).2]
    have hbox : HLE [(0, Ch.box [vi p, vi q, .d (dBlocks bs)])] [(0, Ch.box [vi p, vi q, .d (dBlocks bs)])] := ⟨⟨rfl, rfl, veq0_d rfl, trivial⟩, trivial⟩
    refine x.cond rfl ?_ (fun h3 => ?_) (fun h3 => ?_)
    · simp only [AllP, inI64]
      simp only [show ((i : Int)).toNat = i from rfl, hrow]
      omega
    · rw [hraw] at h3
      simp only [Bool.or_eq_true, decide_eq_true_eq] at h3
      have hb := bad (hro.trans (by rw [outs, if_neg (by omega), if_neg (by omega), if_neg (by omega)]))
      rw [ofG, if_neg hb, decide_eq_false hb]
      refine x.exit rfl trivial ?_
      exact ⟨.inr rfl, ⟨rfl, rfl, trivial⟩, trivial, rfl⟩
    rw [hraw] at h3 ⊢
    simp only [Bool.or_eq_false_iff, decide_eq_false_iff_not] at h3
    refine x.cond rfl trivial (fun h4 => ?_) (fun h4 => ?_)
    · have h4 : ¬ o.k = 13 := by simpa using h4
      refine x.cond rfl ?_ (fun h5 => ?_) (fun h5 => ?_)
      · simp only [AllP, big]; omega
      · simp only [Bool.and_eq_true, decide_eq_true_eq, Bool.not_eq_true', decide_eq_false_iff_not] at h5
        have e : outs o = some [o.b, o.c] := by rw [outs, if_pos h5]
        refine x.op rfl (by simp only [AllP, big]; omega) ?_
        refine x.le (s' := ⟨[(1, .ptr 0 0), (5, vi (i : Int)), (64, .own 1), (65, .own 4)], [(0, .box [vi p, vi q, .d (dBlocks bs)]), (1, .vec 23 1 i fun j => [dInts (rowsOf bs j)]), (4, outC [o.b, o.c])], 6⟩) ?_ ?_
        · exact ⟨⟨⟨rfl, rfl⟩, rfl, rfl, rfl, trivial⟩, ⟨⟨rfl, rfl, veq0_d rfl, trivial⟩, ⟨rfl, rfl, rfl, fun _ _ => rfl⟩, ⟨rfl, rfl, rfl, fun j hj => by match j, hj with | 0, _ => rfl | 1, _ => rfl⟩, trivial⟩, rfl⟩
        refine Sx.Go.freeze 4 ?_
        refine x.back rfl ?_ ⟨⟨i + 1, by omega, (good _ (hro.trans e)).1⟩, by show bs.length - (i + 1) < bs.length - i; omega, ⟨⟨rfl, rfl⟩, rfl, rfl, trivial⟩, ⟨⟨rfl, rfl, veq0_d rfl, trivial⟩, ⟨rfl, rfl, rfl, fun j hj => hnext _ e j hj⟩, trivial⟩, rfl⟩
        simp only [AllP, inI64, big]; omega
      · have h5 : ¬ (o.k = 12 ∧ o.c ≠ o.b) := by
          intro hh
          rw [decide_eq_true hh.1, decide_eq_false hh.2] at h5
          cases h5
        have e : outs o = some [o.b] := by rw [outs, if_neg h5, if_pos (by omega)]
        refine x.op rfl trivial ?_
        refine x.le (s' := ⟨[(1, .ptr 0 0), (5, vi (i : Int)), (64, .own 1), (65, .own 4)], [(0, .box [vi p, vi q, .d (dBlocks bs)]), (1, .vec 23 1 i fun j => [dInts (rowsOf bs j)]), (4, outC [o.b])], 5⟩) ?_ ?_
        · exact ⟨⟨⟨rfl, rfl⟩, rfl, rfl, rfl, trivial⟩, ⟨⟨rfl, rfl, veq0_d rfl, trivial⟩, ⟨rfl, rfl, rfl, fun _ _ => rfl⟩, ⟨rfl, rfl, rfl, fun j hj => by match j, hj with | 0, _ => rfl⟩, trivial⟩, rfl⟩
        refine Sx.Go.freeze 4 ?_
        refine x.back rfl ?_ ⟨⟨i + 1, by omega, (good _ (hro.trans e)).1⟩, by show bs.length - (i + 1) < bs.length - i; omega, ⟨⟨rfl, rfl⟩, rfl, rfl, trivial⟩, ⟨⟨rfl, rfl, veq0_d rfl, trivial⟩, ⟨rfl, rfl, rfl, fun j hj => hnext _ e j hj⟩, trivial⟩, rfl⟩
        simp only [AllP, inI64, big]; omega
    · have h4 : o.k = 13 := by simpa using h4
      have e : outs o = some [] := by rw [outs, if_neg (by omega), if_neg (by omega), if_pos h4]
      refine x.cond rfl trivial (fun h5 => ?_) (fun h5 => ?_)
      · exfalso
        rw [h4] at h5
        simp at h5
      · refine Go.setNil 8 1 (fun j => [.int .i64 (([] : List Int).getD j 0)]) rfl ?_
        refine x.back rfl ?_ ⟨⟨i + 1, by omega, (good _ (hro.trans e)).1⟩, by show bs.length - (i + 1) < bs.length - i; omega, ⟨⟨rfl, rfl⟩, rfl, rfl, trivial⟩, ⟨⟨rfl, rfl, veq0_d rfl, trivial⟩, ⟨rfl, rfl, rfl, fun j hj => hnext _ e j hj⟩, trivial⟩, rfl⟩
        simp only [AllP, inI64, big]; omega
  · have h1 : i = bs.length := by have := of_decide_eq_false h1; omega
    subst h1
    refine x.op rfl trivial ?_
    refine Sx.Go.freeze 1 ?_
    refine x.pure rfl trivial rfl (refright_spec (graphOf bs) (graphOf_fit bs (by omega))) ⟨graphOf_deq bs, trivial⟩ ?_
    refine x.cond rfl trivial (fun h2 => ?_) (fun h2 => ?_)
    · have hg : ¬ GOK (graphOf bs) := by simpa using h2
      have hb : ¬ OfOK bs := fun h => hg h.2
      rw [ofG, if_neg hb, decide_eq_false hb]
      refine x.exit rfl trivial ?_
      exact ⟨.inr rfl, ⟨rfl, rfl, trivial⟩, trivial, rfl⟩
    · have hg : GOK (graphOf bs) := by simpa using h2
      have hb : OfOK bs := ⟨hup, hg⟩
      rw [ofG, if_pos hb, decide_eq_true hb]
      refine x.exit rfl trivial ?_
      exact ⟨.inr rfl, ⟨graphOf_deq bs, rfl, trivial⟩, trivial, rfl⟩

theorem ofG_fit (bs : List (List OpV)) (h : bs.length ≤ 64) : Fit (ofG bs) := by
  unfold ofG
  split
  · exact graphOf_fit bs (by omega)
  · exact ⟨by simp, by simp⟩

theorem graphOfLaw_spec (p q : Int) (bs : List (List OpV)) (hl : ∀ l ∈ bs, l.length ≤ 9223372036854775807) : Pure PG 8 [bodyV p q bs] (vb true) [] := by
  refine Proc.mk (cfg 32) tysOK [] Try.func8 rfl (by kernel_rfl) rfl rfl rfl ?_
  intro C x
  refine x.cond rfl trivial (fun h => ?_) (fun h => ?_)
  · refine x.exit rfl trivial ?_
    exact ⟨.inr rfl, rfl, trivial, rfl⟩
  have hn : bs.length ≤ 64 := by have := of_decide_eq_false h; omega
  have hf := ofG_fit bs hn
  refine x.pure rfl trivial rfl (of_spec p q bs hn hl) ⟨⟨rfl, rfl, veq0_d rfl, trivial⟩, trivial⟩ ?_
  refine x.pure rfl trivial rfl (refof_spec p q bs hn hl) ⟨⟨rfl, rfl, veq0_d rfl, trivial⟩, trivial⟩ ?_
  refine x.pureG rfl trivial rfl (fun _ => same_spec (ofG bs) (ofG bs) hf hf) rfl ⟨veq_d rfl, veq_d rfl, trivial⟩ ?_
  refine x.pureG rfl trivial rfl (fun _ => awake_spec) rfl trivial ?_
  refine x.exit rfl trivial ?_
  refine ⟨.inr rfl, ?_, trivial, rfl⟩
  show (((decide (OfOK bs) == decide (OfOK bs)) && decide (ofG bs = ofG bs)) && true) = true
  simp
end Go.Proofs.Ytdgopbgckdnncaa
