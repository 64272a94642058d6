/- The graph of a function's blocks. -/
import Derived.Test.YtdgopbgckdnncaaT10I
import Derived.Test.YtdgopbgckdnncaaSx32
namespace Go.Proofs.Ytdgopbgckdnncaa
open Go.Sx
set_option linter.unusedVariables false
set_option linter.unusedSimpArgs false
set_option maxRecDepth 100000

/-- Where a block's last instruction leads. -/
def outs (o : OpV) : Option (List Int) := if o.k = 12 ∧ o.c ≠ o.b then some [o.b, o.c] else if o.k = 12 ∨ o.k = 11 then some [o.b] else if o.k = 13 then some [] else none
def rowOf (l : List OpV) : Option (List Int) := if l.length = 0 then none else outs (l.getD (l.length - 1) default)
/-- All rows, of the first i blocks. -/
def rowsOf (bs : List (List OpV)) (j : Nat) : List Int := (rowOf (bs.getD j [])).getD []
def graphOf (bs : List (List OpV)) : List (List Int) := (List.range bs.length).map (rowsOf bs)
def OfOK (bs : List (List OpV)) : Prop := (∀ j, j < bs.length → rowOf (bs.getD j []) ≠ none) ∧ GOK (graphOf bs)
instance (bs : List (List OpV)) : Decidable (OfOK bs) := by unfold OfOK; exact inferInstance
abbrev bodyV (p q : Int) (bs : List (List OpV)) : V := .agg [vi p, vi q, .d (dBlocks bs)]
def ofG (bs : List (List OpV)) : List (List Int) := if OfOK bs then graphOf bs else []

theorem graphOf_deq (bs : List (List OpV)) : DEq (.sl 1 bs.length fun j => [dInts (rowsOf bs j)]) (dRows (graphOf bs)) := by
  refine ⟨by simp [graphOf], fun _ => rfl, fun j hj => ?_⟩
  show [dInts (rowsOf bs j)] = [dInts ((graphOf bs).getD j [])]
  rw [graphOf, getD_map_range _ _ hj]
theorem graphOf_fit (bs : List (List OpV)) (h : bs.length ≤ 9223372036854775807) : Fit (graphOf bs) := by
  refine ⟨by simpa [graphOf] using h, fun l hl => ?_⟩
  obtain ⟨j, _, rfl⟩ := List.mem_map.1 hl
  unfold rowsOf rowOf outs
  split
  · simp
  · split
    · simp
    · split
      · simp
      · split <;> simp

theorem of_spec (p q : Int) (bs : List (List OpV)) (hn : bs.length ≤ 64) (hl : ∀ l ∈ bs, l.length ≤ 9223372036854775807) : Pure PG 24 [bodyV p q bs] (.tup [gv (ofG bs), vb (decide (OfOK bs))]) [] := by
  refine Proc.mk (cfg 66) tysOK [] Try.func24 rfl (by kernel_rfl) rfl rfl rfl ?_
  intro C x
  refine x.toLoop rfl trivial ?_
  refine Go.own 4 23 1 (fun j => [dInts (rowsOf bs j)]) rfl ?_
  refine x.loop (α := { i : Nat // i ≤ bs.length ∧ ∀ j, j < i → rowOf (bs.getD j []) ≠ none }) (fun y => ⟨[(4, .own 1), (10, .d (dBlocks bs)), (11, vi (bs.length : Int)), (12, vi (y.1 : Int))], [(1, .vec 23 1 y.1 fun j => [dInts (rowsOf bs j)])], 2⟩) (fun y => bs.length - y.1) ⟨0, by omega, fun j hj => by omega⟩ rfl trivial ⟨⟨rfl, veq_d rfl, rfl, rfl, trivial⟩, ⟨⟨rfl, rfl, rfl, fun _ _ => rfl⟩, trivial⟩, rfl⟩ (fun y => ?_)
  obtain ⟨i, hi, hup⟩ := y
  change Go C _ ⟨[(4, .own 1), (10, .d (dBlocks bs)), (11, vi (bs.length : Int)), (12, vi (i : Int))], [(1, .vec 23 1 i fun j => [dInts (rowsOf bs j)])], 2⟩ _
  refine x.cond rfl trivial (fun h1 => ?_) (fun h1 => ?_)
  · have h1 : i < bs.length := by have := of_decide_eq_true h1; omega
    obtain ⟨l, hrow⟩ : ∃ l, bs.getD i [] = l := ⟨_, rfl⟩
    have hmem : l ∈ bs := by
      rw [← hrow, List.getD_eq_getElem?_getD, List.getElem?_eq_getElem h1]
      exact List.getElem_mem h1
    have hll := hl l hmem
    have bad : rowOf l = none → ¬ OfOK bs := fun e h => h.1 i h1 (by rw [hrow]; exact e)
    have good : ∀ r, rowOf l = some r → (∀ j, j < i + 1 → rowOf (bs.getD j []) ≠ none) ∧ rowsOf bs i = r := fun r e => by
      refine ⟨fun j hj => ?_, by rw [rowsOf, hrow, e]; rfl⟩
      rcases Nat.lt_or_ge j i with h2 | h2
      · exact hup j h2
      · obtain rfl : j = i := by omega
        rw [hrow, e]; simp
    refine x.cond rfl (by simp only [AllP]; omega) (fun h2 => ?_) (fun h2 => ?_)
    · have h2 : ((bs.getD i []).length : Int) = 0 := of_decide_eq_true h2
      rw [hrow] at h2
      have hb := bad (by rw [rowOf, if_pos (by omega)])
      rw [ofG, if_neg hb, decide_eq_false hb]
      refine x.exit rfl trivial ?_
      exact ⟨.inr rfl, ⟨rfl, rfl, trivial⟩, trivial, rfl⟩
    have h2 : l.length ≠ 0 := by
      have h2 : ¬ ((bs.getD i []).length : Int) = 0 := of_decide_eq_false h2
      rw [hrow] at h2
      omega
    obtain ⟨o, ho⟩ : ∃ o, l.getD (l.length - 1) default = o := ⟨_, rfl⟩
    have hro : rowOf l = outs o := by rw [rowOf, if_neg h2, ho]
    have hraw : (bs.getD ((i : Int)).toNat []).getD (((bs.getD ((i : Int)).toNat []).length : Int) - 1).toNat default = o := by
      rw [show ((i : Int)).toNat = i from rfl, hrow, show ((l.length : Int) - 1).toNat = l.length - 1 by omega, ho]
    have hnext : ∀ r, outs o = some r → ∀ j, j < i + 1 → zipIte (j < i) [dInts (rowsOf bs j)] [dInts r] = [dInts (rowsOf bs j)] := fun r e j hj => by
      by_cases hji : j < i
      · rw [zipIte_pos hji]
      · obtain rfl : j = i := by omega
        rw [zipIte_neg hji, (good r (hro.trans e)).2]
    refine x.cond rfl ?_ (fun h3 => ?_) (fun h3 => ?_)
    · simp only [AllP, inI64]
      simp only [show ((i : Int)).toNat = i from rfl, hrow]
      omega
    · rw [hraw] at h3 ⊢
      simp only [Bool.and_eq_true, decide_eq_true_eq, Bool.not_eq_true', decide_eq_false_iff_not] at h3
      have e : outs o = some [o.b, o.c] := by rw [outs, if_pos h3]
      refine x.op rfl trivial ?_
      refine x.le (s' := ⟨[(10, .d (dBlocks bs)), (11, vi (bs.length : Int)), (12, vi (i : Int)), (57, .own 1), (58, .own 3)], [(1, .vec 23 1 i fun j => [dInts (rowsOf bs j)]), (3, outC [o.b, o.c])], 4⟩) ?_ ?_
      · exact ⟨⟨veq_d rfl, rfl, rfl, rfl, rfl, trivial⟩, ⟨⟨rfl, rfl, rfl, fun _ _ => rfl⟩, ⟨rfl, rfl, rfl, fun j hj => by match j, hj with | 0, _ => rfl | 1, _ => rfl⟩, trivial⟩, rfl⟩
      refine Sx.Go.freeze 3 ?_
      refine x.back rfl ?_ ⟨⟨i + 1, by omega, (good _ (hro.trans e)).1⟩, by show bs.length - (i + 1) < bs.length - i; omega, ⟨rfl, veq_d rfl, rfl, rfl, trivial⟩, ⟨⟨rfl, rfl, rfl, fun j hj => hnext _ e j hj⟩, trivial⟩, rfl⟩
      simp only [AllP, inI64, big]; omega
    · rw [hraw] at h3 ⊢
      have h3 : ¬ (o.k = 12 ∧ o.c ≠ o.b) := by
        intro hh
        rw [decide_eq_true hh.1, decide_eq_false hh.2] at h3
        cases h3
      refine x.cond rfl trivial (fun h4 => ?_) (fun h4 => ?_)
      · simp only [Bool.or_eq_true, decide_eq_true_eq] at h4
        have e : outs o = some [o.b] := by rw [outs, if_neg h3, if_pos h4]
        refine x.op rfl trivial ?_
        refine x.le (s' := ⟨[(10, .d (dBlocks bs)), (11, vi (bs.length : Int)), (12, vi (i : Int)), (57, .own 1), (58, .own 3)], [(1, .vec 23 1 i fun j => [dInts (rowsOf bs j)]), (3, outC [o.b])], 4⟩) ?_ ?_
        · exact ⟨⟨veq_d rfl, rfl, rfl, rfl, rfl, trivial⟩, ⟨⟨rfl, rfl, rfl, fun _ _ => rfl⟩, ⟨rfl, rfl, rfl, fun j hj => by match j, hj with | 0, _ => rfl⟩, trivial⟩, rfl⟩
        refine Sx.Go.freeze 3 ?_
        refine x.back rfl ?_ ⟨⟨i + 1, by omega, (good _ (hro.trans e)).1⟩, by show bs.length - (i + 1) < bs.length - i; omega, ⟨rfl, veq_d rfl, rfl, rfl, trivial⟩, ⟨⟨rfl, rfl, rfl, fun j hj => hnext _ e j hj⟩, trivial⟩, rfl⟩
        simp only [AllP, inI64, big]; omega
      · simp only [Bool.or_eq_false_iff, decide_eq_false_iff_not] at h4
        have h4 : ¬ (o.k = 12 ∨ o.k = 11) := by omega
        refine x.cond rfl trivial (fun h5 => ?_) (fun h5 => ?_)
        · have h5 : ¬ o.k = 13 := by simpa using h5
          have hb := bad (hro.trans (by rw [outs, if_neg h3, if_neg h4, if_neg h5]))
          rw [ofG, if_neg hb, decide_eq_false hb]
          refine x.exit rfl trivial ?_
          exact ⟨.inr rfl, ⟨rfl, rfl, trivial⟩, trivial, rfl⟩
        · have h5 : o.k = 13 := by simpa using h5
          have e : outs o = some [] := by rw [outs, if_neg h3, if_neg h4, if_pos h5]
          refine Go.setNil 7 1 (fun j => [.int .i64 (([] : List Int).getD j 0)]) rfl ?_
          refine x.back rfl ?_ ⟨⟨i + 1, by omega, (good _ (hro.trans e)).1⟩, by show bs.length - (i + 1) < bs.length - i; omega, ⟨rfl, veq_d rfl, rfl, rfl, trivial⟩, ⟨⟨rfl, rfl, rfl, fun j hj => hnext _ e j hj⟩, trivial⟩, rfl⟩
          simp only [AllP, inI64, big]; omega
  · have h1 : i = bs.length := by have := of_decide_eq_false h1; omega
    subst h1
    refine x.op rfl trivial ?_
    refine Sx.Go.freeze 1 ?_
    refine x.pure rfl trivial rfl (right_spec (graphOf bs) (graphOf_fit bs (by omega))) ⟨graphOf_deq bs, trivial⟩ ?_
    refine x.cond rfl trivial (fun h2 => ?_) (fun h2 => ?_)
    · have hg : ¬ GOK (graphOf bs) := by simpa using h2
      have hb : ¬ OfOK bs := fun h => hg h.2
      rw [ofG, if_neg hb, decide_eq_false hb]
      refine x.exit rfl trivial ?_
      exact ⟨.inr rfl, ⟨rfl, rfl, trivial⟩, trivial, rfl⟩
    · have hg : GOK (graphOf bs) := by simpa using h2
      have hb : OfOK bs := ⟨hup, hg⟩
      rw [ofG, if_pos hb, decide_eq_true hb]
      refine x.exit rfl trivial ?_
      exact ⟨.inr rfl, ⟨graphOf_deq bs, rfl, trivial⟩, trivial, rfl⟩
end Go.Proofs.Ytdgopbgckdnncaa
