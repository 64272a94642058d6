/- The law GraphRights. -/
import Derived.Test.YtdgopbgckdnncaaT10I
namespace Go.Proofs.Ytdgopbgckdnncaa
open Go.Sx
set_option linter.unusedVariables false
set_option linter.unusedSimpArgs false
set_option maxRecDepth 100000

theorem backL_fit (to : List (List Int)) (hg : GOK to) : Fit (backL to) := by
  have hn := hg.2.1
  refine ⟨by simp [backL]; omega, fun l hl => ?_⟩
  obtain ⟨v, hv, rfl⟩ := List.mem_map.1 hl
  have := into_len to to.length v
  omega
theorem backG_fit (to : List (List Int)) : Fit (backG to) := by
  unfold backG
  split
  · rename_i hg
    exact backL_fit to hg
  · exact ⟨by simp, by simp⟩

theorem graphRights_spec (to : List (List Int)) (i : Int) (hf : Fit to) (hz : ∀ l ∈ to, l.length * 8 ≤ big) : Pure PG 4 [gv to, vi i] (vb true) [] := by
  refine Proc.mk (cfg 65) tysOK [] Try.func4 rfl (by kernel_rfl) rfl rfl rfl ?_
  intro C x
  refine x.cond rfl trivial (fun h => ?_) (fun h => ?_)
  · refine x.exit rfl trivial ?_
    exact ⟨.inr rfl, rfl, trivial, rfl⟩
  have hn : to.length ≤ 64 := by have := of_decide_eq_false h; omega
  refine x.pure rfl trivial rfl (refright_spec to hf) ⟨veq_d rfl, trivial⟩ ?_
  refine x.pure rfl trivial rfl (copy_spec to hn hz) ⟨veq_d rfl, trivial⟩ ?_
  refine x.pure rfl trivial rfl (back_spec to hf) ⟨veq_d rfl, trivial⟩ ?_
  refine x.pure rfl trivial rfl (copy_spec to hn hz) ⟨veq_d rfl, trivial⟩ ?_
  refine x.pure rfl trivial rfl (reached_spec to i hf) ⟨veq_d rfl, rfl, trivial⟩ ?_
  refine x.pure rfl trivial rfl (copy_spec to hn hz) ⟨veq_d rfl, trivial⟩ ?_
  refine x.pure rfl trivial rfl (right_spec to hf) ⟨veq_d rfl, trivial⟩ ?_
  refine x.cond rfl trivial (fun h => ?_) (fun h => ?_)
  · exact absurd h (by simp)
  clear h
  refine x.cond rfl trivial (fun h => ?_) (fun h => ?_)
  · have hg : ¬ GOK to := by simpa using h
    have e1 : backG to = [] := by rw [backG, if_neg hg]
    have e2 : reachN to i = 0 := by
      unfold reachN
      rw [if_neg (fun h => hg h.1)]
    rw [e1, e2]
    refine x.pureG rfl trivial rfl (fun _ => awake_spec) rfl trivial ?_
    refine x.exit rfl trivial ?_
    refine ⟨.inr rfl, ?_, trivial, rfl⟩
    rfl
  have hg : GOK to := by simpa using h
  have e1 : backG to = backL to := by rw [backG, if_pos hg]
  rw [e1]
  have hbf := backL_fit to hg
  refine x.pure rfl trivial rfl (refback_spec to hg) ⟨veq_d rfl, trivial⟩ ?_
  refine x.pure rfl trivial rfl (same_spec (backL to) (backL to) hbf hbf) ⟨veq_d rfl, veq_d rfl, trivial⟩ ?_
  refine x.cond rfl trivial (fun h => ?_) (fun h => ?_)
  · exact absurd h (by simp)
  clear h
  refine x.cond rfl trivial (fun h => ?_) (fun h => ?_)
  · have e2 : reachN to i = 0 := by
      have h : (decide (i < 0) || decide ((to.length : Int) ≤ i)) = true := h
      simp only [Bool.or_eq_true, decide_eq_true_eq] at h
      unfold reachN
      rw [if_neg (by rintro ⟨_, h1, h2⟩; omega)]
    rw [e2]
    refine x.pureG rfl trivial rfl (fun _ => awake_spec) rfl trivial ?_
    refine x.exit rfl trivial ?_
    refine ⟨.inr rfl, ?_, trivial, rfl⟩
    rfl
  have h : 0 ≤ i ∧ i < to.length := by
    have h : (decide (i < 0) || decide ((to.length : Int) ≤ i)) = false := h
    simp only [Bool.or_eq_false_iff, decide_eq_false_iff_not] at h
    omega
  have e2 : reachN to i = to.length := by
    unfold reachN
    rw [if_pos ⟨hg, h.1, h.2⟩]
  rw [e2]
  refine x.pure rfl trivial rfl (without_spec to hg i.toNat (-1) (by omega)) ⟨veq_d rfl, (show i = ((i.toNat : Nat) : Int) by omega), rfl, trivial⟩ ?_
  refine x.pure rfl trivial rfl (bools_spec to.length to.length (seen to i.toNat) (wayB to (-1) i.toNat) (by omega) (by omega)) ⟨veq_d rfl, veq_d rfl, trivial⟩ ?_
  refine x.pureG rfl trivial rfl (fun _ => awake_spec) rfl trivial ?_
  refine x.exit rfl trivial ?_
  refine ⟨.inr rfl, ?_, trivial, rfl⟩
  have hall : to.length = to.length ∧ ∀ j, j < to.length → seen to i.toNat j = wayB to (-1) i.toNat j := ⟨rfl, fun j _ => by rw [Bool.eq_iff_iff, seen_iff hg (by omega), wayB_iff]⟩
  show (decide _ && true) = true
  rw [decide_eq_true hall]
  rfl
end Go.Proofs.Ytdgopbgckdnncaa
