/- graph.Stuck; the law GraphEnds. -/
import Derived.Test.YtdgopbgckdnncaaT10P
namespace Go.Proofs.Ytdgopbgckdnncaa
open Go.Sx
set_option linter.unusedVariables false
set_option linter.unusedSimpArgs false
set_option maxRecDepth 100000

theorem walkF_S {to : List (List Int)} (hg : GOK to) (n i : Nat) (hto : to.length = n) (hi : i < n) : Pure PG 30 [gv to, vi (i : Int), .fn 37 []] (.own 0) [beenC n (seen to i)] := by
  subst hto
  refine Proc.mk (cfg 17) tysOK [2] Try.func30 rfl (by kernel_rfl) rfl rfl rfl ?_
  intro C x
  have hn := hg.2.1
  refine x.call [3, 0, 4, 1, 2] rfl ?_ rfl (walkS_spec hg (to.length + 1) i (fun _ => false, []) hi rfl (by rw [freeN_no]; omega) (by rw [freeN_no]; simp)) rfl ⟨rfl, ⟨rfl, rfl⟩, ⟨rfl, rfl⟩, ⟨rfl, rfl⟩, ⟨rfl, rfl⟩, trivial⟩ ?_ ?_
  · simp only [AllP, big, Int.toNat_natCast]; omega
  · exact ⟨⟨rfl, trivial⟩, ⟨veq0_d rfl, trivial⟩, ⟨rfl, trivial⟩, ⟨rfl, trivial⟩, ⟨rfl, rfl, rfl, fun _ _ => rfl⟩, trivial⟩
  refine x.exit rfl trivial ?_
  exact ⟨.inr rfl, rfl, ⟨⟨rfl, rfl, rfl, fun _ _ => rfl⟩, trivial⟩, rfl⟩

def accE (to : List (List Int)) (i k : Nat) : Bool := (List.range i).any fun j => decide ((to.getD j []).length = 0) && seen (backL to) j k
theorem accE_succ (to : List (List Int)) (i k : Nat) : accE to (i + 1) k = (accE to i k || (decide ((to.getD i []).length = 0) && seen (backL to) i k)) := by
  unfold accE
  rw [List.range_succ, List.any_append]
  simp only [List.any_cons, List.any_nil, Bool.or_false]
theorem accE_ends {to : List (List Int)} (hg : GOK to) {k : Nat} (hk : k < to.length) : accE to to.length k = endsB to k := by
  unfold accE endsB
  rw [Bool.eq_iff_iff]
  simp only [List.any_eq_true, List.mem_range, Bool.and_eq_true, decide_eq_true_eq]
  constructor
  · rintro ⟨j, h1, h2, h3⟩
    refine ⟨j, h1, ?_, h2⟩
    rw [wayB_iff]
    exact (way_back_iff hg hk h1).1 ((seen_iff (backL_gok hg) (by rw [backL_len]; exact h1) k).1 h3)
  · rintro ⟨j, h1, h2, h3⟩
    refine ⟨j, h1, h3, ?_⟩
    rw [seen_iff (backL_gok hg) (by rw [backL_len]; exact h1)]
    exact (way_back_iff hg hk h1).2 (wayB_iff.1 h2)

noncomputable def stuckN (to : List (List Int)) : Int := if GOK to then fstB (endsB to) false to.length else -1
theorem stuck_spec (to : List (List Int)) (hf : Fit to) : Pure PG 27 [gv to] (.tup [vi (mx0 (stuckN to)), vb (decide (0 ≤ stuckN to))]) [] := by
  refine Proc.mk (cfg 53) tysOK [] Try.func27 rfl (by kernel_rfl) rfl rfl rfl ?_
  intro C x
  refine x.pure rfl trivial rfl (right_spec to hf) ⟨veq_d rfl, trivial⟩ ?_
  refine x.cond rfl trivial (fun h => ?_) (fun h => ?_)
  · have hg : ¬ GOK to := by simpa using h
    have e : stuckN to = -1 := by rw [stuckN, if_neg hg]
    rw [e]
    refine x.exit rfl trivial ?_
    exact ⟨.inr rfl, ⟨rfl, rfl, trivial⟩, trivial, rfl⟩
  have hg : GOK to := by simpa using h
  have hn := hg.2.1
  have e : stuckN to = fstB (endsB to) false to.length := by rw [stuckN, if_pos hg]
  rw [e]
  refine x.pure rfl trivial rfl (back_spec to hf) ⟨veq_d rfl, trivial⟩ ?_
  have e1 : backG to = backL to := by rw [backG, if_pos hg]
  rw [e1]
  have hg1 := backL_gok hg
  have hl1 := backL_len to
  refine x.loop (α := { i : Nat // i ≤ to.length }) (fun y => ⟨[(4, gv (backL to)), (5, .own 0), (18, gv to), (19, vi (to.length : Int)), (20, vi (y.1 : Int))], [(0, beenC to.length (accE to y.1))], 1⟩) (fun y => to.length - y.1) ⟨0, by omega⟩ rfl ?_ ⟨⟨veq_d rfl, rfl, veq_d rfl, rfl, rfl, trivial⟩, ⟨⟨rfl, rfl, rfl, fun j hj => rfl⟩, trivial⟩, rfl⟩ (fun y => ?_)
  · simp only [AllP, big, Int.toNat_natCast]; omega
  obtain ⟨i, hi⟩ := y
  change Go C _ ⟨[(4, gv (backL to)), (5, .own 0), (18, gv to), (19, vi (to.length : Int)), (20, vi (i : Int))], [(0, beenC to.length (accE to i))], 1⟩ _
  refine x.cond rfl trivial (fun h1 => ?_) (fun h1 => ?_)
  · have h1 : i < to.length := by have := of_decide_eq_true h1; omega
    refine x.cond rfl (by simp only [AllP]; omega) (fun h2 => ?_) (fun h2 => ?_)
    · have h2 : (0 : Int) < ((to.getD i []).length : Int) := of_decide_eq_true h2
      refine x.back rfl (show inI64 _ by unfold inI64; omega) ⟨⟨i + 1, by omega⟩, by show to.length - (i + 1) < to.length - i; omega, ⟨veq_d rfl, rfl, veq_d rfl, rfl, rfl, trivial⟩, ⟨⟨rfl, rfl, rfl, fun j hj => ?_⟩, trivial⟩, rfl⟩
      show [D.bool (accE to i j)] = [D.bool (accE to (i + 1) j)]
      rw [accE_succ, decide_eq_false (by omega)]
      simp
    have h2 : (to.getD i []).length = 0 := by
      have h2 : ¬ (0 : Int) < ((to.getD i []).length : Int) := of_decide_eq_false h2
      omega
    have hacc : ∀ k, accE to (i + 1) k = (accE to i k || seen (backL to) i k) := fun k => by
      rw [accE_succ, decide_eq_true h2, Bool.true_and]
    refine x.call [] rfl trivial rfl (walkF_S hg1 to.length i hl1 h1) rfl ⟨veq_d rfl, rfl, rfl, trivial⟩ trivial ?_
    refine x.loop (α := { k : Nat // k ≤ to.length }) (fun y => ⟨[(4, gv (backL to)), (5, .own 0), (18, gv to), (19, vi (to.length : Int)), (20, vi (i : Int)), (30, .own 1), (31, vi (to.length : Int)), (32, vi (y.1 : Int))], [(0, beenC to.length fun v => if v < y.1 then accE to (i + 1) v else accE to i v), (1, beenC to.length (seen (backL to) i))], 2⟩) (fun y => to.length - y.1) ⟨0, by omega⟩ rfl trivial ?_ (fun y => ?_)
    · exact ⟨⟨veq_d rfl, rfl, veq_d rfl, rfl, rfl, rfl, rfl, rfl, trivial⟩, ⟨⟨rfl, rfl, rfl, fun j hj => by simp⟩, ⟨rfl, rfl, rfl, fun j hj => rfl⟩, trivial⟩, rfl⟩
    obtain ⟨k, hk⟩ := y
    change Go C _ ⟨[(4, gv (backL to)), (5, .own 0), (18, gv to), (19, vi (to.length : Int)), (20, vi (i : Int)), (30, .own 1), (31, vi (to.length : Int)), (32, vi (k : Int))], [(0, beenC to.length fun v => if v < k then accE to (i + 1) v else accE to i v), (1, beenC to.length (seen (backL to) i))], 2⟩ _
    refine x.cond rfl trivial (fun h3 => ?_) (fun h3 => ?_)
    · have h3 : k < to.length := by have := of_decide_eq_true h3; omega
      refine x.back rfl ?_ ⟨⟨k + 1, by omega⟩, by show to.length - (k + 1) < to.length - k; omega, ⟨veq_d rfl, rfl, veq_d rfl, rfl, rfl, rfl, rfl, rfl, trivial⟩, ⟨⟨rfl, rfl, rfl, fun v hv => ?_⟩, ⟨rfl, rfl, rfl, fun j hj => rfl⟩, trivial⟩, rfl⟩
      · simp only [AllP, inI64, List.length]
        exact ⟨by omega, by omega, by omega, by omega, by omega, ⟨by omega, Nat.le_refl _⟩, by omega⟩
      · refine (congrFun (put2_bool (fun v => if v < k then accE to (i + 1) v else accE to i v) k _) v).trans ?_
        show [D.bool (if v = k then ((if k < k then accE to (i + 1) k else accE to i k) || seen (backL to) i k) else if v < k then accE to (i + 1) v else accE to i v)] = [D.bool (if v < k + 1 then accE to (i + 1) v else accE to i v)]
        by_cases hvj : v = k
        · rw [if_pos hvj, if_neg (Nat.lt_irrefl _), if_pos (by omega), hvj, hacc]
        · rw [if_neg hvj]
          by_cases hlt : v < k
          · rw [if_pos hlt, if_pos (by omega)]
          · rw [if_neg hlt, if_neg (by omega)]
    · have h3 : k = to.length := by have := of_decide_eq_false h3; omega
      subst h3
      refine x.back rfl (show inI64 _ by unfold inI64; omega) ⟨⟨i + 1, by omega⟩, by show to.length - (i + 1) < to.length - i; omega, ⟨veq_d rfl, rfl, veq_d rfl, rfl, rfl, trivial⟩, ⟨⟨rfl, rfl, rfl, fun v hv => ?_⟩, trivial⟩, rfl⟩
      show [D.bool (if v < to.length then accE to (i + 1) v else accE to i v)] = [D.bool (accE to (i + 1) v)]
      rw [if_pos hv]
  have h1 : i = to.length := by have := of_decide_eq_false h1; omega
  subst h1
  refine x.op rfl trivial ?_
  refine Sx.Go.freeze 0 ?_
  rw [← fstB_congr (b := accE to to.length) fun j hj => accE_ends hg hj]
  refine x.pure rfl trivial rfl (first_spec to.length (accE to to.length) (by omega)) ⟨veq_d rfl, trivial⟩ ?_
  refine x.exit rfl trivial ?_
  exact ⟨.inr rfl, ⟨rfl, rfl, trivial⟩, trivial, rfl⟩

theorem graphEnds_spec (to : List (List Int)) (hf : Fit to) (hz : ∀ l ∈ to, l.length * 8 ≤ big) : Pure PG 9 [gv to] (vb true) [] := by
  refine Proc.mk (cfg 73) tysOK [] Try.func9 rfl (by kernel_rfl) rfl rfl rfl ?_
  intro C x
  refine x.cond rfl trivial (fun h => ?_) (fun h => ?_)
  · refine x.exit rfl trivial ?_
    exact ⟨.inr rfl, rfl, trivial, rfl⟩
  have hn : to.length ≤ 64 := by have := of_decide_eq_false h; omega
  refine x.pure rfl trivial rfl (copy_spec to hn hz) ⟨veq_d rfl, trivial⟩ ?_
  refine x.pure rfl trivial rfl (lost_spec to hf) ⟨veq_d rfl, trivial⟩ ?_
  refine x.pure rfl trivial rfl (copy_spec to hn hz) ⟨veq_d rfl, trivial⟩ ?_
  refine x.pure rfl trivial rfl (stuck_spec to hf) ⟨veq_d rfl, trivial⟩ ?_
  refine x.pure rfl trivial rfl (refright_spec to hf) ⟨veq_d rfl, trivial⟩ ?_
  refine x.cond rfl trivial (fun h => ?_) (fun h => ?_)
  · have hg : ¬ GOK to := by simpa using h
    have e1 : lostN to = -1 := by rw [lostN, if_neg hg]
    have e2 : stuckN to = -1 := by rw [stuckN, if_neg hg]
    rw [e1, e2]
    refine x.pureG rfl trivial rfl (fun _ => awake_spec) rfl trivial ?_
    refine x.exit rfl trivial ?_
    refine ⟨.inr rfl, ?_, trivial, rfl⟩
    rfl
  have hg : GOK to := by simpa using h
  have e1 : lostN to = fstB (wayB to (-1) 0) false to.length := by
    rw [lostN, if_pos hg]
    refine fstB_congr fun j hj => ?_
    rw [Bool.eq_iff_iff, seen_iff hg hg.1, wayB_iff]
  have e2 : stuckN to = fstB (endsB to) false to.length := by rw [stuckN, if_pos hg]
  rw [e1, e2]
  refine x.pure rfl trivial rfl (reflost_spec to hg) ⟨veq_d rfl, trivial⟩ ?_
  refine x.pure rfl trivial rfl (refstuck_spec to hg) ⟨veq_d rfl, trivial⟩ ?_
  obtain ⟨a, ha⟩ : ∃ a, fstB (wayB to (-1) 0) false to.length = a := ⟨_, rfl⟩
  obtain ⟨b, hb⟩ : ∃ b, fstB (endsB to) false to.length = b := ⟨_, rfl⟩
  rw [ha, hb]
  refine x.pureG rfl trivial rfl (fun _ => awake_spec) rfl trivial ?_
  refine x.exit rfl trivial ?_
  refine ⟨.inr rfl, ?_, trivial, rfl⟩
  show (((((decide (0 ≤ a) == decide (0 ≤ a)) && decide (mx0 a = if 0 > a then 0 else a)) && (decide (0 ≤ b) == decide (0 ≤ b))) && decide (mx0 b = if 0 > b then 0 else b)) && true) = true
  unfold mx0
  simp
end Go.Proofs.Ytdgopbgckdnncaa
