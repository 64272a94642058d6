/- The example; the law GraphOrders. -/
import Derived.Test.YtdgopbgckdnncaaT10F
namespace Go.Proofs.Ytdgopbgckdnncaa
open Go.Sx
set_option linter.unusedVariables false
set_option linter.unusedSimpArgs false
set_option maxRecDepth 100000

def exG : List (List Int) := [[1, 2], [3], [3], []]
theorem ex_gok : GOK exG := by decide +kernel
theorem ex_order : orderL exG = [0, 2, 1, 3] := by decide +kernel
theorem ex_back : (backG exG).length = 4 := by decide +kernel
theorem ex_fit : Fit exG := ⟨by decide +kernel, by decide +kernel⟩

theorem dq_ints {n : Nat} {f : Nat → List D} (l : List Int) (hn : n = l.length) (h : ∀ i, i < n → f i = [.int .i64 (l.getD i 0)]) : DQ (.sl 1 n f) (dInts l) := by
  subst hn
  refine .sl 1 _ _ _ (fun i hi => congrArg List.length (h i hi)) fun i j d d' hi hd hd' => ?_
  rw [h i hi] at hd
  rw [Option.some.inj (hd.symm.trans hd')]
  exact .refl _

theorem dq_rows {n : Nat} {f : Nat → List D} (to : List (List Int)) (hn : n = to.length) (h : ∀ i, i < n → ∃ d, f i = [d] ∧ DQ d (dInts (to.getD i []))) : DQ (.sl 1 n f) (dRows to) := by
  subst hn
  refine .sl 1 _ _ _ (fun i hi => ?_) fun i j d d' hi hd hd' => ?_
  · obtain ⟨d, e, _⟩ := h i hi
    rw [e]; rfl
  · obtain ⟨d0, e, hq⟩ := h i hi
    rw [e] at hd
    match j with
    | 0 =>
      obtain rfl : d0 = d := Option.some.inj hd
      obtain rfl := Option.some.inj hd'
      exact hq
    | j + 1 => simp at hd

theorem awake_spec : Pure PG 13 [] (vb true) [] := by
  refine Proc.mk (cfg 20) tysOK [] Try.func13 rfl (by kernel_rfl) rfl rfl rfl ?_
  intro C x
  refine x.op rfl trivial ?_
  refine Sx.Go.freeze 0 ?_
  refine Sx.Go.freeze 1 ?_
  refine Sx.Go.freeze 2 ?_
  refine Go.setD 2 rfl (dq_ints [1, 2] rfl (fun i hi => by match i, hi with | 0, _ => rfl | 1, _ => rfl)) ?_
  refine Go.setD 3 rfl (dq_ints [3] rfl (fun i hi => by match i, hi with | 0, _ => rfl)) ?_
  refine Go.setD 4 rfl (dq_ints [3] rfl (fun i hi => by match i, hi with | 0, _ => rfl)) ?_
  refine x.op rfl trivial ?_
  refine Sx.Go.freeze 3 ?_
  have hq : DQ (.sl 1 4 (tab ((((List.replicate 4 [D.sl 0 0 fun x => []]).set 0 [dInts [1, 2]]).set 1 [dInts [3]]).set 2 [dInts [3]]))) (dRows exG) :=
    dq_rows exG rfl fun i hi => by
      match i, hi with
      | 0, _ => exact ⟨_, rfl, .refl _⟩
      | 1, _ => exact ⟨_, rfl, .refl _⟩
      | 2, _ => exact ⟨_, rfl, .refl _⟩
      | 3, _ => exact ⟨_, rfl, .emp _ _ _ _⟩
  refine Go.setD 1 rfl hq ?_
  refine Go.setD 6 rfl hq ?_
  refine x.pure rfl trivial rfl (order_spec exG ex_fit) ⟨veq_d rfl, trivial⟩ ?_
  refine x.op rfl trivial ?_
  refine Sx.Go.freeze 4 ?_
  refine Go.setD 8 rfl (dq_ints [0, 2, 1, 3] rfl (fun i hi => by match i, hi with | 0, _ => rfl | 1, _ => rfl | 2, _ => rfl | 3, _ => rfl)) ?_
  rw [ex_order]
  refine x.pure rfl trivial rfl (ints_spec [0, 2, 1, 3] [0, 2, 1, 3] (by decide) (by decide)) ⟨veq_d rfl, veq_d rfl, trivial⟩ ?_
  refine x.pureG rfl trivial rfl (fun _ => right_spec exG ex_fit) rfl ⟨veq_d rfl, trivial⟩ ?_
  refine x.pureG rfl trivial rfl (fun _ => back_spec exG ex_fit) rfl ⟨veq_d rfl, trivial⟩ ?_
  refine x.exit rfl trivial ?_
  refine ⟨.inr rfl, ?_, trivial, rfl⟩
  show ((decide (([0, 2, 1, 3] : List Int) = [0, 2, 1, 3]) && decide (GOK exG)) && decide (((backG exG).length : Int) = 4)) = true
  rw [decide_eq_true ex_gok, ex_back]
  rfl

theorem order_len {to : List (List Int)} : (orderL to).length ≤ 256 := by
  unfold orderL
  split
  · rename_i hg
    have := post_len hg
    have := hg.2.1
    simp; omega
  · simp

theorem graphOrders_spec (to : List (List Int)) (hf : Fit to) (hz : ∀ l ∈ to, l.length * 8 ≤ big) : Pure PG 3 [gv to] (vb true) [] := by
  refine Proc.mk (cfg 26) tysOK [] Try.func3 rfl (by kernel_rfl) rfl rfl rfl ?_
  intro C x
  refine x.cond rfl trivial (fun h => ?_) (fun h => ?_)
  · refine x.exit rfl trivial ?_
    exact ⟨.inr rfl, rfl, trivial, rfl⟩
  have hn : to.length ≤ 64 := by have := of_decide_eq_false h; omega
  refine x.pure rfl trivial rfl (copy_spec to hn hz) ⟨veq_d rfl, trivial⟩ ?_
  refine x.pure rfl trivial rfl (order_spec to hf) ⟨veq_d rfl, trivial⟩ ?_
  refine x.pure rfl trivial rfl (refright_spec to hf) ⟨veq_d rfl, trivial⟩ ?_
  refine x.cond rfl trivial (fun h => ?_) (fun h => ?_)
  · have hg : ¬ GOK to := by simpa using h
    refine x.pureG rfl trivial rfl (fun _ => awake_spec) rfl trivial ?_
    refine x.exit rfl trivial ?_
    refine ⟨.inr rfl, ?_, trivial, rfl⟩
    show (decide (((orderL to).length : Int) = 0) && true) = true
    rw [orderL, if_neg hg]
    rfl
  have hg : GOK to := by simpa using h
  refine x.call [] rfl trivial rfl (reforder_spec to hg) rfl ⟨veq_d rfl, trivial⟩ trivial ?_
  refine x.op rfl trivial ?_
  refine Sx.Go.freeze 0 ?_
  have hl := post_len hg
  have hol := order_len (to := to)
  refine x.pure rfl trivial rfl (ints_spec (orderL to) (post to).reverse (by omega) (by simp; omega)) ⟨veq_d rfl, veq_d rfl, trivial⟩ ?_
  refine x.pureG rfl trivial rfl (fun _ => awake_spec) rfl trivial ?_
  refine x.exit rfl trivial ?_
  refine ⟨.inr rfl, ?_, trivial, rfl⟩
  show (decide (orderL to = (post to).reverse) && true) = true
  rw [orderL, if_pos hg, decide_eq_true rfl]
  rfl
theorem fit_of {to : List (List Int)} (h : to.length ≤ maxLen ∧ to.length * 24 ≤ reachBytes) (z : ∀ l ∈ to, (l.length ≤ maxLen ∧ l.length * 8 ≤ reachBytes) ∧ ∀ y ∈ l, (Lit.int .i64 y).wf = true) : Fit to := ⟨h.1, fun l hl => (z l hl).1.1⟩
theorem size_of {to : List (List Int)} (z : ∀ l ∈ to, (l.length ≤ maxLen ∧ l.length * 8 ≤ reachBytes) ∧ ∀ y ∈ l, (Lit.int .i64 y).wf = true) : ∀ l ∈ to, l.length * 8 ≤ big := fun l hl => by
  have h1 := (z l hl).1.2
  have h2 := reachBytes_lt
  unfold big
  omega
end Go.Proofs.Ytdgopbgckdnncaa
