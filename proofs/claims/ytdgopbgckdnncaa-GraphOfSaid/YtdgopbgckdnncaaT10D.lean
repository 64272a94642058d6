/- graph.walk, graph.Order, graph.Reached. -/
import Derived.Test.YtdgopbgckdnncaaT10C
namespace Go.Proofs.Ytdgopbgckdnncaa
open Go.Sx
set_option linter.unusedVariables false
set_option linter.unusedSimpArgs false
set_option maxRecDepth 100000

/-- What is reached from a node. -/
def seen (to : List (List Int)) (i : Nat) : Nat → Bool := (visit to (to.length + 1) i (fun _ => false, [])).1

theorem walkF_O {to : List (List Int)} (hg : GOK to) (i : Nat) (hi : i < to.length) : Proc PG 30 1 [gv to, vi (i : Int), .fn 31 [.ptr 0 0]] [.box [.own 1], outC []] (.own 2) [.box [.own 1], outC (visit to (to.length + 1) i (fun _ => false, [])).2, beenC to.length (visit to (to.length + 1) i (fun _ => false, [])).1] := by
  refine Proc.mk (cfgF 17 1) tysOK [0, 1, 4] Try.func30 rfl (by kernel_rfl) rfl rfl rfl ?_
  intro C x
  have hn := hg.2.1
  refine x.call [5, 2, 6, 3, 4, 0, 1] rfl ?_ rfl (walkO_spec hg (to.length + 1) i (fun _ => false, []) hi rfl (by rw [freeN_no]; omega) (by rw [freeN_no]; simp)) rfl ⟨rfl, ⟨rfl, rfl⟩, ⟨rfl, rfl⟩, ⟨rfl, rfl⟩, ⟨rfl, rfl⟩, trivial⟩ ?_ ?_
  · simp only [AllP, big, Int.toNat_natCast]; omega
  · exact ⟨⟨rfl, trivial⟩, ⟨veq0_d rfl, trivial⟩, ⟨rfl, trivial⟩, ⟨rfl, trivial⟩, ⟨rfl, rfl, rfl, fun _ _ => rfl⟩, ⟨rfl, trivial⟩, ⟨rfl, rfl, rfl, fun _ _ => rfl⟩, trivial⟩
  refine x.exit rfl trivial ?_
  exact ⟨.inr rfl, rfl, ⟨⟨rfl, trivial⟩, ⟨rfl, rfl, rfl, fun _ _ => rfl⟩, ⟨rfl, rfl, rfl, fun _ _ => rfl⟩, trivial⟩, rfl⟩

theorem walkF_R {to : List (List Int)} (hg : GOK to) (i : Nat) (hi : i < to.length) : Pure PG 30 [gv to, vi (i : Int), .fn 35 []] (.own 0) [beenC to.length (seen to i)] := by
  refine Proc.mk (cfg 17) tysOK [2] Try.func30 rfl (by kernel_rfl) rfl rfl rfl ?_
  intro C x
  have hn := hg.2.1
  refine x.call [3, 0, 4, 1, 2] rfl ?_ rfl (walkR_spec hg (to.length + 1) i (fun _ => false, []) hi rfl (by rw [freeN_no]; omega) (by rw [freeN_no]; simp)) rfl ⟨rfl, ⟨rfl, rfl⟩, ⟨rfl, rfl⟩, ⟨rfl, rfl⟩, ⟨rfl, rfl⟩, trivial⟩ ?_ ?_
  · simp only [AllP, big, Int.toNat_natCast]; omega
  · exact ⟨⟨rfl, trivial⟩, ⟨veq0_d rfl, trivial⟩, ⟨rfl, trivial⟩, ⟨rfl, trivial⟩, ⟨rfl, rfl, rfl, fun _ _ => rfl⟩, trivial⟩
  refine x.exit rfl trivial ?_
  exact ⟨.inr rfl, rfl, ⟨⟨rfl, rfl, rfl, fun _ _ => rfl⟩, trivial⟩, rfl⟩

/-! ### graph.Order -/
def orderL (to : List (List Int)) : List Int := if GOK to then (post to).reverse else []

theorem post_len {to : List (List Int)} (hg : GOK to) : (post to).length ≤ to.length := by
  have := visit_sum hg (to.length + 1) 0 (fun _ => false, []) hg.1 rfl
  rw [freeN_no] at this
  simp only [List.length_nil] at this
  unfold post
  omega

theorem order_spec (to : List (List Int)) (hf : Fit to) : Pure PG 10 [gv to] (iv (orderL to)) [] := by
  refine Proc.mk (cfg 14) tysOK [] Try.func10 rfl (by kernel_rfl) rfl rfl rfl ?_
  intro C x
  refine x.pure rfl trivial rfl (right_spec to hf) ⟨veq_d rfl, trivial⟩ ?_
  refine x.cond rfl trivial (fun h => ?_) (fun h => ?_)
  · have hg : ¬ GOK to := by simpa using h
    refine x.exit rfl trivial ?_
    refine ⟨.inr rfl, ?_, trivial, rfl⟩
    show (orderL to).length = 0
    rw [orderL, if_neg hg]; rfl
  have hg : GOK to := by simpa using h
  have hn := hg.2.1
  have hlen := post_len hg
  refine x.op rfl trivial ?_
  refine Go.ownBox 0 0 3 1 (fun j => [.int .i64 (([] : List Int).getD j 0)]) rfl rfl rfl ?_
  refine x.call [0, 1] rfl trivial rfl (walkF_O hg 0 hg.1) rfl ⟨veq_d rfl, rfl, rfl, trivial⟩ ?_ ?_
  · exact ⟨⟨rfl, trivial⟩, ⟨rfl, rfl, rfl, fun _ _ => rfl⟩, trivial⟩
  have hp : (visit to (to.length + 1) 0 (fun _ => false, [])).2 = post to := rfl
  rw [hp]
  generalize (visit to (to.length + 1) 0 (fun _ => false, [])).1 = b
  rw [orderL, if_pos hg]
  obtain ⟨P, hP⟩ : ∃ P, post to = P := ⟨_, rfl⟩
  rw [hP] at hlen ⊢
  refine x.call [1] rfl trivial rfl (reverseI_spec P.length (fun k => P.getD k 0) (by unfold big; omega)) rfl ⟨rfl, trivial⟩ ⟨⟨rfl, rfl, rfl, fun _ _ => rfl⟩, trivial⟩ ?_
  refine x.le (s' := ⟨[(3, .ptr 0 0)], [(0, .box [.own 1]), (1, outC P.reverse)], 3⟩) ?_ ?_
  · refine ⟨⟨⟨rfl, rfl⟩, trivial⟩, ⟨⟨rfl, trivial⟩, ⟨rfl, rfl, ?_, fun j hj => ?_⟩, trivial⟩, rfl⟩
    · show P.length = P.reverse.length; simp
    · show [D.int .i64 (P.getD (P.length - 1 - j) 0)] = [D.int .i64 (P.reverse.getD j 0)]
      have hj : j < P.length := hj
      rw [← getD_at (l := P.reverse) (by simpa using hj), List.getElem_reverse, getD_at]
  refine x.op rfl trivial ?_
  refine Sx.Go.freeze 1 ?_
  refine x.pure rfl trivial rfl (clip_spec P.reverse (by unfold big; simp; omega)) ⟨veq_d rfl, trivial⟩ ?_
  refine x.exit rfl trivial ?_
  exact ⟨.inr rfl, veq_d rfl, trivial, rfl⟩
end Go.Proofs.Ytdgopbgckdnncaa
