/- The law GraphAhead: the walk. -/
import Derived.Test.YtdgopbgckdnncaaT10N
namespace Go.Proofs.Ytdgopbgckdnncaa
open Go.Sx
set_option linter.unusedVariables false
set_option linter.unusedSimpArgs false
set_option maxRecDepth 100000

abbrev intC (n : Nat) (p : Nat → Int) : Ch := .vec 3 1 n fun j => [.int .i64 (p j)]

theorem graphAhead_spec (to : List (List Int)) (hf : Fit to) : Pure PG 6 [gv to] (vb true) [] := by
  refine Proc.mk (cfg 179) tysOK [] Try.func6 rfl (by kernel_rfl) rfl rfl rfl ?_
  intro C x
  refine x.pureG rfl trivial rfl (fun _ => right_spec to hf) rfl ⟨veq_d rfl, trivial⟩ ?_
  refine x.cond rfl trivial (fun h => ?_) (fun h => ?_)
  · refine x.pure rfl trivial rfl awake_spec trivial ?_
    refine x.exit rfl trivial ?_
    exact ⟨.inr rfl, rfl, trivial, rfl⟩
  have h : to.length ≤ 64 ∧ GOK to := by
    have h : (decide ((64 : Int) < to.length) || !decide (GOK to)) = false := h
    simp only [Bool.or_eq_false_iff, decide_eq_false_iff_not, Bool.not_eq_false', decide_eq_true_eq] at h
    exact ⟨by omega, h.2⟩
  obtain ⟨hn, hg⟩ := h
  refine x.pure rfl trivial rfl (order_spec to hf) ⟨veq_d rfl, trivial⟩ ?_
  refine x.pure rfl trivial rfl (reached_spec to 0 hf) ⟨veq_d rfl, rfl, trivial⟩ ?_
  have r1 : reachN to 0 = to.length := by
    unfold reachN
    rw [if_pos ⟨hg, by omega, by have := hg.1; omega⟩]
  rw [r1]
  have hO := order_of hg
  have hOl : (orderL to).length ≤ 64 := by
    rw [orderL, if_pos hg]
    have := post_len hg
    simp; omega
  obtain ⟨O, hOe⟩ : ∃ O, orderL to = O := ⟨_, rfl⟩
  rw [hOe] at hO hOl ⊢
  refine x.cond rfl trivial (fun h => ?_) (fun h => ?_)
  · exact absurd h (by simp)
  clear h
  refine x.loop (α := { i : Nat // i ≤ to.length }) (fun y => ⟨[(0, gv to), (3, iv O), (4, .d (dBools to.length (seen to 0))), (5, .own 0), (6, vi (y.1 : Int))], [(0, intC to.length fun v => if v < y.1 then -1 else 0)], 1⟩) (fun y => to.length - y.1) ⟨0, by omega⟩ rfl ?_ ?_ (fun y => ?_)
  · simp only [AllP, big, Int.toNat_natCast]; omega
  · exact ⟨⟨veq_d rfl, veq_d rfl, veq_d rfl, rfl, rfl, trivial⟩, ⟨⟨rfl, rfl, rfl, fun j hj => rfl⟩, trivial⟩, rfl⟩
  obtain ⟨i, hi⟩ := y
  change Go C _ ⟨[(0, gv to), (3, iv O), (4, .d (dBools to.length (seen to 0))), (5, .own 0), (6, vi (i : Int))], [(0, intC to.length fun v => if v < i then -1 else 0)], 1⟩ _
  refine x.cond rfl trivial (fun h1 => ?_) (fun h1 => ?_)
  · have h1 : i < to.length := by have := of_decide_eq_true h1; omega
    refine x.back rfl ?_ ⟨⟨i + 1, by omega⟩, by show to.length - (i + 1) < to.length - i; omega, ⟨veq_d rfl, veq_d rfl, veq_d rfl, rfl, rfl, trivial⟩, ⟨⟨rfl, rfl, rfl, fun v hv => ?_⟩, trivial⟩, rfl⟩
    · simp only [AllP, inI64, List.length]
      exact ⟨by omega, ⟨by omega, Nat.le_refl _⟩, by omega⟩
    · refine (congrFun (put2_int .i64 (fun v => if v < i then -1 else 0) i (-1)) v).trans ?_
      show [D.int .i64 (if v = i then -1 else if v < i then -1 else 0)] = [D.int .i64 (if v < i + 1 then -1 else 0)]
      congr 2
      split <;> split <;> (try split) <;> first | rfl | omega
  have h1 : i = to.length := by have := of_decide_eq_false h1; omega
  subst h1
  refine x.loop (α := { k : Nat // k ≤ O.length }) (fun y => ⟨[(0, gv to), (3, iv O), (4, .d (dBools to.length (seen to 0))), (5, .own 0), (7, vi (y.1 : Int))], [(0, intC to.length (pl O y.1))], 1⟩) (fun y => O.length - y.1) ⟨0, by omega⟩ rfl trivial ?_ (fun y => ?_)
  · refine ⟨⟨veq_d rfl, veq_d rfl, veq_d rfl, rfl, rfl, trivial⟩, ⟨⟨rfl, rfl, rfl, fun v hv => ?_⟩, trivial⟩, rfl⟩
    show [D.int .i64 (if v < to.length then -1 else 0)] = [D.int .i64 (-1)]
    rw [if_pos hv]
  obtain ⟨k, hk⟩ := y
  change Go C _ ⟨[(0, gv to), (3, iv O), (4, .d (dBools to.length (seen to 0))), (5, .own 0), (7, vi (k : Int))], [(0, intC to.length (pl O k))], 1⟩ _
  refine x.cond rfl trivial (fun h1 => ?_) (fun h1 => ?_)
  · have h1 : k < O.length := by have := of_decide_eq_true h1; omega
    have hin := hO.lt _ (getD_in h1)
    have hfree := pl_free hO h1
    have hseen : seen to 0 (O.getD k 0).toNat = true := (hO.mem _).1 (by rw [show (((O.getD k 0).toNat : Nat) : Int) = O.getD k 0 by omega]; exact getD_in h1)
    refine x.cond rfl ?_ (fun h2 => ?_) (fun h2 => ?_)
    · simp only [AllP]
      simp only [show ((k : Int)).toNat = k from rfl]
      exact ⟨by omega, fun _ => by omega, fun _ => by omega, fun _ => by omega, fun _ => by omega, fun _ => by omega, fun _ => by omega⟩
    · exfalso
      have h2 : (((decide (O.getD k 0 < 0) || decide ((to.length : Int) ≤ O.getD k 0)) || decide (0 ≤ pl O k (O.getD k 0).toNat)) || !seen to 0 (O.getD k 0).toNat) = true := h2
      rw [hfree, hseen] at h2
      simp only [Bool.or_eq_true, decide_eq_true_eq, Bool.not_true] at h2
      rcases h2 with ((h2 | h2) | h2) | h2
      · omega
      · omega
      · omega
      · cases h2
    · refine x.back rfl ?_ ⟨⟨k + 1, by omega⟩, by show O.length - (k + 1) < O.length - k; omega, ⟨veq_d rfl, veq_d rfl, veq_d rfl, rfl, rfl, trivial⟩, ⟨⟨rfl, rfl, rfl, fun v hv => ?_⟩, trivial⟩, rfl⟩
      · simp only [AllP, inI64, List.length]
        simp only [show ((k : Int)).toNat = k from rfl]
        exact ⟨by omega, by omega, ⟨by omega, Nat.le_refl _⟩, by omega⟩
      · exact congrFun (put2_int .i64 (pl O k) (O.getD k 0).toNat (k : Int)) v
  have h1 : k = O.length := by have := of_decide_eq_false h1; omega
  subst h1
  obtain ⟨P, hP⟩ : ∃ P, pl O O.length = P := ⟨_, rfl⟩
  have hPw := fun {i : Nat} (hi : i < to.length) (hs : seen to 0 i = true) {y : Int} (hy : y ∈ to.getD i []) => back_way hg hO hi hs hy
  rw [hP] at hPw ⊢
  have hcnt := cntB_order hg hO
  refine x.loop (α := { i : Nat // i ≤ to.length } × Bool) (fun y => ⟨[(0, gv to), (3, iv O), (4, .d (dBools to.length (seen to 0))), (5, .own 0), (8, vi (cntB (seen to 0) y.1.1 : Int)), (9, vb y.2), (10, vi (y.1.1 : Int))], [(0, intC to.length P)], 1⟩) (fun y => to.length - y.1.1) (⟨0, by omega⟩, false) rfl trivial ?_ (fun y => ?_)
  · exact ⟨⟨veq_d rfl, veq_d rfl, veq_d rfl, rfl, rfl, rfl, rfl, trivial⟩, ⟨⟨rfl, rfl, rfl, fun j hj => rfl⟩, trivial⟩, rfl⟩
  obtain ⟨⟨i, hi⟩, ag⟩ := y
  change Go C _ ⟨[(0, gv to), (3, iv O), (4, .d (dBools to.length (seen to 0))), (5, .own 0), (8, vi (cntB (seen to 0) i : Int)), (9, vb ag), (10, vi (i : Int))], [(0, intC to.length P)], 1⟩ _
  have hcl := cntB_le (seen to 0) i
  refine x.cond rfl trivial (fun h1 => ?_) (fun h1 => ?_)
  · have h1 : i < to.length := by have := of_decide_eq_true h1; omega
    have hrow := row_len (gok_row hg h1)
    refine x.ite (α := Unit) (fun _ => ⟨[(0, gv to), (3, iv O), (4, .d (dBools to.length (seen to 0))), (5, .own 0), (8, vi (cntB (seen to 0) (i + 1) : Int)), (9, vb ag), (10, vi (i : Int))], [(0, intC to.length P)], 1⟩) rfl ?_ (fun h2 => ?_) (fun h2 => ?_) (fun _ => ?_)
    · simp only [AllP]; omega
    · have h2 : seen to 0 i = true := h2
      refine x.back rfl (show inI64 _ by unfold inI64; omega) ⟨(), ⟨veq_d rfl, veq_d rfl, veq_d rfl, rfl, ?_, rfl, rfl, trivial⟩, ⟨⟨rfl, rfl, rfl, fun j hj => rfl⟩, trivial⟩, rfl⟩
      show (cntB (seen to 0) i : Int) + 1 = ((cntB (seen to 0) i + if seen to 0 i then 1 else 0 : Nat) : Int)
      rw [h2]; simp
    · have h2 : seen to 0 i = false := h2
      refine x.back rfl trivial ⟨(), ⟨veq_d rfl, veq_d rfl, veq_d rfl, rfl, ?_, rfl, rfl, trivial⟩, ⟨⟨rfl, rfl, rfl, fun j hj => rfl⟩, trivial⟩, rfl⟩
      show (cntB (seen to 0) i : Int) = ((cntB (seen to 0) i + if seen to 0 i then 1 else 0 : Nat) : Int)
      rw [h2]; simp
    refine x.loop (α := { k : Nat // k ≤ (to.getD i []).length } × Bool) (fun y => ⟨[(0, gv to), (3, iv O), (4, .d (dBools to.length (seen to 0))), (5, .own 0), (8, vi (cntB (seen to 0) (i + 1) : Int)), (9, vb y.2), (10, vi (i : Int)), (11, vi (y.1.1 : Int))], [(0, intC to.length P)], 1⟩) (fun y => (to.getD i []).length - y.1.1) (⟨0, by omega⟩, ag) rfl trivial ?_ (fun y => ?_)
    · exact ⟨⟨veq_d rfl, veq_d rfl, veq_d rfl, rfl, rfl, rfl, rfl, rfl, trivial⟩, ⟨⟨rfl, rfl, rfl, fun j hj => rfl⟩, trivial⟩, rfl⟩
    obtain ⟨⟨k, hk⟩, ag⟩ := y
    change Go C _ ⟨[(0, gv to), (3, iv O), (4, .d (dBools to.length (seen to 0))), (5, .own 0), (8, vi (cntB (seen to 0) (i + 1) : Int)), (9, vb ag), (10, vi (i : Int)), (11, vi (k : Int))], [(0, intC to.length P)], 1⟩ _
    refine x.cond rfl (by simp only [AllP]; omega) (fun h2 => ?_) (fun h2 => ?_)
    · have h2 : k < (to.getD i []).length := by
        have h2 : (k : Int) < ((to.getD i []).length : Int) := of_decide_eq_true h2
        omega
      have hin := gok_in hg h1 h2
      refine x.quiet rfl trivial mixedP (by kernel_rfl) ?_
      refine x.qdone rfl ?_ ?_
      · simp only [AllP]
        simp only [show ((i : Int)).toNat = i from rfl, show ((k : Int)).toNat = k from rfl]
        exact ⟨by omega, fun _ => by omega, fun _ => by omega, fun _ => by omega, fun _ => by omega, fun _ => by omega, fun _ => by omega⟩
      refine x.cond rfl trivial (fun h3 => ?_) (fun h3 => ?_)
      · have h3 : (seen to 0 i && decide (P ((to.getD i []).getD k 0).toNat ≤ P i)) = true := h3
        simp only [Bool.and_eq_true, decide_eq_true_eq] at h3
        refine x.pure rfl ?_ rfl (reached_spec to ((to.getD i []).getD k 0) hf) ⟨veq_d rfl, rfl, trivial⟩ ?_
        · simp only [AllP]
          simp only [show ((i : Int)).toNat = i from rfl]
          omega
        have r2 : reachN to ((to.getD i []).getD k 0) = to.length := by
          unfold reachN
          rw [if_pos ⟨hg, by omega, by omega⟩]
        have hs : seen to ((to.getD i []).getD k 0).toNat i = true := (seen_iff hg (by omega) i).2 (hPw h1 h3.1 (getD_in h2) h3.2)
        rw [r2]
        refine x.cond rfl ?_ (fun h4 => ?_) (fun h4 => ?_)
        · simp only [AllP]
          exact fun _ => by omega
        · have h4 : ((!decide ((to.length : Int) = to.length)) || !seen to ((to.getD i []).getD k 0).toNat i) = true := h4
          rw [hs] at h4
          exact absurd h4 (by simp)
        · exact x.back rfl (show inI64 _ by unfold inI64; omega) ⟨(⟨k + 1, by omega⟩, true), by show (to.getD i []).length - (k + 1) < (to.getD i []).length - k; omega, ⟨veq_d rfl, veq_d rfl, veq_d rfl, rfl, rfl, rfl, rfl, rfl, trivial⟩, ⟨⟨rfl, rfl, rfl, fun j hj => rfl⟩, trivial⟩, rfl⟩
      · exact x.back rfl (show inI64 _ by unfold inI64; omega) ⟨(⟨k + 1, by omega⟩, ag), by show (to.getD i []).length - (k + 1) < (to.getD i []).length - k; omega, ⟨veq_d rfl, veq_d rfl, veq_d rfl, rfl, rfl, rfl, rfl, rfl, trivial⟩, ⟨⟨rfl, rfl, rfl, fun j hj => rfl⟩, trivial⟩, rfl⟩
    · have h2 : k = (to.getD i []).length := by
        have h2 : ¬ (k : Int) < ((to.getD i []).length : Int) := of_decide_eq_false h2
        omega
      subst h2
      exact x.back rfl (show inI64 _ by unfold inI64; omega) ⟨(⟨i + 1, by omega⟩, ag), by show to.length - (i + 1) < to.length - i; omega, ⟨veq_d rfl, veq_d rfl, veq_d rfl, rfl, rfl, rfl, rfl, trivial⟩, ⟨⟨rfl, rfl, rfl, fun j hj => rfl⟩, trivial⟩, rfl⟩
  have h1 : i = to.length := by have := of_decide_eq_false h1; omega
  subst h1
  rw [hcnt]
  have hf0 := hO.first
  refine x.pureG rfl ?_ rfl (fun _ => awake_spec) rfl trivial ?_
  · simp only [AllP]
    exact fun _ => by omega
  refine x.exit rfl trivial ?_
  refine ⟨.inr rfl, ?_, trivial, rfl⟩
  rw [hcnt] at hcl
  show ((((decide ((O.length : Int) = O.length) && decide ((0 : Int) < O.length)) && decide (O.getD 0 0 = 0)) && (ag || decide ((O.length : Int) ≤ to.length))) && true) = true
  rw [hf0.1, decide_eq_true (by omega : (0 : Int) < O.length), decide_eq_true (by omega : (O.length : Int) ≤ to.length)]
  simp
end Go.Proofs.Ytdgopbgckdnncaa
