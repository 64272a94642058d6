/- Texts put together: T12C, T12D, T12E, T12F, T12G, T12I, T12K. -/
import Derived.Test.YtniojnnbenkbpaaMB
import Derived.Test.YtniojnnbenkbpaaSxE

/- The answer's Right, Behind, Tree. -/
namespace Go.Proofs.Ytniojnnbenkbpaa
open Go.Sx
set_option linter.unusedVariables false
set_option linter.unusedSimpArgs false
set_option maxRecDepth 100000

theorem rright_spec (to : List (List Int)) (hf : Fit to) : Pure PG 26 [gv to] (vb (okP to)) [] := by
  refine Proc.mk (cfg 20) tysOK [] Try.func26 rfl (by kernel_rfl) rfl rfl rfl ?_
  intro C x
  refine x.pureG rfl trivial rfl (fun _ => refright_spec to hf) rfl ⟨veq_d rfl, trivial⟩ ?_
  refine x.pureG rfl trivial rfl (fun h => reflost_spec to (by
    have h : (decide ((to.length : Int) ≤ 255) && decide (GOK to)) = true := h
    rw [Bool.and_eq_true, decide_eq_true_eq, decide_eq_true_eq] at h; exact h.2)) rfl ⟨veq_d rfl, trivial⟩ ?_
  refine x.pureG rfl trivial rfl (fun h => refstuck_spec to (by
    have h : ((decide ((to.length : Int) ≤ 255) && decide (GOK to)) && decide (fstB (wayB to (-1) 0) false to.length < 0)) = true := h
    rw [Bool.and_eq_true, Bool.and_eq_true, decide_eq_true_eq, decide_eq_true_eq] at h; exact h.1.2)) rfl ⟨veq_d rfl, trivial⟩ ?_
  refine x.exit rfl trivial ?_
  refine ⟨.inr rfl, ?_, trivial, rfl⟩
  show (((decide ((to.length : Int) ≤ 255) && decide (GOK to)) && decide (fstB (wayB to (-1) 0) false to.length < 0)) && decide (fstB (endsB to) false to.length < 0)) = okP to
  refine okP_eq ?_
  rw [Bool.and_eq_true, Bool.and_eq_true, Bool.and_eq_true, decide_eq_true_eq, decide_eq_true_eq, decide_eq_true_eq, decide_eq_true_eq, fstB_neg, fstB_neg]
  unfold OKP AllSeen
  constructor
  · rintro ⟨⟨⟨a, b⟩, c⟩, d⟩
    exact ⟨by omega, ⟨b, fun v hv => (seen_iff b b.1 v).2 (wayB_iff.1 (c v hv))⟩, d⟩
  · rintro ⟨a, ⟨b, c⟩, d⟩
    exact ⟨⟨⟨by omega, b⟩, fun v hv => wayB_iff.2 ((seen_iff b b.1 v).1 (c v hv))⟩, d⟩

theorem behind_spec (to : List (List Int)) (hg : GOK to) (a b : Nat) (hb : b < to.length) : Pure PG 19 [gv to, vi (a : Int), vi (b : Int)] (vb (behB to a b)) [] := by
  refine Proc.mk (cfg 31) tysOK [] Try.func19 rfl (by kernel_rfl) rfl rfl rfl ?_
  intro C x
  have hn := hg.2.1
  refine x.pure rfl trivial rfl (without_spec to hg b (a : Int) hb) ⟨veq_d rfl, rfl, rfl, trivial⟩ ?_
  refine x.loop (α := { k : Nat // k ≤ to.length ∧ ∀ j, j < k → ¬ (wayB to (a : Int) b j = true ∧ (to.getD j []).length = 0) }) (fun y => ⟨[(0, gv to), (7, .d (dBools to.length (wayB to (a : Int) b))), (8, vi (y.1 : Int))], [], 0⟩) (fun y => to.length - y.1) ⟨0, by omega, fun j hj => by omega⟩ rfl trivial ⟨⟨veq_d rfl, veq_d rfl, rfl, trivial⟩, trivial, rfl⟩ (fun y => ?_)
  obtain ⟨k, hk, hup⟩ := y
  change Go C _ ⟨[(0, gv to), (7, .d (dBools to.length (wayB to (a : Int) b))), (8, vi (k : Int))], [], 0⟩ _
  refine x.cond rfl trivial (fun h1 => ?_) (fun h1 => ?_)
  · have h1 : k < to.length := by have := of_decide_eq_true h1; omega
    refine x.cond rfl ?_ (fun h2 => ?_) (fun h2 => ?_)
    · simp only [AllP]
      exact ⟨by omega, fun _ => by omega⟩
    · have h2 : (wayB to (a : Int) b k && decide (((to.getD k []).length : Int) = 0)) = true := h2
      simp only [Bool.and_eq_true, decide_eq_true_eq] at h2
      refine x.exit rfl trivial ?_
      refine ⟨.inr rfl, ?_, trivial, rfl⟩
      show false = behB to a b
      rw [eq_comm, Bool.eq_false_iff, Ne, behB_iff]
      exact fun h => h k ⟨h1, by omega⟩ (wayB_iff.1 h2.1)
    · have h2 : (wayB to (a : Int) b k && decide (((to.getD k []).length : Int) = 0)) = false := h2
      refine x.back rfl (show inI64 _ by unfold inI64; omega) ⟨⟨k + 1, by omega, fun j hj => ?_⟩, by show to.length - (k + 1) < to.length - k; omega, ⟨veq_d rfl, veq_d rfl, rfl, trivial⟩, trivial, rfl⟩
      rcases Nat.lt_or_ge j k with h3 | h3
      · exact hup j h3
      · obtain rfl : j = k := by omega
        rintro ⟨e1, e2⟩
        rw [e1, e2] at h2
        simp at h2
  · have h1 : k = to.length := by have := of_decide_eq_false h1; omega
    refine x.exit rfl trivial ?_
    refine ⟨.inr rfl, ?_, trivial, rfl⟩
    show true = behB to a b
    rw [eq_comm, behB_iff]
    exact fun e he hw => hup e (by rw [h1]; exact he.1) ⟨wayB_iff.2 hw, he.2⟩

theorem lastP_succ (b : Nat → Bool) (n a : Nat) : lastP b n (a + 1) = if b a then (a : Int) else lastP b n a := by
  unfold lastP
  rw [lastI]
  split
  · rw [if_neg (by omega)]
  · rfl
theorem lastP_zero (b : Nat → Bool) (n : Nat) : lastP b n 0 = n := by
  unfold lastP lastI; rw [if_pos (by omega)]

theorem rtree_spec (to : List (List Int)) (hf : Fit to) : Pure PG 12 [gv to] (iv (postT to)) [] := by
  refine Proc.mk (cfg 113) tysOK [] Try.func12 rfl (by kernel_rfl) rfl rfl rfl ?_
  intro C x
  refine x.pure rfl trivial rfl (rright_spec to hf) ⟨veq_d rfl, trivial⟩ ?_
  refine x.cond rfl trivial (fun h => ?_) (fun h => ?_)
  · have hno : ¬ OKP to := fun ha => by
      have h : (!okP to) = true := h
      rw [okP_iff.2 ha] at h; cases h
    refine x.exit rfl trivial ?_
    refine ⟨.inr rfl, ?_, trivial, rfl⟩
    show (postT to).length = 0
    rw [postT_not hno]; rfl
  have ha : OKP to := by
    have h : (!okP to) = false := h
    exact okP_iff.1 (by simpa using h)
  have hg := ha.gok
  have hn1 := hg.1
  have hn2 := ha.1
  refine x.loop (α := { a : Nat // a ≤ to.length } × (Nat → Value)) (fun y => ⟨[(0, gv to), (3, vi (to.length : Int)), (4, .own 0), (5, vi (y.1.1 : Int))], [(0, rowsBC to.length y.2 (fun i => if i < y.1.1 then to.length else 0) (behB to))], 1⟩) (fun y => to.length - y.1.1) (⟨0, by omega⟩, fun _ => .slice none 0 0) rfl ?_ ?_ (fun y => ?_)
  · simp only [AllP, big, Int.toNat_natCast]; omega
  · exact ⟨⟨veq_d rfl, rfl, rfl, rfl, trivial⟩, ⟨⟨rfl, rfl, rfl, rfl, rfl, fun i hi => ⟨rfl, rfl, fun j hj => absurd hj (Nat.not_lt_zero _)⟩⟩, trivial⟩, rfl⟩
  obtain ⟨⟨a, ha2⟩, hs⟩ := y
  change Go C _ ⟨[(0, gv to), (3, vi (to.length : Int)), (4, .own 0), (5, vi (a : Int))], [(0, rowsBC to.length hs (fun i => if i < a then to.length else 0) (behB to))], 1⟩ _
  refine x.cond rfl trivial (fun h1 => ?_) (fun h1 => ?_)
  · have h1 : a < to.length := by have := of_decide_eq_true h1; omega
    refine Go.forget 0 a ?_
    refine x.storeRow rfl ?_ rfl ?_ (fun val => ?_)
    · simp only [AllP, big, Int.toNat_natCast]; omega
    · exact ⟨rfl, h1⟩
    refine x.toLoop rfl trivial ?_
    refine Go.hold 0 a rfl h1 ?_
    refine x.loop (α := { b : Nat // b ≤ to.length }) (fun z => ⟨[(0, gv to), (3, vi (to.length : Int)), (4, .own 0), (5, vi (a : Int)), (6, vi (z.1 : Int))], [(0, heldBC to.length a (.own 2) hs (fun i => if i < a then to.length else 0) (behB to)), (2, beenC to.length fun j => if j < z.1 then behB to a j else false)], 3⟩) (fun z => to.length - z.1) ⟨0, by omega⟩ rfl trivial ?_ (fun z => ?_)
    · refine ⟨⟨veq_d rfl, rfl, rfl, rfl, rfl, trivial⟩, ⟨⟨rfl, rfl, rfl, rfl, rfl, rfl, fun i hi hia => ⟨if_neg hia, if_neg hia, fun j hj => ?_⟩⟩, ⟨rfl, rfl, if_pos rfl, fun j hj => ?_⟩, trivial⟩, rfl⟩
      · show (if i = a then fun x => [D.bool false] else fun j => [D.bool (behB to i j)]) j = [D.bool (behB to i j)]
        rw [if_neg hia]
      · show (if a = a then fun x => [D.bool false] else fun j => [D.bool (behB to a j)]) j = [D.bool (if j < 0 then behB to a j else false)]
        rw [if_pos rfl, if_neg (by omega)]
    obtain ⟨b, hb⟩ := z
    change Go C _ ⟨[(0, gv to), (3, vi (to.length : Int)), (4, .own 0), (5, vi (a : Int)), (6, vi (b : Int))], [(0, heldBC to.length a (.own 2) hs (fun i => if i < a then to.length else 0) (behB to)), (2, beenC to.length fun j => if j < b then behB to a j else false)], 3⟩ _
    refine x.cond rfl trivial (fun h2 => ?_) (fun h2 => ?_)
    · have h2 : b < to.length := by have := of_decide_eq_true h2; omega
      refine x.plan [0, 1, 4, 5, 6, 7] [2, 3, 8] [9, 10] rfl trivial mixedP (by kernel_rfl) Ret.noPanic ?_
      refine x.qcall rfl ?_ rfl (behind_spec to hg a b h2) rfl rfl ⟨veq_d rfl, rfl, rfl, trivial⟩ ?_
      · simp only [AllP]; omega
      refine x.qdone rfl ?_ ?_
      · trivial
      refine x.back rfl ?_ ⟨⟨b + 1, by omega⟩, by show to.length - (b + 1) < to.length - b; omega, ⟨veq_d rfl, rfl, rfl, rfl, rfl, trivial⟩, ⟨⟨rfl, rfl, rfl, rfl, rfl, rfl, fun i hi hia => ⟨rfl, rfl, fun j hj => rfl⟩⟩, ⟨rfl, rfl, rfl, fun j hj => ?_⟩, trivial⟩, rfl⟩
      · simp only [AllP, List.length, inI64]; omega
      · rw [put2_bool]
        show [D.bool (if j = b then behB to a b else if j < b then behB to a j else false)] = [D.bool (if j < b + 1 then behB to a j else false)]
        by_cases e : j = b
        · subst e; rw [if_pos rfl, if_pos (by omega)]
        · rw [if_neg e]
          by_cases e2 : j < b
          · rw [if_pos e2, if_pos (by omega)]
          · rw [if_neg e2, if_neg (by omega)]
    · have h2 : b = to.length := by have := of_decide_eq_false h2; omega
      subst h2
      refine Go.letgo 0 rfl (fun val => ?_)
      refine x.back rfl (show inI64 _ by unfold inI64; omega) ⟨(⟨a + 1, by omega⟩, _), by show to.length - (a + 1) < to.length - a; omega, ⟨veq_d rfl, rfl, rfl, rfl, trivial⟩, ⟨⟨rfl, rfl, rfl, rfl, rfl, fun i hi => ⟨rfl, ?_, fun j hj => ?_⟩⟩, trivial⟩, rfl⟩
      · show (if i = a then to.length else if i < a then to.length else 0) = if i < a + 1 then to.length else 0
        by_cases e : i = a
        · rw [if_pos e, if_pos (by omega)]
        · rw [if_neg e]
          by_cases e2 : i < a
          · rw [if_pos e2, if_pos (by omega)]
          · rw [if_neg e2, if_neg (by omega)]
      · have hj : j < (if i = a then to.length else if i < a then to.length else 0) := hj
        show (if i = a then fun j => [D.bool (if j < to.length then behB to a j else false)] else fun j => [D.bool (behB to i j)]) j = [D.bool (behB to i j)]
        by_cases e : i = a
        · subst e
          rw [if_pos rfl] at hj ⊢
          rw [if_pos hj]
        · rw [if_neg e]
  · have h1 : a = to.length := by have := of_decide_eq_false h1; omega
    subst h1
    refine Go.close 0 ?_
    refine x.le (s' := ⟨[(3, vi (to.length : Int)), (4, .own 0)], [(0, .vec 35 1 to.length fun i => [dBools to.length (behB to i)])], 1⟩) ?_ ?_
    · refine ⟨⟨rfl, rfl, trivial⟩, ⟨⟨rfl, rfl, rfl, fun i hi => ?_⟩, trivial⟩, rfl⟩
      show [D.sl 1 (if i < to.length then to.length else 0) fun j => [D.bool (behB to i j)]] = [D.sl 1 to.length fun j => [D.bool (behB to i j)]]
      rw [if_pos hi]
    refine Sx.Go.freeze 0 ?_
    obtain ⟨ov, hov⟩ : ∃ ov, behB to = ov := ⟨_, rfl⟩
    rw [hov]
    refine x.loop (α := { b : Nat // b ≤ to.length }) (fun y => ⟨[(3, vi (to.length : Int)), (4, .d (dMat to.length ov)), (7, .own 1), (8, vi (y.1 : Int))], [(1, intC to.length fun v => if v < y.1 then lastP (isP ov to.length v) to.length to.length else 0)], 2⟩) (fun y => to.length - y.1) ⟨0, by omega⟩ rfl ?_ ?_ (fun y => ?_)
    · simp only [AllP, big, Int.toNat_natCast]; omega
    · exact ⟨⟨rfl, veq_d rfl, rfl, rfl, trivial⟩, ⟨⟨rfl, rfl, rfl, fun i hi => rfl⟩, trivial⟩, rfl⟩
    obtain ⟨b, hb⟩ := y
    change Go C _ ⟨[(3, vi (to.length : Int)), (4, .d (dMat to.length ov)), (7, .own 1), (8, vi (b : Int))], [(1, intC to.length fun v => if v < b then lastP (isP ov to.length v) to.length to.length else 0)], 2⟩ _
    refine x.cond rfl trivial (fun h2 => ?_) (fun h2 => ?_)
    · have h2 : b < to.length := by have := of_decide_eq_true h2; omega
      refine x.loop (α := { a : Nat // a ≤ to.length }) (fun y => ⟨[(3, vi (to.length : Int)), (4, .d (dMat to.length ov)), (7, .own 1), (8, vi (b : Int)), (9, vi (y.1 : Int))], [(1, intC to.length fun v => if v < b then lastP (isP ov to.length v) to.length to.length else if v = b then lastP (isP ov to.length b) to.length y.1 else 0)], 2⟩) (fun y => to.length - y.1) ⟨0, by omega⟩ rfl ?_ ?_ (fun y => ?_)
      · simp only [AllP, List.length]; omega
      · refine ⟨⟨rfl, veq_d rfl, rfl, rfl, rfl, trivial⟩, ⟨⟨rfl, rfl, rfl, fun i hi => ?_⟩, trivial⟩, rfl⟩
        rw [put2_int]
        show [D.int .i64 (if i = b then (to.length : Int) else if i < b then lastP (isP ov to.length i) to.length to.length else 0)] = [D.int .i64 (if i < b then lastP (isP ov to.length i) to.length to.length else if i = b then lastP (isP ov to.length b) to.length 0 else 0)]
        by_cases e : i = b
        · rw [if_pos e, if_neg (by omega), if_pos e, lastP_zero]
        · rw [if_neg e, if_neg e]
      obtain ⟨a, ha3⟩ := y
      change Go C _ ⟨[(3, vi (to.length : Int)), (4, .d (dMat to.length ov)), (7, .own 1), (8, vi (b : Int)), (9, vi (a : Int))], [(1, intC to.length fun v => if v < b then lastP (isP ov to.length v) to.length to.length else if v = b then lastP (isP ov to.length b) to.length a else 0)], 2⟩ _
      refine x.cond rfl trivial (fun h3 => ?_) (fun h3 => ?_)
      · have h3 : a < to.length := by have := of_decide_eq_true h3; omega
        refine x.loop (α := { k : Nat // k ≤ to.length }) (fun y => ⟨[(3, vi (to.length : Int)), (4, .d (dMat to.length ov)), (7, .own 1), (8, vi (b : Int)), (9, vi (a : Int)), (10, vb (firstB ov b a && allN (condP ov b a) y.1)), (11, vi (y.1 : Int))], [(1, intC to.length fun v => if v < b then lastP (isP ov to.length v) to.length to.length else if v = b then lastP (isP ov to.length b) to.length a else 0)], 2⟩) (fun y => to.length - y.1) ⟨0, by omega⟩ rfl ?_ ?_ (fun y => ?_)
        · simp only [AllP]; omega
        · refine ⟨⟨rfl, veq_d rfl, rfl, rfl, rfl, ?_, rfl, trivial⟩, ⟨⟨rfl, rfl, rfl, fun i hi => rfl⟩, trivial⟩, rfl⟩
          show firstB ov b a = (firstB ov b a && true)
          rw [Bool.and_true]
        obtain ⟨k, hk⟩ := y
        change Go C _ ⟨[(3, vi (to.length : Int)), (4, .d (dMat to.length ov)), (7, .own 1), (8, vi (b : Int)), (9, vi (a : Int)), (10, vb (firstB ov b a && allN (condP ov b a) k)), (11, vi (k : Int))], [(1, intC to.length fun v => if v < b then lastP (isP ov to.length v) to.length to.length else if v = b then lastP (isP ov to.length b) to.length a else 0)], 2⟩ _
        refine x.cond rfl trivial (fun h4 => ?_) (fun h4 => ?_)
        · have h4 : (decide ((k : Int) < (to.length : Int)) && (firstB ov b a && allN (condP ov b a) k)) = true := h4
          rw [Bool.and_eq_true] at h4
          obtain ⟨h4, h5⟩ := h4
          have h4 : k < to.length := by have := of_decide_eq_true h4; omega
          refine x.back rfl ?_ ⟨⟨k + 1, by omega⟩, by show to.length - (k + 1) < to.length - k; omega, ⟨rfl, veq_d rfl, rfl, rfl, rfl, ?_, rfl, trivial⟩, ⟨⟨rfl, rfl, rfl, fun i hi => rfl⟩, trivial⟩, rfl⟩
          · simp only [AllP, inI64]; omega
          · show condP ov b a k = (firstB ov b a && (allN (condP ov b a) k && condP ov b a k))
            rw [← Bool.and_assoc, h5, Bool.true_and]
        · have h4 : (decide ((k : Int) < (to.length : Int)) && (firstB ov b a && allN (condP ov b a) k)) = false := h4
          have h5 : (firstB ov b a && allN (condP ov b a) k) = isP ov to.length b a := by
            unfold isP
            by_cases e : k < to.length
            · rw [decide_eq_true (by omega : (k : Int) < (to.length : Int)), Bool.true_and] at h4
              rw [h4]
              cases h6 : firstB ov b a with
              | false => rfl
              | true =>
                rw [h6, Bool.true_and] at h4
                rw [allN_le hk h4]; rfl
            · rw [show k = to.length by omega]
          refine x.cond rfl trivial (fun h6 => ?_) (fun h6 => ?_)
          · have h6 : isP ov to.length b a = true := h5 ▸ h6
            refine x.back rfl ?_ ⟨⟨a + 1, by omega⟩, by show to.length - (a + 1) < to.length - a; omega, ⟨rfl, veq_d rfl, rfl, rfl, rfl, trivial⟩, ⟨⟨rfl, rfl, rfl, fun i hi => ?_⟩, trivial⟩, rfl⟩
            · simp only [AllP, List.length, inI64]; omega
            · rw [put2_int]
              show [D.int .i64 (if i = b then (a : Int) else if i < b then lastP (isP ov to.length i) to.length to.length else if i = b then lastP (isP ov to.length b) to.length a else 0)] = [D.int .i64 (if i < b then lastP (isP ov to.length i) to.length to.length else if i = b then lastP (isP ov to.length b) to.length (a + 1) else 0)]
              rw [lastP_succ]
              rw [h6]
              by_cases e : i = b
              · rw [if_pos e, if_neg (by omega), if_pos e]; rfl
              · rw [if_neg e, if_neg e, if_neg e]
          · have h6 : isP ov to.length b a = false := h5 ▸ h6
            refine x.back rfl (show inI64 _ by unfold inI64; omega) ⟨⟨a + 1, by omega⟩, by show to.length - (a + 1) < to.length - a; omega, ⟨rfl, veq_d rfl, rfl, rfl, rfl, trivial⟩, ⟨⟨rfl, rfl, rfl, fun i hi => ?_⟩, trivial⟩, rfl⟩
            show [D.int .i64 (if i < b then lastP (isP ov to.length i) to.length to.length else if i = b then lastP (isP ov to.length b) to.length a else 0)] = [D.int .i64 (if i < b then lastP (isP ov to.length i) to.length to.length else if i = b then lastP (isP ov to.length b) to.length (a + 1) else 0)]
            rw [lastP_succ, h6]; rfl
      · have h3 : a = to.length := by have := of_decide_eq_false h3; omega
        subst h3
        refine x.back rfl (show inI64 _ by unfold inI64; omega) ⟨⟨b + 1, by omega⟩, by show to.length - (b + 1) < to.length - b; omega, ⟨rfl, veq_d rfl, rfl, rfl, trivial⟩, ⟨⟨rfl, rfl, rfl, fun i hi => ?_⟩, trivial⟩, rfl⟩
        show [D.int .i64 (if i < b then lastP (isP ov to.length i) to.length to.length else if i = b then lastP (isP ov to.length b) to.length to.length else 0)] = [D.int .i64 (if i < b + 1 then lastP (isP ov to.length i) to.length to.length else 0)]
        by_cases e : i = b
        · rw [if_neg (by omega), if_pos e, if_pos (by omega), e]
        · by_cases e2 : i < b
          · rw [if_pos e2, if_pos (by omega)]
          · rw [if_neg e2, if_neg e, if_neg (by omega)]
    · have h2 : b = to.length := by have := of_decide_eq_false h2; omega
      subst h2
      refine x.le (s' := ⟨[(7, .own 1)], [(1, outC (postT to))], 2⟩) ?_ ?_
      · refine ⟨⟨rfl, trivial⟩, ⟨⟨rfl, rfl, (postT_len ha).symm, fun v hv => ?_⟩, trivial⟩, rfl⟩
        show [D.int .i64 (if v < to.length then lastP (isP ov to.length v) to.length to.length else 0)] = [D.int .i64 ((postT to).getD v 0)]
        rw [if_pos hv, postT_at ha hv, meetF_last hg hv, hov]
      refine Sx.Go.freeze 1 ?_
      refine x.exit rfl trivial ?_
      exact ⟨.inr rfl, veq_d rfl, trivial, rfl⟩
end Go.Proofs.Ytniojnnbenkbpaa

/- What lies between a fork and its meeting: post.region. -/
namespace Go.Proofs.Ytniojnnbenkbpaa
open Go.Sx
set_option linter.unusedVariables false
set_option linter.unusedSimpArgs false
set_option maxRecDepth 100000

/-! ### from where one may not go on -/
theorem visit_wayN {to : List (List Int)} (hg : GOK to) {no : Nat} (fu : Nat) : ∀ (i : Nat) (st : DS), i < to.length → st.1 i = false → st.1 no = true → ∀ v, (visit to fu i st).1 v = true → st.1 v = true ∨ Way to (no : Int) i v := by
  induction fu with
  | zero => exact fun i st _ _ _ v h => .inl h
  | succ fu ih =>
    intro i st hi hb hno v h
    have hin : (i : Int) ≠ (no : Int) := fun e => by rw [show i = no by omega, hno] at hb; cases hb
    have step : ∀ k, k ≤ (to.getD i []).length → ∀ v, (foldV to fu i st k).1 v = true → st.1 v = true ∨ Way to (no : Int) i v := fun k => by
      induction k with
      | zero =>
        intro _ v hv
        rw [foldV_zero] at hv
        have hv : (if v = i then true else st.1 v) = true := hv
        by_cases e : v = i
        · subst e; exact .inr (.here hin)
        · rw [if_neg e] at hv; exact .inl hv
      | succ k ih2 =>
        intro hk v hv
        rw [foldV_succ to fu i st (by omega)] at hv
        unfold stepV at hv
        split at hv
        · exact ih2 (by omega) v hv
        · rename_i hfree
          have hm := foldV_mono to fu i st k (by omega) no (leB_set st.1 i no hno)
          have h2 := gok_in hg hi (k := k) (by omega)
          rcases ih _ _ (by omega) (by simpa using hfree) hm v hv with h3 | h3
          · exact ih2 (by omega) v h3
          · refine .inr (Way.trans (.step (.here hin) (getD_in (by omega : k < (to.getD i []).length)) ?_) h3)
            intro e
            rw [e, Int.toNat_natCast, hm] at hfree
            exact hfree rfl
    rw [visit_eq] at h
    exact step _ (Nat.le_refl _) v h
/-- What is marked leads to what is marked. -/
def Clo (to : List (List Int)) (no : Nat) (b : Nat → Bool) : Prop := ∀ v, b v = true → v ≠ no → ∀ k ∈ to.getD v [], b k.toNat = true
def seed (no : Nat) : DS := (fun j => decide (j = no), [])
def regSt (to : List (List Int)) (no : Nat) (l : List Int) (k : Nat) : DS := (l.take k).foldl (stepV to (to.length + 1)) (seed no)
theorem regSt_zero (to : List (List Int)) (no : Nat) (l : List Int) : regSt to no l 0 = seed no := rfl
theorem regSt_succ (to : List (List Int)) (no : Nat) (l : List Int) {k : Nat} (hk : k < l.length) : regSt to no l (k + 1) = stepV to (to.length + 1) (regSt to no l k) (l.getD k 0) := by
  unfold regSt
  rw [List.take_succ_eq_append_getElem hk, List.foldl_append]
  simp only [List.foldl_cons, List.foldl_nil]
  rw [getD_at]
theorem regSt_inv {to : List (List Int)} (hg : GOK to) (no : Nat) {l : List Int} (hl : ∀ y ∈ l, 0 ≤ y ∧ y < to.length) : ∀ k, k ≤ l.length →
    (regSt to no l k).1 no = true ∧ Clo to no (regSt to no l k).1 ∧ (∀ j, j < k → (regSt to no l k).1 (l.getD j 0).toNat = true) ∧ ∀ v, (regSt to no l k).1 v = true → v = no ∨ ∃ j, j < k ∧ Way to (no : Int) (l.getD j 0).toNat v := fun k => by
  induction k with
  | zero =>
    intro _
    rw [regSt_zero]
    refine ⟨by simp [seed], fun v h hne => absurd (of_decide_eq_true h) hne, fun j hj => by omega, fun v h => .inl (of_decide_eq_true h)⟩
  | succ k ih =>
    intro hk
    obtain ⟨i1, i2, i3, i4⟩ := ih (by omega)
    rw [regSt_succ to no l (by omega)]
    have hm := stepV_mono to (to.length + 1) (regSt to no l k) (l.getD k 0)
    have hin := hl _ (getD_in (by omega : k < l.length))
    by_cases hb : (regSt to no l k).1 (l.getD k 0).toNat = true
    · rw [stepV, if_pos hb]
      refine ⟨i1, i2, fun j hj => ?_, fun v hv => ?_⟩
      · by_cases e : j = k
        · rw [e]; exact hb
        · exact i3 j (by omega)
      · rcases i4 v hv with h | ⟨j, hj, h⟩
        · exact .inl h
        · exact .inr ⟨j, by omega, h⟩
    · have hb2 : (regSt to no l k).1 (l.getD k 0).toNat = false := by simpa using hb
      have hfr : freeN to.length (regSt to no l k).1 ≤ to.length + 1 := by
        have := freeN_le (a := fun _ => false) (b := (regSt to no l k).1) (fun j h => by cases h) to.length
        rw [freeN_no] at this; omega
      obtain ⟨c1, c2⟩ := visit_closed hg (to.length + 1) (l.getD k 0).toNat (regSt to no l k) (by omega) hb2 hfr
      rw [stepV, if_neg hb] at hm ⊢
      refine ⟨hm no i1, fun v hv hne y hy => ?_, fun j hj => ?_, fun v hv => ?_⟩
      · by_cases ho : (regSt to no l k).1 v = true
        · exact hm _ (i2 v ho hne y hy)
        · exact c2 v hv (by simpa using ho) y hy
      · by_cases e : j = k
        · rw [e]; exact c1
        · exact hm _ (i3 j (by omega))
      · rcases visit_wayN hg (to.length + 1) _ _ (by omega) hb2 i1 v hv with h | h
        · rcases i4 v h with h | ⟨j, hj, h⟩
          · exact .inl h
          · exact .inr ⟨j, by omega, h⟩
        · exact .inr ⟨k, by omega, h⟩
def unm (no : Nat) (b : Nat → Bool) : Nat → Bool := fun j => b j && !decide (j = no)
def regB (to : List (List Int)) (l : List Int) (no : Nat) : Nat → Bool := unm no (regSt to no l l.length).1
theorem regB_iff {to : List (List Int)} (hg : GOK to) {no : Nat} {l : List Int} (hl : ∀ y ∈ l, 0 ≤ y ∧ y < to.length) (v : Nat) : regB to l no v = true ↔ ∃ y ∈ l, Way to (no : Int) y.toNat v := by
  obtain ⟨i1, i2, i3, i4⟩ := regSt_inv hg no hl l.length (Nat.le_refl _)
  unfold regB unm
  rw [Bool.and_eq_true, Bool.not_eq_true', decide_eq_false_iff_not]
  constructor
  · rintro ⟨h1, h2⟩
    rcases i4 v h1 with h | ⟨j, hj, h⟩
    · exact absurd h h2
    · exact ⟨_, getD_in hj, h⟩
  · rintro ⟨y, hy, hw⟩
    obtain ⟨j, hj, e⟩ := mem_idx.1 hy
    have hst := hw.stop (gok_nn hg)
    refine ⟨?_, fun e => hst (by omega)⟩
    induction hw with
    | here h => rw [← e]; exact i3 j hj
    | @step u z h hk hn ih =>
      have h2 := h.stop (gok_nn hg)
      exact i2 u (ih h2) (fun e => h2 (by omega)) z hk

/-! ### post.region -/
abbrev HG (to : List (List Int)) (m : Int) (no : Nat) (st : DS) : List Ch := [.box [vi m], .box [.own 4], .box [gv to], .box [.fn 40 [.ptr 0 0, .ptr 1 0, .ptr 2 0, .ptr 3 0]], beenC to.length (unm no st.1)]
def WalkG (to : List (List Int)) (no : Nat) (fu : Nat) : Prop := ∀ (i : Nat) (st : DS), i < to.length → st.1 no = true → freeN to.length st.1 ≤ fu →
  Proc PG 40 5 [vi (i : Int), .ptr 0 0, .ptr 1 0, .ptr 2 0, .ptr 3 0] (HG to (no : Int) no st) (.tup []) (HG to (no : Int) no (stepV to fu st (i : Int)))
theorem unm_or {no : Nat} {b : Nat → Bool} (hno : b no = true) (i : Nat) : (decide ((i : Int) = (no : Int)) || unm no b i) = b i := by
  unfold unm
  by_cases e : i = no
  · rw [e, hno, decide_eq_true rfl]; rfl
  · rw [decide_eq_false (by omega), decide_eq_false e]; simp
theorem unm_set {no i : Nat} (h : i ≠ no) (b : Nat → Bool) (j : Nat) : (if j = i then true else unm no b j) = unm no (setB b i) j := by
  unfold unm setB
  by_cases e : j = i
  · subst e; rw [if_pos rfl, if_pos rfl, decide_eq_false h]; rfl
  · rw [if_neg e, if_neg e]
theorem walkG_spec {to : List (List Int)} (hg : GOK to) (no : Nat) : ∀ fu, WalkG to no fu := fun fu => by
  induction fu with
  | zero =>
    intro i st hi hno hfu
    have hb : st.1 i = true := by
      cases hb : st.1 i with
      | true => rfl
      | false => exact absurd (freeN_pos hi hb) (by omega)
    refine Proc.mk (cfgF 33 5) tysOK [0, 1, 2, 3, 4] Try.func40 rfl (by kernel_rfl) rfl rfl rfl ?_
    intro C x
    have es : stepV to 0 st (i : Int) = st := by rw [stepV, Int.toNat_natCast, if_pos hb]
    rw [es]
    refine x.cond rfl ?_ (fun h => ?_) (fun h => ?_)
    · simp only [AllP]; omega
    · refine x.exit rfl trivial ?_
      exact ⟨.inr rfl, trivial, ⟨⟨rfl, trivial⟩, ⟨rfl, trivial⟩, ⟨veq0_d rfl, trivial⟩, ⟨rfl, trivial⟩, ⟨rfl, rfl, rfl, fun _ _ => rfl⟩, trivial⟩, rfl⟩
    · have h : (decide ((i : Int) = (no : Int)) || unm no st.1 i) = false := h
      rw [unm_or hno, hb] at h; cases h
  | succ fu ih =>
    intro i st hi hno hfu
    refine Proc.mk (cfgF 33 5) tysOK [0, 1, 2, 3, 4] Try.func40 rfl (by kernel_rfl) rfl rfl rfl ?_
    intro C x
    refine x.cond rfl ?_ (fun h => ?_) (fun h => ?_)
    · simp only [AllP]; omega
    · have h : (decide ((i : Int) = (no : Int)) || unm no st.1 i) = true := h
      rw [unm_or hno] at h
      have es : stepV to (fu + 1) st (i : Int) = st := by rw [stepV, Int.toNat_natCast, if_pos h]
      rw [es]
      refine x.exit rfl trivial ?_
      exact ⟨.inr rfl, trivial, ⟨⟨rfl, trivial⟩, ⟨rfl, trivial⟩, ⟨veq0_d rfl, trivial⟩, ⟨rfl, trivial⟩, ⟨rfl, rfl, rfl, fun _ _ => rfl⟩, trivial⟩, rfl⟩
    have h : (decide ((i : Int) = (no : Int)) || unm no st.1 i) = false := h
    rw [unm_or hno] at h
    have hne : i ≠ no := fun e => by rw [e, hno] at h; cases h
    have es : (stepV to (fu + 1) st (i : Int)).1 = (foldV to fu i st (to.getD i []).length).1 := by rw [stepV, Int.toNat_natCast, if_neg (by rw [h]; simp), visit_eq]
    have hn := hg.2.1
    obtain ⟨row, hrow⟩ : ∃ l, to.getD i [] = l := ⟨_, rfl⟩
    have hro : RowOK to.length row := hrow ▸ gok_row hg hi
    have hrl : row.length ≤ 256 := Nat.le_trans (row_len hro) hn
    have hiI : ((i : Int)).toNat = i := Int.toNat_natCast i
    refine x.loop (α := { k : Nat // k ≤ row.length }) (fun y => ⟨[(0, vi (i : Int)), (1, .ptr 0 0), (2, .ptr 1 0), (3, .ptr 2 0), (4, .ptr 3 0), (23, iv row), (24, vi (row.length : Int)), (25, vi (y.1 : Int))], [(0, .box [vi (no : Int)]), (1, .box [.own 4]), (2, .box [gv to]), (3, .box [.fn 40 [.ptr 0 0, .ptr 1 0, .ptr 2 0, .ptr 3 0]]), (4, beenC to.length (unm no (foldV to fu i st y.1).1))], 5⟩) (fun y => row.length - y.1) ⟨0, by omega⟩ rfl ?_ ?_ (fun y => ?_)
    · simp only [AllP, hiI, List.length]; omega
    · refine ⟨⟨rfl, ⟨rfl, rfl⟩, ⟨rfl, rfl⟩, ⟨rfl, rfl⟩, ⟨rfl, rfl⟩, veq_d ?_, ?_, rfl, trivial⟩, ⟨⟨rfl, trivial⟩, ⟨rfl, trivial⟩, ⟨veq0_d rfl, trivial⟩, ⟨rfl, trivial⟩, ⟨rfl, rfl, rfl, fun j hj => ?_⟩, trivial⟩, rfl⟩
      · show dInts (to.getD i []) = _
        rw [hrow]
      · show ((to.getD i []).length : Int) = _
        rw [hrow]
      · rw [put2_bool]
        show [D.bool (if j = i then true else unm no st.1 j)] = [D.bool (unm no (setB st.1 i) j)]
        rw [unm_set hne]
    obtain ⟨k, hk⟩ := y
    change Go C _ ⟨[(0, vi (i : Int)), (1, .ptr 0 0), (2, .ptr 1 0), (3, .ptr 2 0), (4, .ptr 3 0), (23, iv row), (24, vi (row.length : Int)), (25, vi (k : Int))], [(0, .box [vi (no : Int)]), (1, .box [.own 4]), (2, .box [gv to]), (3, .box [.fn 40 [.ptr 0 0, .ptr 1 0, .ptr 2 0, .ptr 3 0]]), (4, beenC to.length (unm no (foldV to fu i st k).1))], 5⟩ _
    obtain ⟨st2, hst2⟩ : ∃ st2, foldV to fu i st k = st2 := ⟨_, rfl⟩
    rw [hst2]
    have hmo := foldV_mono to fu i st k (by rw [hrow]; exact hk)
    have hm2 := freeN_le hmo to.length
    have hf2 := freeN_set hi h
    have hno2 := hmo no (leB_set st.1 i no hno)
    rw [hst2] at hm2 hno2
    refine x.cond rfl trivial (fun h1 => ?_) (fun h1 => ?_)
    · have h1 : k < row.length := by have := of_decide_eq_true h1; omega
      have hin := hro.1 _ (getD_in h1)
      refine x.call [0, 1, 2, 3, 4] rfl ?_ rfl (ih (row.getD k 0).toNat st2 (by omega) hno2 (by omega)) rfl ?_ ?_ ?_
      · simp only [AllP]; omega
      · refine ⟨?_, ⟨rfl, rfl⟩, ⟨rfl, rfl⟩, ⟨rfl, rfl⟩, ⟨rfl, rfl⟩, trivial⟩
        show row.getD k 0 = (((row.getD k 0).toNat : Nat) : Int)
        omega
      · exact ⟨⟨rfl, trivial⟩, ⟨rfl, trivial⟩, ⟨veq0_d rfl, trivial⟩, ⟨rfl, trivial⟩, ⟨rfl, rfl, rfl, fun _ _ => rfl⟩, trivial⟩
      · refine x.back rfl (show inI64 _ by unfold inI64; omega) ⟨⟨k + 1, by omega⟩, by show row.length - (k + 1) < row.length - k; omega, ?_⟩
        have e : foldV to fu i st (k + 1) = stepV to fu st2 (((row.getD k 0).toNat : Nat) : Int) := by
          rw [foldV_succ to fu i st (by rw [hrow]; exact h1), hst2, hrow, Int.toNat_of_nonneg hin.1]
        rw [e]
        exact ⟨⟨rfl, ⟨rfl, rfl⟩, ⟨rfl, rfl⟩, ⟨rfl, rfl⟩, ⟨rfl, rfl⟩, veq_d rfl, rfl, rfl, trivial⟩, ⟨⟨rfl, trivial⟩, ⟨rfl, trivial⟩, ⟨veq0_d rfl, trivial⟩, ⟨rfl, trivial⟩, ⟨rfl, rfl, rfl, fun _ _ => rfl⟩, trivial⟩, rfl⟩
    · have hkl : k = row.length := by
        have := of_decide_eq_false h1
        omega
      rw [hrow, ← hkl, hst2] at es
      refine x.exit rfl trivial ?_
      refine ⟨.inl rfl, trivial, ⟨⟨rfl, trivial⟩, ⟨rfl, trivial⟩, ⟨veq0_d rfl, trivial⟩, ⟨rfl, trivial⟩, ⟨rfl, rfl, rfl, fun j _ => ?_⟩, trivial⟩, rfl⟩
      rw [es]

theorem region_spec {to : List (List Int)} (hg : GOK to) (f no : Nat) (hf : f < to.length) : Pure PG 27 [gv to, vi (f : Int), vi (no : Int)] (.own 0) [beenC to.length (regB to (to.getD f []) no)] := by
  refine Proc.mk (cfg 29) tysOK [2] Try.func27 rfl (by kernel_rfl) rfl rfl rfl ?_
  intro C x
  have hn := hg.2.1
  obtain ⟨row, hrow⟩ : ∃ l, to.getD f [] = l := ⟨_, rfl⟩
  have hro : RowOK to.length row := hrow ▸ gok_row hg hf
  have hrl : row.length ≤ 256 := Nat.le_trans (row_len hro) hn
  rw [hrow]
  refine x.loop (α := { k : Nat // k ≤ row.length }) (fun y => ⟨[(7, .ptr 3 0), (8, .ptr 4 0), (18, iv row), (19, vi (row.length : Int)), (20, vi (y.1 : Int))], [(0, .box [gv to]), (1, .box [vi (no : Int)]), (2, beenC to.length (unm no (regSt to no row y.1).1)), (3, .box [.own 2]), (4, .box [.fn 40 [.ptr 1 0, .ptr 3 0, .ptr 0 0, .ptr 4 0]])], 5⟩) (fun y => row.length - y.1) ⟨0, by omega⟩ rfl ?_ ?_ (fun y => ?_)
  · simp only [AllP, big, Int.toNat_natCast]; omega
  · refine ⟨⟨⟨rfl, rfl⟩, ⟨rfl, rfl⟩, veq_d ?_, ?_, rfl, trivial⟩, ⟨⟨veq0_d rfl, trivial⟩, ⟨rfl, trivial⟩, ⟨rfl, rfl, rfl, fun j hj => ?_⟩, ⟨rfl, trivial⟩, ⟨rfl, trivial⟩, trivial⟩, rfl⟩
    · show dInts (to.getD f []) = _
      rw [hrow]
    · show ((to.getD f []).length : Int) = _
      rw [hrow]
    · show [D.bool false] = [D.bool (unm no (seed no).1 j)]
      unfold unm seed
      simp
  obtain ⟨k, hk⟩ := y
  change Go C _ ⟨[(7, .ptr 3 0), (8, .ptr 4 0), (18, iv row), (19, vi (row.length : Int)), (20, vi (k : Int))], [(0, .box [gv to]), (1, .box [vi (no : Int)]), (2, beenC to.length (unm no (regSt to no row k).1)), (3, .box [.own 2]), (4, .box [.fn 40 [.ptr 1 0, .ptr 3 0, .ptr 0 0, .ptr 4 0]])], 5⟩ _
  obtain ⟨i1, _, _, _⟩ := regSt_inv hg no hro.1 k hk
  refine x.cond rfl trivial (fun h1 => ?_) (fun h1 => ?_)
  · have h1 : k < row.length := by have := of_decide_eq_true h1; omega
    have hin := hro.1 _ (getD_in h1)
    refine x.call [1, 3, 0, 4, 2] rfl ?_ rfl (walkG_spec hg no (to.length + 1) (row.getD k 0).toNat (regSt to no row k) (by omega) i1 ?_) rfl ?_ ?_ ?_
    · simp only [AllP]; omega
    · have := freeN_le (a := fun _ => false) (b := (regSt to no row k).1) (fun j h => by cases h) to.length
      rw [freeN_no] at this; omega
    · refine ⟨?_, ⟨rfl, rfl⟩, ⟨rfl, rfl⟩, ⟨rfl, rfl⟩, ⟨rfl, rfl⟩, trivial⟩
      show row.getD k 0 = (((row.getD k 0).toNat : Nat) : Int)
      omega
    · exact ⟨⟨rfl, trivial⟩, ⟨rfl, trivial⟩, ⟨veq0_d rfl, trivial⟩, ⟨rfl, trivial⟩, ⟨rfl, rfl, rfl, fun _ _ => rfl⟩, trivial⟩
    · refine x.back rfl (show inI64 _ by unfold inI64; omega) ⟨⟨k + 1, by omega⟩, by show row.length - (k + 1) < row.length - k; omega, ?_⟩
      have e : regSt to no row (k + 1) = stepV to (to.length + 1) (regSt to no row k) (((row.getD k 0).toNat : Nat) : Int) := by
        rw [regSt_succ to no row h1, Int.toNat_of_nonneg hin.1]
      rw [e]
      exact ⟨⟨⟨rfl, rfl⟩, ⟨rfl, rfl⟩, veq_d rfl, rfl, rfl, trivial⟩, ⟨⟨veq0_d rfl, trivial⟩, ⟨rfl, trivial⟩, ⟨rfl, rfl, rfl, fun _ _ => rfl⟩, ⟨rfl, trivial⟩, ⟨rfl, trivial⟩, trivial⟩, rfl⟩
  · have h1 : k = row.length := by have := of_decide_eq_false h1; omega
    subst h1
    refine x.exit rfl trivial ?_
    exact ⟨.inr rfl, rfl, ⟨⟨rfl, rfl, rfl, fun _ _ => rfl⟩, trivial⟩, rfl⟩
end Go.Proofs.Ytniojnnbenkbpaa

/- post.Region; the answer's Marks, Region. -/
namespace Go.Proofs.Ytniojnnbenkbpaa
open Go.Sx
set_option linter.unusedVariables false
set_option linter.unusedSimpArgs false
set_option maxRecDepth 100000

/-! ### regions -/
noncomputable def marksF (to : List (List Int)) (f v : Nat) : Bool := decide (2 ≤ (to.getD f []).length) && regB to (to.getD f []) (meetF to f).toNat v
def picks (b : Nat → Bool) (i : Nat) : List Int := ((List.range i).filter b).map fun j : Nat => (j : Int)
theorem picks_succ (b : Nat → Bool) (i : Nat) : picks b (i + 1) = if b i then picks b i ++ [(i : Int)] else picks b i := by
  unfold picks
  rw [List.range_succ, List.filter_append, List.map_append]
  by_cases h : b i = true
  · rw [if_pos h, List.filter_cons_of_pos h]; rfl
  · rw [if_neg h, List.filter_cons_of_neg h]; simp
theorem picks_len (b : Nat → Bool) (i : Nat) : (picks b i).length ≤ i := by
  unfold picks
  rw [List.length_map]
  have := List.length_filter_le b (List.range i)
  simpa using this
theorem mem_picks {b : Nat → Bool} {i : Nat} {y : Int} : y ∈ picks b i ↔ ∃ j : Nat, j < i ∧ (j : Int) = y ∧ b j = true := by
  unfold picks
  simp only [List.mem_map, List.mem_filter, List.mem_range]
  constructor
  · rintro ⟨j, ⟨h1, h2⟩, h3⟩; exact ⟨j, h1, h3, h2⟩
  · rintro ⟨j, h1, h2, h3⟩; exact ⟨j, ⟨h1, h3⟩, h2⟩
theorem picks_none {b : Nat → Bool} {i : Nat} (h : ∀ j, j < i → b j = false) : picks b i = [] := by
  unfold picks
  rw [List.filter_eq_nil_iff.2 fun j hj => by rw [h j (by simpa using hj)]; simp]; rfl
theorem picks_congr {b c : Nat → Bool} {i : Nat} (h : ∀ j, j < i → b j = c j) : picks b i = picks c i := by
  unfold picks
  rw [List.filter_congr fun j hj => h j (by simpa using hj)]
open Classical in
noncomputable def regionL (to : List (List Int)) (f : Int) : List Int := if 0 ≤ f ∧ f < (postT to).length then picks (marksF to f.toNat) to.length else []
theorem regionL_yes {to : List (List Int)} (ha : OKP to) {f : Nat} (hf : f < to.length) : regionL to f = picks (marksF to f) to.length := by
  rw [regionL, if_pos ⟨by omega, by rw [postT_len ha]; omega⟩, Int.toNat_natCast]
theorem regionL_len (to : List (List Int)) (f : Int) : (regionL to f).length ≤ to.length := by
  unfold regionL; split
  · exact picks_len _ _
  · simp
theorem fork_ok {to : List (List Int)} {f : Int} (h0 : 0 ≤ f) (h1 : f < (postT to).length) : OKP to ∧ f.toNat < to.length := by
  have ha : OKP to := postT_lt (v := f.toNat) (by omega)
  exact ⟨ha, by have := postT_len ha; omega⟩

theorem postregion_spec (to : List (List Int)) (f : Int) (hf : Fit to) : Pure PG 14 [gv to, vi f] (iv (regionL to f)) [] := by
  refine Proc.mk (cfg 47) tysOK [] Try.func14 rfl (by kernel_rfl) rfl rfl rfl ?_
  intro C x
  refine x.pure rfl trivial rfl (posttree_spec to hf) ⟨veq_d rfl, trivial⟩ ?_
  refine x.cond rfl ?_ (fun h => ?_) (fun h => ?_)
  · simp only [AllP]
    intro h
    have h : (bif decide (f < 0) then true else decide (((postT to).length : Int) ≤ f)) = false := h
    by_cases h0 : f < 0
    · rw [decide_eq_true h0] at h; cases h
    · rw [decide_eq_false h0] at h
      have h1 := of_decide_eq_false h
      have := (fork_ok (to := to) (f := f) (by omega) (by omega)).2
      omega
  · refine x.exit rfl trivial ?_
    refine ⟨.inr rfl, ?_, trivial, rfl⟩
    show (regionL to f).length = 0
    have h : ((decide (f < 0) || decide (((postT to).length : Int) ≤ f)) || decide (((to.getD f.toNat []).length : Int) < 2)) = true := h
    unfold regionL
    split
    · rename_i hc
      rw [decide_eq_false (by omega), decide_eq_false (by omega), Bool.false_or, Bool.false_or, decide_eq_true_eq] at h
      rw [picks_none]; rfl
      intro j hj
      unfold marksF
      rw [decide_eq_false (by omega)]; rfl
    · rfl
  have h : ((decide (f < 0) || decide (((postT to).length : Int) ≤ f)) || decide (((to.getD f.toNat []).length : Int) < 2)) = false := h
  simp only [Bool.or_eq_false_iff, decide_eq_false_iff_not] at h
  obtain ⟨⟨h0, h1⟩, h2⟩ := h
  obtain ⟨ha, hfl⟩ := fork_ok (to := to) (f := f) (by omega) (by omega)
  obtain ⟨q, rfl⟩ : ∃ q : Nat, f = q := ⟨f.toNat, by omega⟩
  rw [Int.toNat_natCast] at h2 hfl
  have hg := ha.gok
  have hn := ha.1
  have hm := meetF_is ha hfl
  have hmg := hm.ge
  have ep := postT_at ha hfl
  refine x.call [] rfl ?_ rfl (region_spec hg q (meetF to q).toNat hfl) rfl ⟨veq_d rfl, rfl, ?_, trivial⟩ trivial ?_
  · simp only [AllP, postT_len ha]; omega
  · show (postT to).getD ((q : Int)).toNat 0 = (((meetF to q).toNat : Nat) : Int)
    rw [Int.toNat_natCast, ep]; omega
  obtain ⟨mk, hmk⟩ : ∃ mk, regB to (to.getD q []) (meetF to q).toNat = mk := ⟨_, rfl⟩
  rw [hmk]
  have er : regionL to q = picks mk to.length := by
    rw [regionL_yes ha hfl]
    refine picks_congr fun j hj => ?_
    unfold marksF
    rw [decide_eq_true (by omega), Bool.true_and, hmk]
  refine x.toLoop rfl trivial ?_
  refine Go.own 6 3 1 (fun j => [.int .i64 (([] : List Int).getD j 0)]) rfl ?_
  refine x.loop (α := { i : Nat // i ≤ to.length }) (fun y => ⟨[(6, .own 1), (33, .own 0), (34, vi (to.length : Int)), (35, vi (y.1 : Int))], [(0, beenC to.length mk), (1, outC (picks mk y.1))], 2⟩) (fun y => to.length - y.1) ⟨0, by omega⟩ rfl trivial ⟨⟨rfl, rfl, rfl, rfl, trivial⟩, ⟨⟨rfl, rfl, rfl, fun _ _ => rfl⟩, ⟨rfl, rfl, rfl, fun j hj => absurd hj (Nat.not_lt_zero _)⟩, trivial⟩, rfl⟩ (fun y => ?_)
  obtain ⟨i, hi⟩ := y
  change Go C _ ⟨[(6, .own 1), (33, .own 0), (34, vi (to.length : Int)), (35, vi (i : Int))], [(0, beenC to.length mk), (1, outC (picks mk i))], 2⟩ _
  have hpl := picks_len mk i
  have eps := picks_succ mk i
  refine x.cond rfl trivial (fun h3 => ?_) (fun h3 => ?_)
  · have h3 : i < to.length := by have := of_decide_eq_true h3; omega
    refine x.cond rfl ?_ (fun h4 => ?_) (fun h4 => ?_)
    · simp only [AllP]; omega
    · have h4 : mk i = true := h4
      rw [if_pos h4] at eps
      refine x.back rfl ?_ ⟨⟨i + 1, by omega⟩, by show to.length - (i + 1) < to.length - i; omega, ⟨rfl, rfl, rfl, rfl, trivial⟩, ⟨⟨rfl, rfl, rfl, fun _ _ => rfl⟩, ⟨rfl, rfl, ?_, fun j hj => ?_⟩, trivial⟩, rfl⟩
      · simp only [AllP, big, inI64]; omega
      · show (picks mk i).length + 1 = (picks mk (i + 1)).length
        rw [eps]; simp
      · have hj : j < (picks mk i).length + 1 := hj
        rw [eps]; exact app_list _ _ _ _ hj
    · have h4 : mk i = false := h4
      rw [if_neg (by rw [h4]; simp)] at eps
      refine x.back rfl (show inI64 _ by unfold inI64; omega) ⟨⟨i + 1, by omega⟩, by show to.length - (i + 1) < to.length - i; omega, ⟨rfl, rfl, rfl, rfl, trivial⟩, ⟨⟨rfl, rfl, rfl, fun _ _ => rfl⟩, ⟨rfl, rfl, ?_, fun j hj => ?_⟩, trivial⟩, rfl⟩
      · show (picks mk i).length = (picks mk (i + 1)).length
        rw [eps]
      · show [D.int .i64 ((picks mk i).getD j 0)] = [D.int .i64 ((picks mk (i + 1)).getD j 0)]
        rw [eps]
  · have h3 : i = to.length := by have := of_decide_eq_false h3; omega
    subst h3
    rw [er]
    refine Sx.Go.freeze 1 ?_
    refine x.exit rfl trivial ?_
    exact ⟨.inr rfl, veq_d rfl, trivial, rfl⟩

/-! ### the answer's marks -/
noncomputable def accW (to : List (List Int)) (row : List Int) (m : Int) (k v : Nat) : Bool := (List.range k).any fun j => wayB to m (row.getD j 0).toNat v
theorem accW_succ (to : List (List Int)) (row : List Int) (m : Int) (k v : Nat) : accW to row m (k + 1) v = (accW to row m k v || wayB to m (row.getD k 0).toNat v) := by
  unfold accW
  rw [List.range_succ, List.any_append]
  simp only [List.any_cons, List.any_nil, Bool.or_false]
theorem accW_reg {to : List (List Int)} (hg : GOK to) {row : List Int} (hl : ∀ y ∈ row, 0 ≤ y ∧ y < to.length) (no v : Nat) : accW to row (no : Int) row.length v = regB to row no v := by
  rw [Bool.eq_iff_iff, regB_iff hg hl]
  unfold accW
  simp only [List.any_eq_true, List.mem_range]
  constructor
  · rintro ⟨j, hj, h⟩
    exact ⟨_, getD_in hj, wayB_iff.1 h⟩
  · rintro ⟨y, hy, h⟩
    obtain ⟨j, hj, e⟩ := mem_idx.1 hy
    exact ⟨j, hj, by rw [e]; exact wayB_iff.2 h⟩
theorem marks_spec {to : List (List Int)} (ha : OKP to) (f : Nat) (hfl : f < to.length) : Pure PG 28 [gv to, iv (postT to), vi (f : Int)] (.d (dBools to.length (marksF to f))) [] := by
  refine Proc.mk (cfg 63) tysOK [] Try.func28 rfl (by kernel_rfl) rfl rfl rfl ?_
  intro C x
  have hg := ha.gok
  have hn := ha.1
  have hm := meetF_is ha hfl
  have hmg := hm.ge
  have ep := postT_at ha hfl
  have epl := postT_len ha
  obtain ⟨row, hrow⟩ : ∃ l, to.getD f [] = l := ⟨_, rfl⟩
  have hro : RowOK to.length row := hrow ▸ gok_row hg hfl
  have hrl : row.length ≤ 256 := by have := row_len hro; omega
  have efI : to.getD ((f : Int)).toNat [] = row := hrow
  obtain ⟨m, hmm⟩ : ∃ m : Nat, meetF to f = m := ⟨(meetF to f).toNat, by omega⟩
  rw [hmm] at ep
  have emk : ∀ v, marksF to f v = (decide (2 ≤ row.length) && accW to row (m : Int) row.length v) := fun v => by
    unfold marksF
    rw [hrow, hmm, Int.toNat_natCast, accW_reg hg hro.1]
  refine x.cond rfl ?_ (fun h => ?_) (fun h => ?_)
  · simp only [AllP, big, Int.toNat_natCast]; omega
  · have h : decide (((to.getD ((f : Int)).toNat []).length : Int) < 2) = true := h
    rw [efI, decide_eq_true_eq] at h
    refine Sx.Go.freeze 0 ?_
    refine x.exit rfl trivial ?_
    refine ⟨.inr rfl, veq_d ?_, trivial, rfl⟩
    show D.sl 1 to.length (fun j => [D.bool false]) = dBools to.length (marksF to f)
    refine congrArg (D.sl 1 to.length) (funext fun v => ?_)
    rw [emk, decide_eq_false (by omega)]; rfl
  have h : decide (((to.getD ((f : Int)).toNat []).length : Int) < 2) = false := h
  rw [efI, decide_eq_false_iff_not] at h
  refine x.loop (α := { k : Nat // k ≤ row.length }) (fun y => ⟨[(0, gv to), (1, iv (postT to)), (2, vi (f : Int)), (7, .own 0), (8, vi (y.1 : Int))], [(0, beenC to.length (accW to row (m : Int) y.1))], 1⟩) (fun y => row.length - y.1) ⟨0, by omega⟩ rfl trivial ⟨⟨veq_d rfl, veq_d rfl, rfl, rfl, rfl, trivial⟩, ⟨⟨rfl, rfl, rfl, fun _ _ => rfl⟩, trivial⟩, rfl⟩ (fun y => ?_)
  obtain ⟨k, hk⟩ := y
  change Go C _ ⟨[(0, gv to), (1, iv (postT to)), (2, vi (f : Int)), (7, .own 0), (8, vi (k : Int))], [(0, beenC to.length (accW to row (m : Int) k))], 1⟩ _
  refine x.cond rfl ?_ (fun h1 => ?_) (fun h1 => ?_)
  · simp only [AllP, Int.toNat_natCast]; omega
  · have h1 : decide ((k : Int) < ((to.getD ((f : Int)).toNat []).length : Int)) = true := h1
    rw [efI, decide_eq_true_eq] at h1
    have h1 : k < row.length := by omega
    have hin := hro.1 _ (getD_in h1)
    refine x.plan [0, 1, 2, 5, 8, 9] [3, 4, 6, 7, 10, 11] [12, 13] rfl trivial mixedP (by kernel_rfl) Ret.noPanic ?_
    refine x.qdone rfl ?_ ?_
    · simp only [AllP, Int.toNat_natCast, hrow, epl]; omega
    refine x.pure rfl trivial rfl (without_spec to hg (row.getD k 0).toNat (m : Int) (by omega)) ⟨veq_d rfl, ?_, ?_, trivial⟩ ?_
    · show (to.getD ((f : Int)).toNat []).getD ((k : Int)).toNat 0 = (((row.getD k 0).toNat : Nat) : Int)
      rw [efI, Int.toNat_natCast]; omega
    · show (postT to).getD ((f : Int)).toNat 0 = (m : Int)
      rw [Int.toNat_natCast, ep]
    refine x.loop (α := { i : Nat // i ≤ to.length }) (fun y => ⟨[(0, gv to), (1, iv (postT to)), (2, vi (f : Int)), (7, .own 0), (8, vi (k : Int)), (9, .d (dBools to.length (wayB to (m : Int) (row.getD k 0).toNat))), (10, vi (y.1 : Int))], [(0, beenC to.length fun v => if v < y.1 then accW to row (m : Int) (k + 1) v else accW to row (m : Int) k v)], 1⟩) (fun y => to.length - y.1) ⟨0, by omega⟩ rfl trivial ?_ (fun y => ?_)
    · exact ⟨⟨veq_d rfl, veq_d rfl, rfl, rfl, rfl, veq_d rfl, rfl, trivial⟩, ⟨⟨rfl, rfl, rfl, fun j hj => by simp⟩, trivial⟩, rfl⟩
    obtain ⟨i, hi⟩ := y
    change Go C _ ⟨[(0, gv to), (1, iv (postT to)), (2, vi (f : Int)), (7, .own 0), (8, vi (k : Int)), (9, .d (dBools to.length (wayB to (m : Int) (row.getD k 0).toNat))), (10, vi (i : Int))], [(0, beenC to.length fun v => if v < i then accW to row (m : Int) (k + 1) v else accW to row (m : Int) k v)], 1⟩ _
    refine x.cond rfl trivial (fun h2 => ?_) (fun h2 => ?_)
    · have h2 : i < to.length := by have := of_decide_eq_true h2; omega
      refine x.back rfl ?_ ⟨⟨i + 1, by omega⟩, by show to.length - (i + 1) < to.length - i; omega, ⟨veq_d rfl, veq_d rfl, rfl, rfl, rfl, veq_d rfl, rfl, trivial⟩, ⟨⟨rfl, rfl, rfl, fun v hv => ?_⟩, trivial⟩, rfl⟩
      · simp only [AllP, inI64, List.length]
        exact ⟨by omega, by omega, by omega, ⟨by omega, by omega⟩, by omega⟩
      · refine (congrFun (put2_bool (fun v => if v < i then accW to row (m : Int) (k + 1) v else accW to row (m : Int) k v) i _) v).trans ?_
        show [D.bool (if v = i then ((if i < i then accW to row (m : Int) (k + 1) i else accW to row (m : Int) k i) || wayB to (m : Int) (row.getD k 0).toNat i) else if v < i then accW to row (m : Int) (k + 1) v else accW to row (m : Int) k v)] = [D.bool (if v < i + 1 then accW to row (m : Int) (k + 1) v else accW to row (m : Int) k v)]
        by_cases hvj : v = i
        · rw [if_pos hvj, if_neg (Nat.lt_irrefl _), if_pos (by omega), hvj, accW_succ]
        · rw [if_neg hvj]
          by_cases hlt : v < i
          · rw [if_pos hlt, if_pos (by omega)]
          · rw [if_neg hlt, if_neg (by omega)]
    · have h2 : i = to.length := by have := of_decide_eq_false h2; omega
      subst h2
      refine x.back rfl (show inI64 _ by unfold inI64; omega) ⟨⟨k + 1, by omega⟩, by show row.length - (k + 1) < row.length - k; omega, ⟨veq_d rfl, veq_d rfl, rfl, rfl, rfl, trivial⟩, ⟨⟨rfl, rfl, rfl, fun v hv => ?_⟩, trivial⟩, rfl⟩
      show [D.bool (if v < to.length then accW to row (m : Int) (k + 1) v else accW to row (m : Int) k v)] = [D.bool (accW to row (m : Int) (k + 1) v)]
      rw [if_pos hv]
  · have h1 : decide ((k : Int) < ((to.getD ((f : Int)).toNat []).length : Int)) = false := h1
    rw [efI, decide_eq_false_iff_not] at h1
    have h1 : k = row.length := by omega
    subst h1
    refine Sx.Go.freeze 0 ?_
    refine x.exit rfl trivial ?_
    refine ⟨.inr rfl, veq_d ?_, trivial, rfl⟩
    show D.sl 1 to.length (fun j => [D.bool (accW to row (m : Int) row.length j)]) = dBools to.length (marksF to f)
    refine congrArg (D.sl 1 to.length) (funext fun v => ?_)
    rw [emk, decide_eq_true (by omega), Bool.true_and]

theorem refregion_spec (to : List (List Int)) (f : Int) (hf : Fit to) : Pure PG 16 [gv to, vi f] (iv (regionL to f)) [] := by
  refine Proc.mk (cfg 38) tysOK [] Try.func16 rfl (by kernel_rfl) rfl rfl rfl ?_
  intro C x
  refine x.pure rfl trivial rfl (rtree_spec to hf) ⟨veq_d rfl, trivial⟩ ?_
  refine x.cond rfl trivial (fun h => ?_) (fun h => ?_)
  · refine x.exit rfl trivial ?_
    refine ⟨.inr rfl, ?_, trivial, rfl⟩
    show (regionL to f).length = 0
    have h : (decide (f < 0) || decide (((postT to).length : Int) ≤ f)) = true := h
    rw [Bool.or_eq_true, decide_eq_true_eq, decide_eq_true_eq] at h
    rw [regionL, if_neg (by omega)]; rfl
  have h : (decide (f < 0) || decide (((postT to).length : Int) ≤ f)) = false := h
  simp only [Bool.or_eq_false_iff, decide_eq_false_iff_not] at h
  obtain ⟨h0, h1⟩ := h
  obtain ⟨ha, hfl⟩ := fork_ok (to := to) (f := f) (by omega) (by omega)
  obtain ⟨q, rfl⟩ : ∃ q : Nat, f = q := ⟨f.toNat, by omega⟩
  rw [Int.toNat_natCast] at hfl
  have hn := ha.1
  refine x.pure rfl trivial rfl (marks_spec ha q hfl) ⟨veq_d rfl, veq_d rfl, rfl, trivial⟩ ?_
  rw [regionL_yes ha hfl]
  obtain ⟨mk, hmk⟩ : ∃ mk, marksF to q = mk := ⟨_, rfl⟩
  rw [hmk]
  refine x.toLoop rfl trivial ?_
  refine Go.own 7 3 1 (fun j => [.int .i64 (([] : List Int).getD j 0)]) rfl ?_
  refine x.loop (α := { i : Nat // i ≤ to.length }) (fun y => ⟨[(6, .d (dBools to.length mk)), (7, .own 0), (8, vi (y.1 : Int))], [(0, outC (picks mk y.1))], 1⟩) (fun y => to.length - y.1) ⟨0, by omega⟩ rfl trivial ⟨⟨veq_d rfl, rfl, rfl, trivial⟩, ⟨⟨rfl, rfl, rfl, fun j hj => absurd hj (Nat.not_lt_zero _)⟩, trivial⟩, rfl⟩ (fun y => ?_)
  obtain ⟨i, hi⟩ := y
  change Go C _ ⟨[(6, .d (dBools to.length mk)), (7, .own 0), (8, vi (i : Int))], [(0, outC (picks mk i))], 1⟩ _
  have hpl := picks_len mk i
  have eps := picks_succ mk i
  refine x.cond rfl trivial (fun h3 => ?_) (fun h3 => ?_)
  · have h3 : i < to.length := by have := of_decide_eq_true h3; omega
    refine x.cond rfl ?_ (fun h4 => ?_) (fun h4 => ?_)
    · simp only [AllP]; omega
    · have h4 : mk i = true := h4
      rw [if_pos h4] at eps
      refine x.back rfl ?_ ⟨⟨i + 1, by omega⟩, by show to.length - (i + 1) < to.length - i; omega, ⟨veq_d rfl, rfl, rfl, trivial⟩, ⟨⟨rfl, rfl, ?_, fun j hj => ?_⟩, trivial⟩, rfl⟩
      · simp only [AllP, big, inI64]; omega
      · show (picks mk i).length + 1 = (picks mk (i + 1)).length
        rw [eps]; simp
      · have hj : j < (picks mk i).length + 1 := hj
        rw [eps]; exact app_list _ _ _ _ hj
    · have h4 : mk i = false := h4
      rw [if_neg (by rw [h4]; simp)] at eps
      refine x.back rfl (show inI64 _ by unfold inI64; omega) ⟨⟨i + 1, by omega⟩, by show to.length - (i + 1) < to.length - i; omega, ⟨veq_d rfl, rfl, rfl, trivial⟩, ⟨⟨rfl, rfl, ?_, fun j hj => ?_⟩, trivial⟩, rfl⟩
      · show (picks mk i).length = (picks mk (i + 1)).length
        rw [eps]
      · show [D.int .i64 ((picks mk i).getD j 0)] = [D.int .i64 ((picks mk (i + 1)).getD j 0)]
        rw [eps]
  · have h3 : i = to.length := by have := of_decide_eq_false h3; omega
    subst h3
    refine Sx.Go.freeze 0 ?_
    refine x.exit rfl trivial ?_
    exact ⟨.inr rfl, veq_d rfl, trivial, rfl⟩
end Go.Proofs.Ytniojnnbenkbpaa

/- post.Held; the answer's Held; the chapter's example. -/
namespace Go.Proofs.Ytniojnnbenkbpaa
open Go.Sx
set_option linter.unusedVariables false
set_option linter.unusedSimpArgs false
set_option maxRecDepth 100000

/-- In the regions of which of the first i forks a node is; of fork i, the nodes ahead of k. -/
noncomputable def heldR (to : List (List Int)) (i : Nat) (v : Nat) : List Int := picks (fun f => marksF to f v) i
noncomputable def heldK (to : List (List Int)) (i k : Nat) (v : Nat) : List Int := if v < k then heldR to (i + 1) v else heldR to i v
open Classical in
noncomputable def heldL (to : List (List Int)) : List (List Int) := if OKP to then (List.range to.length).map (heldR to to.length) else []
theorem heldL_not {to : List (List Int)} (h : ¬ OKP to) : heldL to = [] := if_neg h
theorem heldL_yes {to : List (List Int)} (h : OKP to) : heldL to = (List.range to.length).map (heldR to to.length) := if_pos h
theorem heldL_len {to : List (List Int)} (h : OKP to) : (heldL to).length = to.length := by rw [heldL_yes h]; simp
theorem heldL_at {to : List (List Int)} (h : OKP to) {v : Nat} (hv : v < to.length) : (heldL to).getD v [] = heldR to to.length v := by
  rw [heldL_yes h, List.getD_eq_getElem?_getD, List.getElem?_map, List.getElem?_range hv]; rfl
theorem heldR_len (to : List (List Int)) (i v : Nat) : (heldR to i v).length ≤ i := picks_len _ _
theorem heldR_succ (to : List (List Int)) (i v : Nat) : heldR to (i + 1) v = if marksF to i v then heldR to i v ++ [(i : Int)] else heldR to i v := picks_succ _ _
theorem heldK_at (to : List (List Int)) (i k : Nat) : heldK to i k k = heldR to i k := by rw [heldK, if_neg (Nat.lt_irrefl _)]
theorem heldK_next (to : List (List Int)) (i k : Nat) (v : Nat) : heldK to i (k + 1) v = if v = k then heldR to (i + 1) k else heldK to i k v := by
  unfold heldK
  by_cases e : v = k
  · subst e; rw [if_pos (by omega), if_pos rfl]
  · rw [if_neg e]
    by_cases e2 : v < k
    · rw [if_pos e2, if_pos (by omega)]
    · rw [if_neg e2, if_neg (by omega)]
theorem heldK_len (to : List (List Int)) (i k v : Nat) : (heldK to i k v).length ≤ i + 1 := by
  unfold heldK
  have h1 := heldR_len to (i + 1) v
  have h2 := heldR_len to i v
  split <;> omega

theorem postheld_spec (to : List (List Int)) (hf : Fit to) : Pure PG 15 [gv to] (gv (heldL to)) [] := by
  refine Proc.mk (cfg 54) tysOK [] Try.func15 rfl (by kernel_rfl) rfl rfl rfl ?_
  intro C x
  refine x.pure rfl trivial rfl (posttree_spec to hf) ⟨veq_d rfl, trivial⟩ ?_
  refine x.cond rfl trivial (fun h => ?_) (fun h => ?_)
  · have h : ((postT to).length : Int) = 0 := of_decide_eq_true h
    have hno : ¬ OKP to := fun ha => by
      have := postT_len ha; have := ha.gok.1; omega
    refine x.exit rfl trivial ?_
    refine ⟨.inr rfl, ?_, trivial, rfl⟩
    show (heldL to).length = 0
    rw [heldL_not hno]; rfl
  have h : ¬ ((postT to).length : Int) = 0 := of_decide_eq_false h
  have ha : OKP to := postT_lt (v := 0) (by omega)
  have hg := ha.gok
  have hn := ha.1
  have epl := postT_len ha
  refine x.loop (α := { i : Nat // i ≤ to.length } × (Nat → Value)) (fun y => ⟨[(0, gv to), (3, iv (postT to)), (4, .own 0), (16, gv to), (17, vi (to.length : Int)), (18, vi (y.1.1 : Int))], [(0, rowsC to.length y.2 (heldR to y.1.1))], 1⟩) (fun y => to.length - y.1.1) (⟨0, by omega⟩, fun _ => .slice none 0 0) rfl ?_ ?_ (fun y => ?_)
  · simp only [AllP, big, Int.toNat_natCast]; omega
  · exact ⟨⟨veq_d rfl, veq_d rfl, rfl, veq_d rfl, rfl, rfl, trivial⟩, ⟨⟨rfl, rfl, rfl, rfl, rfl, fun i hi => ⟨rfl, rfl, fun j hj => absurd hj (Nat.not_lt_zero _)⟩⟩, trivial⟩, rfl⟩
  obtain ⟨⟨i, hi⟩, hs⟩ := y
  change Go C _ ⟨[(0, gv to), (3, iv (postT to)), (4, .own 0), (16, gv to), (17, vi (to.length : Int)), (18, vi (i : Int))], [(0, rowsC to.length hs (heldR to i))], 1⟩ _
  refine x.cond rfl trivial (fun h1 => ?_) (fun h1 => ?_)
  · have h1 : i < to.length := by have := of_decide_eq_true h1; omega
    refine x.cond rfl ?_ (fun h2 => ?_) (fun h2 => ?_)
    · simp only [AllP]; omega
    · have h2 : ((to.getD i []).length : Int) < 2 := of_decide_eq_true h2
      have e : ∀ v, heldR to i v = heldR to (i + 1) v := fun v => by
        rw [heldR_succ, if_neg]
        unfold marksF
        rw [decide_eq_false (by omega)]; simp
      exact x.back rfl (show inI64 _ by unfold inI64; omega) ⟨(⟨i + 1, by omega⟩, hs), by show to.length - (i + 1) < to.length - i; omega, ⟨veq_d rfl, veq_d rfl, rfl, veq_d rfl, rfl, rfl, trivial⟩, ⟨⟨rfl, rfl, rfl, rfl, rfl, fun v hv => ⟨rfl, congrArg List.length (e v), fun j hj => congrArg (fun l : List Int => [D.int .i64 (l.getD j 0)]) (e v)⟩⟩, trivial⟩, rfl⟩
    have h2 : ¬ ((to.getD i []).length : Int) < 2 := of_decide_eq_false h2
    have hm := meetF_is ha h1
    have hmg := hm.ge
    have ep := postT_at ha h1
    refine x.call [] rfl ?_ rfl (region_spec hg i (meetF to i).toNat h1) rfl ⟨veq_d rfl, rfl, ?_, trivial⟩ trivial ?_
    · simp only [AllP, epl]; omega
    · show (postT to).getD ((i : Int)).toNat 0 = (((meetF to i).toNat : Nat) : Int)
      rw [Int.toNat_natCast, ep]; omega
    obtain ⟨mk, hmk⟩ : ∃ mk, regB to (to.getD i []) (meetF to i).toNat = mk := ⟨_, rfl⟩
    rw [hmk]
    have emk : ∀ v, marksF to i v = mk v := fun v => by
      unfold marksF
      rw [hmk, decide_eq_true (by omega), Bool.true_and]
    refine x.loop (α := { k : Nat // k ≤ to.length } × (Nat → Value)) (fun y => ⟨[(0, gv to), (3, iv (postT to)), (4, .own 0), (16, gv to), (17, vi (to.length : Int)), (18, vi (i : Int)), (5, vi (i : Int)), (33, .own 1), (34, vi (to.length : Int)), (35, vi (y.1.1 : Int))], [(0, rowsC to.length y.2 (heldK to i y.1.1)), (1, beenC to.length mk)], 2⟩) (fun y => to.length - y.1.1) (⟨0, by omega⟩, hs) rfl trivial ?_ (fun y => ?_)
    · exact ⟨⟨veq_d rfl, veq_d rfl, rfl, veq_d rfl, rfl, rfl, rfl, rfl, rfl, rfl, trivial⟩, ⟨⟨rfl, rfl, rfl, rfl, rfl, fun v hv => ⟨rfl, rfl, fun j hj => rfl⟩⟩, ⟨rfl, rfl, rfl, fun _ _ => rfl⟩, trivial⟩, rfl⟩
    obtain ⟨⟨k, hk⟩, hs⟩ := y
    change Go C _ ⟨[(0, gv to), (3, iv (postT to)), (4, .own 0), (16, gv to), (17, vi (to.length : Int)), (18, vi (i : Int)), (5, vi (i : Int)), (33, .own 1), (34, vi (to.length : Int)), (35, vi (k : Int))], [(0, rowsC to.length hs (heldK to i k)), (1, beenC to.length mk)], 2⟩ _
    have en := heldK_next to i k
    have er := heldR_succ to i k
    rw [emk] at er
    refine x.cond rfl trivial (fun h3 => ?_) (fun h3 => ?_)
    · have h3 : k < to.length := by have := of_decide_eq_true h3; omega
      have hl := heldK_len to i k k
      refine x.cond rfl ?_ (fun h4 => ?_) (fun h4 => ?_)
      · simp only [AllP]; omega
      · have h4 : mk k = true := h4
        rw [if_pos h4] at er
        refine x.loadRow rfl ?_ rfl ?_ ?_
        · simp only [AllP]; omega
        · exact h3
        refine x.storeRow rfl ?_ rfl ⟨rfl, h3⟩ (fun val => ?_)
        · simp only [AllP, inI64]
          simp only [show ((k : Int)).toNat = k from rfl]
          unfold big
          omega
        refine x.back rfl (show inI64 _ by unfold inI64; omega) ⟨(⟨k + 1, by omega⟩, _), by show to.length - (k + 1) < to.length - k; omega, ⟨veq_d rfl, veq_d rfl, rfl, veq_d rfl, rfl, rfl, rfl, rfl, rfl, rfl, trivial⟩, ⟨⟨rfl, rfl, rfl, rfl, rfl, fun v hv => ⟨rfl, ?_, fun j hj => ?_⟩⟩, ⟨rfl, rfl, rfl, fun _ _ => rfl⟩, trivial⟩, rfl⟩
        · show (if v = k then (heldK to i k k).length + 1 else (heldK to i k v).length) = (heldK to i (k + 1) v).length
          rw [en v]
          by_cases hvt : v = k
          · rw [if_pos hvt, if_pos hvt, heldK_at, er]; simp
          · rw [if_neg hvt, if_neg hvt]
        · have hj : j < (if v = k then (heldK to i k k).length + 1 else (heldK to i k v).length) := hj
          show (if v = k then app (heldK to i k k).length (fun j => [D.int .i64 ((heldK to i k k).getD j 0)]) (fun _ => [D.int .i64 (i : Int)]) else fun j => [D.int .i64 ((heldK to i k v).getD j 0)]) j = [D.int .i64 ((heldK to i (k + 1) v).getD j 0)]
          rw [en v]
          by_cases hvt : v = k
          · rw [if_pos hvt] at hj
            rw [if_pos hvt, if_pos hvt, er]
            rw [heldK_at] at hj ⊢
            exact app_list _ _ _ _ hj
          · rw [if_neg hvt, if_neg hvt]
      · have h4 : mk k = false := h4
        rw [if_neg (by rw [h4]; simp)] at er
        have e : ∀ v, heldK to i k v = heldK to i (k + 1) v := fun v => by
          rw [en v]
          by_cases hvt : v = k
          · rw [if_pos hvt, hvt, heldK_at, er]
          · rw [if_neg hvt]
        exact x.back rfl (show inI64 _ by unfold inI64; omega) ⟨(⟨k + 1, by omega⟩, hs), by show to.length - (k + 1) < to.length - k; omega, ⟨veq_d rfl, veq_d rfl, rfl, veq_d rfl, rfl, rfl, rfl, rfl, rfl, rfl, trivial⟩, ⟨⟨rfl, rfl, rfl, rfl, rfl, fun v hv => ⟨rfl, congrArg List.length (e v), fun j hj => congrArg (fun l : List Int => [D.int .i64 (l.getD j 0)]) (e v)⟩⟩, ⟨rfl, rfl, rfl, fun _ _ => rfl⟩, trivial⟩, rfl⟩
    · have h3 : k = to.length := by have := of_decide_eq_false h3; omega
      subst h3
      have e : ∀ v, v < to.length → heldK to i to.length v = heldR to (i + 1) v := fun v hv => by rw [heldK, if_pos hv]
      exact x.back rfl (show inI64 _ by unfold inI64; omega) ⟨(⟨i + 1, by omega⟩, hs), by show to.length - (i + 1) < to.length - i; omega, ⟨veq_d rfl, veq_d rfl, rfl, veq_d rfl, rfl, rfl, trivial⟩, ⟨⟨rfl, rfl, rfl, rfl, rfl, fun v hv => ⟨rfl, congrArg List.length (e v hv), fun j hj => congrArg (fun l : List Int => [D.int .i64 (l.getD j 0)]) (e v hv)⟩⟩, trivial⟩, rfl⟩
  · have h1 : i = to.length := by have := of_decide_eq_false h1; omega
    subst h1
    refine Sx.Go.close 0 ?_
    refine Sx.Go.freeze 0 ?_
    refine x.exit rfl trivial ?_
    refine ⟨.inr rfl, ⟨?_, fun _ => rfl, fun v hv => ?_⟩, trivial, rfl⟩
    · exact (heldL_len ha).symm
    · show [dInts (heldR to to.length v)] = [dInts ((heldL to).getD v [])]
      rw [heldL_at ha hv]

theorem refheld_spec (to : List (List Int)) (hf : Fit to) : Pure PG 18 [gv to] (gv (heldL to)) [] := by
  refine Proc.mk (cfg 44) tysOK [] Try.func18 rfl (by kernel_rfl) rfl rfl rfl ?_
  intro C x
  refine x.pure rfl trivial rfl (rtree_spec to hf) ⟨veq_d rfl, trivial⟩ ?_
  by_cases ha : OKP to
  case neg =>
    rw [postT_not ha, heldL_not ha]
    refine x.toLoop rfl ?_ ?_
    · simp only [AllP, big]; decide
    refine Sx.Go.close 0 ?_
    refine Sx.Go.freeze 0 ?_
    refine x.loop (α := Unit) (fun _ => ⟨[(3, iv []), (4, gv []), (5, vi 0)], [], 1⟩) (fun _ => 0) () rfl trivial ?_ (fun y => ?_)
    · exact ⟨⟨veq_d rfl, ⟨rfl, fun _ => rfl, fun v hv => absurd hv (Nat.not_lt_zero _)⟩, rfl, trivial⟩, trivial, rfl⟩
    refine x.cond rfl trivial (fun h1 => ?_) (fun h1 => ?_)
    · exact absurd (of_decide_eq_true h1) (by decide)
    refine x.exit rfl trivial ?_
    exact ⟨.inr rfl, veq_d rfl, trivial, rfl⟩
  have hg := ha.gok
  have hn := ha.1
  have epl := postT_len ha
  refine x.loop (α := { i : Nat // i ≤ to.length } × (Nat → Value)) (fun y => ⟨[(0, gv to), (3, iv (postT to)), (4, .own 0), (5, vi (y.1.1 : Int))], [(0, rowsC to.length y.2 (heldR to y.1.1))], 1⟩) (fun y => to.length - y.1.1) (⟨0, by omega⟩, fun _ => .slice none 0 0) rfl ?_ ?_ (fun y => ?_)
  · simp only [AllP, big, Int.toNat_natCast, epl]; omega
  · refine ⟨⟨veq_d rfl, veq_d rfl, rfl, rfl, trivial⟩, ⟨⟨rfl, rfl, rfl, ?_, rfl, fun i hi => ⟨rfl, rfl, fun j hj => absurd hj (Nat.not_lt_zero _)⟩⟩, trivial⟩, rfl⟩
    show (((postT to).length : Int)).toNat = to.length
    rw [epl, Int.toNat_natCast]
  obtain ⟨⟨i, hi⟩, hs⟩ := y
  change Go C _ ⟨[(0, gv to), (3, iv (postT to)), (4, .own 0), (5, vi (i : Int))], [(0, rowsC to.length hs (heldR to i))], 1⟩ _
  refine x.cond rfl trivial (fun h1 => ?_) (fun h1 => ?_)
  · have h1 : i < to.length := by have := of_decide_eq_true h1; omega
    refine x.pure rfl trivial rfl (marks_spec ha i h1) ⟨veq_d rfl, veq_d rfl, rfl, trivial⟩ ?_
    obtain ⟨mk, hmk⟩ : ∃ mk, marksF to i = mk := ⟨_, rfl⟩
    rw [hmk]
    refine x.loop (α := { k : Nat // k ≤ to.length } × (Nat → Value)) (fun y => ⟨[(0, gv to), (3, iv (postT to)), (4, .own 0), (5, vi (i : Int)), (6, .d (dBools to.length mk)), (7, vi (y.1.1 : Int))], [(0, rowsC to.length y.2 (heldK to i y.1.1))], 1⟩) (fun y => to.length - y.1.1) (⟨0, by omega⟩, hs) rfl trivial ?_ (fun y => ?_)
    · exact ⟨⟨veq_d rfl, veq_d rfl, rfl, rfl, veq_d rfl, rfl, trivial⟩, ⟨⟨rfl, rfl, rfl, rfl, rfl, fun v hv => ⟨rfl, rfl, fun j hj => rfl⟩⟩, trivial⟩, rfl⟩
    obtain ⟨⟨k, hk⟩, hs⟩ := y
    change Go C _ ⟨[(0, gv to), (3, iv (postT to)), (4, .own 0), (5, vi (i : Int)), (6, .d (dBools to.length mk)), (7, vi (k : Int))], [(0, rowsC to.length hs (heldK to i k))], 1⟩ _
    have en := heldK_next to i k
    have er := heldR_succ to i k
    rw [hmk] at er
    refine x.cond rfl trivial (fun h3 => ?_) (fun h3 => ?_)
    · have h3 : k < to.length := by have := of_decide_eq_true h3; omega
      have hl := heldK_len to i k k
      refine x.cond rfl ?_ (fun h4 => ?_) (fun h4 => ?_)
      · simp only [AllP]; omega
      · have h4 : mk k = true := h4
        rw [if_pos h4] at er
        refine x.loadRow rfl ?_ rfl ?_ ?_
        · simp only [AllP]; omega
        · exact h3
        refine x.storeRow rfl ?_ rfl ⟨rfl, h3⟩ (fun val => ?_)
        · simp only [AllP, inI64]
          simp only [show ((k : Int)).toNat = k from rfl]
          unfold big
          omega
        refine x.back rfl (show inI64 _ by unfold inI64; omega) ⟨(⟨k + 1, by omega⟩, _), by show to.length - (k + 1) < to.length - k; omega, ⟨veq_d rfl, veq_d rfl, rfl, rfl, veq_d rfl, rfl, trivial⟩, ⟨⟨rfl, rfl, rfl, rfl, rfl, fun v hv => ⟨rfl, ?_, fun j hj => ?_⟩⟩, trivial⟩, rfl⟩
        · show (if v = k then (heldK to i k k).length + 1 else (heldK to i k v).length) = (heldK to i (k + 1) v).length
          rw [en v]
          by_cases hvt : v = k
          · rw [if_pos hvt, if_pos hvt, heldK_at, er]; simp
          · rw [if_neg hvt, if_neg hvt]
        · have hj : j < (if v = k then (heldK to i k k).length + 1 else (heldK to i k v).length) := hj
          show (if v = k then app (heldK to i k k).length (fun j => [D.int .i64 ((heldK to i k k).getD j 0)]) (fun _ => [D.int .i64 (i : Int)]) else fun j => [D.int .i64 ((heldK to i k v).getD j 0)]) j = [D.int .i64 ((heldK to i (k + 1) v).getD j 0)]
          rw [en v]
          by_cases hvt : v = k
          · rw [if_pos hvt] at hj
            rw [if_pos hvt, if_pos hvt, er]
            rw [heldK_at] at hj ⊢
            exact app_list _ _ _ _ hj
          · rw [if_neg hvt, if_neg hvt]
      · have h4 : mk k = false := h4
        rw [if_neg (by rw [h4]; simp)] at er
        have e : ∀ v, heldK to i k v = heldK to i (k + 1) v := fun v => by
          rw [en v]
          by_cases hvt : v = k
          · rw [if_pos hvt, hvt, heldK_at, er]
          · rw [if_neg hvt]
        exact x.back rfl (show inI64 _ by unfold inI64; omega) ⟨(⟨k + 1, by omega⟩, hs), by show to.length - (k + 1) < to.length - k; omega, ⟨veq_d rfl, veq_d rfl, rfl, rfl, veq_d rfl, rfl, trivial⟩, ⟨⟨rfl, rfl, rfl, rfl, rfl, fun v hv => ⟨rfl, congrArg List.length (e v), fun j hj => congrArg (fun l : List Int => [D.int .i64 (l.getD j 0)]) (e v)⟩⟩, trivial⟩, rfl⟩
    · have h3 : k = to.length := by have := of_decide_eq_false h3; omega
      subst h3
      have e : ∀ v, v < to.length → heldK to i to.length v = heldR to (i + 1) v := fun v hv => by rw [heldK, if_pos hv]
      exact x.back rfl (show inI64 _ by unfold inI64; omega) ⟨(⟨i + 1, by omega⟩, hs), by show to.length - (i + 1) < to.length - i; omega, ⟨veq_d rfl, veq_d rfl, rfl, rfl, trivial⟩, ⟨⟨rfl, rfl, rfl, rfl, rfl, fun v hv => ⟨rfl, congrArg List.length (e v hv), fun j hj => congrArg (fun l : List Int => [D.int .i64 (l.getD j 0)]) (e v hv)⟩⟩, trivial⟩, rfl⟩
  · have h1 : i = to.length := by have := of_decide_eq_false h1; omega
    subst h1
    refine Sx.Go.close 0 ?_
    refine Sx.Go.freeze 0 ?_
    refine x.exit rfl trivial ?_
    refine ⟨.inr rfl, ⟨?_, fun _ => rfl, fun v hv => ?_⟩, trivial, rfl⟩
    · exact (heldL_len ha).symm
    · show [dInts (heldR to to.length v)] = [dInts ((heldL to).getD v [])]
      rw [heldL_at ha hv]
end Go.Proofs.Ytniojnnbenkbpaa

/- The chapter's example. -/
namespace Go.Proofs.Ytniojnnbenkbpaa
open Go.Sx
set_option linter.unusedVariables false
set_option linter.unusedSimpArgs false
set_option maxRecDepth 100000

def behC (to : List (List Int)) (a b : Nat) : Bool := (List.range to.length).all fun e => !(decide ((to.getD e []).length = 0) && regB to [(b : Int)] a e)
theorem behC_iff {to : List (List Int)} (hg : GOK to) {a b : Nat} (hb : b < to.length) : behC to a b = true ↔ Beh to a b := by
  have hr : ∀ e, regB to [(b : Int)] a e = true ↔ Way to (a : Int) b e := fun e => by
    rw [regB_iff hg (fun y hy => by
      have : y = (b : Int) := by simpa using hy
      omega)]
    simp
  unfold behC Beh ExitAt
  simp only [List.all_eq_true, List.mem_range, Bool.not_eq_true', Bool.and_eq_false_iff, decide_eq_false_iff_not]
  constructor
  · rintro h e ⟨h1, h2⟩ hw
    rcases h e h1 with h3 | h3
    · exact h3 h2
    · rw [(hr e).2 hw] at h3; cases h3
  · intro h e he
    by_cases h2 : (to.getD e []).length = 0
    · refine .inr ?_
      rw [← Bool.not_eq_true, hr]
      exact h e ⟨he, h2⟩
    · exact .inl h2
def isMC (to : List (List Int)) (b m : Nat) : Bool :=
  if m = to.length then (List.range to.length).all fun k => decide (k = b) || !behC to k b
  else decide (m < to.length) && (decide (m ≠ b) && (behC to m b && (List.range to.length).all fun k => (decide (k = b) || !behC to k b) || behC to k m))
theorem isM_of {to : List (List Int)} (hg : GOK to) {b m : Nat} (hb : b < to.length) (h : isMC to b m = true) : IsM to b (m : Int) := by
  unfold isMC at h
  split at h
  · rename_i hm
    subst hm
    simp only [List.all_eq_true, List.mem_range, Bool.or_eq_true, decide_eq_true_eq, Bool.not_eq_true'] at h
    refine ⟨by omega, by omega, fun _ k hk hne hbeh => ?_, fun hlt => by omega⟩
    rcases h k hk with e | e
    · exact hne e
    · rw [(behC_iff hg hb).2 hbeh] at e; cases e
  · rename_i hm
    simp only [Bool.and_eq_true, List.all_eq_true, List.mem_range, Bool.or_eq_true, decide_eq_true_eq, Bool.not_eq_true'] at h
    obtain ⟨h1, h2, h3, h4⟩ := h
    refine ⟨by omega, by omega, fun e => by omega, fun _ => ⟨by omega, ?_, fun k hk hne hbeh => ?_⟩⟩
    · rw [Int.toNat_natCast]; exact (behC_iff hg hb).1 h3
    · rw [Int.toNat_natCast]
      rcases h4 k hk with (e | e) | e
      · exact absurd e hne
      · rw [(behC_iff hg hb).2 hbeh] at e; cases e
      · exact (behC_iff hg h1).1 e
theorem meet_eq {to : List (List Int)} (h : OKP to) {b m : Nat} (hb : b < to.length) (hm : isMC to b m = true) : meetF to b = m := (meetF_is h hb).uniq h hb (isM_of h.gok hb hm)
theorem okp_of {to : List (List Int)} (hn : to.length ≤ 255) (hg : GOK to) (h1 : ∀ v, v < to.length → seen to 0 v = true) (h2 : ∀ v, v < to.length → ∃ e, ExitAt to e ∧ seen to v e = true) : OKP to := by
  refine ⟨hn, ⟨hg, h1⟩, fun v hv => ?_⟩
  obtain ⟨e, ⟨a, b⟩, c⟩ := h2 v hv
  exact (endsB_iff to v).2 ⟨e, a, wayB_iff.2 ((seen_iff hg hv e).1 c), b⟩

def exP : List (List Int) := [[1], [2, 3], [1], []]
theorem exp_gok : GOK exP := by decide +kernel
theorem exp_fit : Fit exP := ⟨by decide +kernel, by decide +kernel⟩
theorem exp_ok : OKP exP := okp_of (by decide +kernel) exp_gok (by decide +kernel) (fun v hv => ⟨3, ⟨by decide +kernel, by decide +kernel⟩, by
  have : ∀ v, v < exP.length → seen exP v 3 = true := by decide +kernel
  exact this v hv⟩)
theorem exp_tree : postT exP = [1, 3, 1, 4] := by
  rw [postT_yes exp_ok]
  show [meetF exP 0, meetF exP 1, meetF exP 2, meetF exP 3] = _
  rw [meet_eq exp_ok (b := 0) (m := 1) (by decide +kernel) (by decide +kernel), meet_eq exp_ok (b := 1) (m := 3) (by decide +kernel) (by decide +kernel), meet_eq exp_ok (b := 2) (m := 1) (by decide +kernel) (by decide +kernel), meet_eq exp_ok (b := 3) (m := 4) (by decide +kernel) (by decide +kernel)]
  rfl
theorem exp_region : regionL exP 1 = [1, 2] := by
  have h1 := regionL_yes exp_ok (f := 1) (by decide +kernel)
  have h1 : regionL exP 1 = picks (marksF exP 1) exP.length := h1
  rw [h1]
  have e : ∀ v, marksF exP 1 v = (decide (2 ≤ (exP.getD 1 []).length) && regB exP (exP.getD 1 []) 3 v) := fun v => by
    unfold marksF
    rw [meet_eq exp_ok (b := 1) (m := 3) (by decide +kernel) (by decide +kernel)]; rfl
  rw [picks_congr fun j _ => e j]
  decide +kernel
theorem exp_held : (heldL exP).length = 4 := heldL_len exp_ok

theorem awake12_spec : Pure PG 13 [] (vb true) [] := by
  refine Proc.mk (cfg 22) tysOK [] Try.func13 rfl (by kernel_rfl) rfl rfl rfl ?_
  intro C x
  refine x.op rfl trivial ?_
  refine Sx.Go.freeze 0 ?_
  refine Sx.Go.freeze 1 ?_
  refine Sx.Go.freeze 2 ?_
  refine Go.setD 2 rfl (dq_ints [1] rfl (fun i hi => by match i, hi with | 0, _ => rfl)) ?_
  refine Go.setD 3 rfl (dq_ints [2, 3] rfl (fun i hi => by match i, hi with | 0, _ => rfl | 1, _ => rfl)) ?_
  refine Go.setD 4 rfl (dq_ints [1] rfl (fun i hi => by match i, hi with | 0, _ => rfl)) ?_
  refine x.op rfl trivial ?_
  refine Sx.Go.freeze 3 ?_
  have hq : DQ (.sl 1 4 (tab ((((List.replicate 4 [D.sl 0 0 fun x => []]).set 0 [dInts [1]]).set 1 [dInts [2, 3]]).set 2 [dInts [1]]))) (dRows exP) :=
    dq_rows exP rfl fun i hi => by
      match i, hi with
      | 0, _ => exact ⟨_, rfl, .refl _⟩
      | 1, _ => exact ⟨_, rfl, .refl _⟩
      | 2, _ => exact ⟨_, rfl, .refl _⟩
      | 3, _ => exact ⟨_, rfl, .emp _ _ _ _⟩
  refine Go.setD 6 rfl hq ?_
  refine Go.setD 1 rfl hq ?_
  refine x.pure rfl trivial rfl (posttree_spec exP exp_fit) ⟨veq_d rfl, trivial⟩ ?_
  rw [exp_tree]
  refine x.op rfl trivial ?_
  refine Sx.Go.freeze 4 ?_
  refine Go.setD 8 rfl (dq_ints [1, 3, 1, 4] rfl (fun i hi => by match i, hi with | 0, _ => rfl | 1, _ => rfl | 2, _ => rfl | 3, _ => rfl)) ?_
  refine x.pure rfl trivial rfl (ints_spec [1, 3, 1, 4] [1, 3, 1, 4] (by decide) (by decide)) ⟨veq_d rfl, veq_d rfl, trivial⟩ ?_
  refine x.pureG rfl trivial rfl (fun _ => postregion_spec exP 1 exp_fit) rfl ⟨veq_d rfl, rfl, trivial⟩ ?_
  rw [exp_region]
  refine x.want rfl trivial rfl (by decide) ?_
  refine x.op rfl trivial ?_
  refine Sx.Go.freeze 5 ?_
  refine Go.setD 13 rfl (dq_ints [1, 2] rfl (fun i hi => by match i, hi with | 0, _ => rfl | 1, _ => rfl)) ?_
  refine x.pureG rfl trivial rfl (fun _ => ints_spec [1, 2] [1, 2] (by decide) (by decide)) rfl ⟨veq_d rfl, veq_d rfl, trivial⟩ ?_
  refine x.pureG rfl trivial rfl (fun _ => postheld_spec exP exp_fit) rfl ⟨veq_d rfl, trivial⟩ ?_
  refine x.exit rfl trivial ?_
  refine ⟨.inr rfl, ?_, trivial, rfl⟩
  show ((decide (([1, 3, 1, 4] : List Int) = [1, 3, 1, 4]) && decide (([1, 2] : List Int) = [1, 2])) && decide (((heldL exP).length : Int) = 4)) = true
  rw [exp_held]
  decide
end Go.Proofs.Ytniojnnbenkbpaa

/- What regions are; the law PostMeets. -/
namespace Go.Proofs.Ytniojnnbenkbpaa
open Go.Sx
set_option linter.unusedVariables false
set_option linter.unusedSimpArgs false
set_option maxRecDepth 100000

/-! ### what regions are -/
theorem marksF_iff {to : List (List Int)} (ha : OKP to) {f : Nat} (hf : f < to.length) (v : Nat) : marksF to f v = true ↔ 2 ≤ (to.getD f []).length ∧ ∃ y ∈ to.getD f [], Way to (meetF to f) y.toNat v := by
  have hm := (meetF_is ha hf).ge
  unfold marksF
  rw [Bool.and_eq_true, decide_eq_true_eq, regB_iff ha.gok (gok_row ha.gok hf).1, Int.toNat_of_nonneg hm]
theorem mem_region {to : List (List Int)} (ha : OKP to) {f : Nat} (hf : f < to.length) {y : Int} : y ∈ regionL to (f : Int) ↔ ∃ j : Nat, j < to.length ∧ (j : Int) = y ∧ marksF to f j = true := by
  rw [regionL_yes ha hf, mem_picks]
theorem marks_step {to : List (List Int)} (ha : OKP to) {f : Nat} (hf : f < to.length) {u : Nat} (hu : marksF to f u = true) {y : Int} (hy : y ∈ to.getD u []) (hne : y ≠ meetF to f) : marksF to f y.toNat = true := by
  rw [marksF_iff ha hf] at hu ⊢
  obtain ⟨h1, z, hz, hw⟩ := hu
  exact ⟨h1, z, hz, .step hw hy hne⟩
theorem marks_ne {to : List (List Int)} (ha : OKP to) {f : Nat} (hf : f < to.length) {u : Nat} (hu : marksF to f u = true) : (u : Int) ≠ meetF to f := by
  rw [marksF_iff ha hf] at hu
  obtain ⟨h1, z, hz, hw⟩ := hu
  exact hw.stop (gok_nn ha.gok)
theorem marks_lt {to : List (List Int)} (ha : OKP to) {f : Nat} (hf : f < to.length) {u : Nat} (hu : marksF to f u = true) : u < to.length := by
  rw [marksF_iff ha hf] at hu
  obtain ⟨h1, z, hz, hw⟩ := hu
  have := (gok_row ha.gok hf).1 z hz
  exact hw.lt ha.gok (by omega)
theorem marks_some {to : List (List Int)} (ha : OKP to) {f : Nat} (hf : f < to.length) (h2 : 2 ≤ (to.getD f []).length) : ∃ u, marksF to f u = true := by
  have hr := gok_row ha.gok hf
  have e := nodup_idx hr.2 (i := 0) (j := 1) (by omega) (by omega)
  have g0 := getD_in (l := to.getD f []) (i := 0) (by omega)
  have g1 := getD_in (l := to.getD f []) (i := 1) (by omega)
  have b0 := hr.1 _ g0
  have b1 := hr.1 _ g1
  by_cases h : (to.getD f []).getD 0 0 = meetF to f
  · refine ⟨((to.getD f []).getD 1 0).toNat, (marksF_iff ha hf _).2 ⟨h2, _, g1, .here ?_⟩⟩
    rw [Int.toNat_of_nonneg b1.1]
    intro e2
    exact absurd (e (h.trans e2.symm)) (by omega)
  · refine ⟨((to.getD f []).getD 0 0).toNat, (marksF_iff ha hf _).2 ⟨h2, _, g0, .here ?_⟩⟩
    rw [Int.toNat_of_nonneg b0.1]
    exact h
theorem region_some {to : List (List Int)} (ha : OKP to) {f : Nat} (hf : f < to.length) : 0 < (regionL to (f : Int)).length ↔ 1 < (to.getD f []).length := by
  constructor
  · intro h
    obtain ⟨j, hj, e, hm⟩ := (mem_region ha hf).1 (getD_in h)
    have := ((marksF_iff ha hf j).1 hm).1
    omega
  · intro h
    obtain ⟨u, hu⟩ := marks_some ha hf (by omega)
    exact List.length_pos_of_mem ((mem_region ha hf).2 ⟨u, marks_lt ha hf hu, rfl, hu⟩)
theorem meet_beh {to : List (List Int)} (ha : OKP to) {f m : Nat} (hf : f < to.length) (hm : meetF to f = m) (hml : m < to.length) : Beh to m f := by
  have h := meetF_is ha hf
  rw [hm] at h
  have := (h.some (by omega)).2.1
  rwa [Int.toNat_natCast] at this

theorem postMeets_spec (to : List (List Int)) (f : Int) (hf : Fit to) : Pure PG 5 [gv to, vi f] (vb true) [] := by
  refine Proc.mk (cfg 117) tysOK [] Try.func5 rfl (by kernel_rfl) rfl rfl rfl ?_
  intro C x
  refine x.pure rfl trivial rfl (posttree_spec to hf) ⟨veq_d rfl, trivial⟩ ?_
  refine x.cond rfl trivial (fun h => ?_) (fun h => ?_)
  · refine x.pure rfl trivial rfl awake12_spec trivial ?_
    refine x.exit rfl trivial ?_
    exact ⟨.inr rfl, rfl, trivial, rfl⟩
  have h : ((decide ((40 : Int) < to.length) || decide (f < 0)) || decide (((postT to).length : Int) ≤ f)) = false := h
  simp only [Bool.or_eq_false_iff, decide_eq_false_iff_not] at h
  obtain ⟨⟨hn, h0⟩, h1⟩ := h
  obtain ⟨ha, hfl⟩ := fork_ok (to := to) (f := f) (by omega) (by omega)
  obtain ⟨q, rfl⟩ : ∃ q : Nat, f = q := ⟨f.toNat, by omega⟩
  rw [Int.toNat_natCast] at hfl
  have hg := ha.gok
  have hm := meetF_is ha hfl
  have hmg := hm.ge
  have hml := hm.le
  have ep := postT_at ha hfl
  have epl := postT_len ha
  obtain ⟨m, hmm⟩ : ∃ m : Nat, meetF to q = m := ⟨(meetF to q).toNat, by omega⟩
  rw [hmm] at ep hml
  have epI : (postT to).getD ((q : Int)).toNat 0 = (m : Int) := ep
  refine x.pureG rfl ?_ rfl (fun _ => behind_spec to hg m q hfl) rfl ⟨veq_d rfl, epI, rfl, trivial⟩ ?_
  · simp only [AllP]; omega
  refine x.cond rfl trivial (fun h => ?_) (fun h => ?_)
  · exfalso
    have h : (decide ((postT to).getD ((q : Int)).toNat 0 < (to.length : Int)) && !behB to m q) = true := h
    rw [epI, Bool.and_eq_true, decide_eq_true_eq] at h
    rw [behB_iff.2 (meet_beh ha hfl hmm (by omega))] at h
    cases h.2
  refine x.le (s' := ⟨[(0, gv to), (1, vi (q : Int)), (6, vi (m : Int))], [], 0⟩) ⟨⟨veq_d rfl, rfl, epI, trivial⟩, trivial, rfl⟩ ?_
  refine x.pure rfl trivial rfl (postregion_spec to (q : Int) hf) ⟨veq_d rfl, rfl, trivial⟩ ?_
  obtain ⟨L, hL⟩ : ∃ L, regionL to (q : Int) = L := ⟨_, rfl⟩
  have hLl := regionL_len to (q : Int)
  have hmem : ∀ y, y ∈ L ↔ ∃ j : Nat, j < to.length ∧ (j : Int) = y ∧ marksF to q j = true := fun y => by rw [← hL]; exact mem_region ha hfl
  have hsome := region_some ha hfl
  rw [hL] at hLl hsome
  rw [hL]
  refine x.loop (α := { i : Nat // i ≤ L.length }) (fun y => ⟨[(0, gv to), (1, vi (q : Int)), (6, vi (m : Int)), (7, iv L), (8, vi (y.1 : Int))], [], 0⟩) (fun y => L.length - y.1) ⟨0, by omega⟩ rfl trivial ⟨⟨veq_d rfl, rfl, rfl, veq_d rfl, rfl, trivial⟩, trivial, rfl⟩ (fun y => ?_)
  obtain ⟨i, hi⟩ := y
  change Go C _ ⟨[(0, gv to), (1, vi (q : Int)), (6, vi (m : Int)), (7, iv L), (8, vi (i : Int))], [], 0⟩ _
  refine x.cond rfl trivial (fun h2 => ?_) (fun h2 => ?_)
  · have h2 : i < L.length := by have := of_decide_eq_true h2; omega
    obtain ⟨u, hu, eu, hmu⟩ := (hmem _).1 (getD_in h2)
    have euI : L.getD ((i : Int)).toNat 0 = (u : Int) := eu.symm
    refine x.cond rfl ?_ (fun h3 => ?_) (fun h3 => ?_)
    · simp only [AllP]; omega
    · exfalso
      have h3 : ((decide (L.getD ((i : Int)).toNat 0 < 0) || decide ((to.length : Int) ≤ L.getD ((i : Int)).toNat 0)) || decide (L.getD ((i : Int)).toNat 0 = (m : Int))) = true := h3
      have := marks_ne ha hfl hmu
      rw [hmm] at this
      rw [euI, decide_eq_false (by omega), decide_eq_false (by omega), decide_eq_false (by omega)] at h3
      cases h3
    obtain ⟨row, hrow⟩ : ∃ l, to.getD u [] = l := ⟨_, rfl⟩
    have hro : RowOK to.length row := hrow ▸ gok_row hg hu
    have hrl : row.length ≤ 256 := by have := row_len hro; omega
    have erI : to.getD (L.getD ((i : Int)).toNat 0).toNat [] = row := by rw [euI]; exact hrow
    refine x.loop (α := { k : Nat // k ≤ row.length }) (fun y => ⟨[(0, gv to), (1, vi (q : Int)), (6, vi (m : Int)), (7, iv L), (8, vi (i : Int)), (9, vi (y.1 : Int))], [], 0⟩) (fun y => row.length - y.1) ⟨0, by omega⟩ rfl trivial ⟨⟨veq_d rfl, rfl, rfl, veq_d rfl, rfl, rfl, trivial⟩, trivial, rfl⟩ (fun y => ?_)
    obtain ⟨k, hk⟩ := y
    change Go C _ ⟨[(0, gv to), (1, vi (q : Int)), (6, vi (m : Int)), (7, iv L), (8, vi (i : Int)), (9, vi (k : Int))], [], 0⟩ _
    refine x.cond rfl ?_ (fun h4 => ?_) (fun h4 => ?_)
    · simp only [AllP, euI]; omega
    · have h4 : decide ((k : Int) < ((to.getD (L.getD ((i : Int)).toNat 0).toNat []).length : Int)) = true := h4
      rw [erI, decide_eq_true_eq] at h4
      have h4 : k < row.length := by omega
      have hin := hro.1 _ (getD_in h4)
      have ejI : (to.getD (L.getD ((i : Int)).toNat 0).toNat []).getD ((k : Int)).toNat 0 = row.getD k 0 := by rw [erI]; rfl
      refine x.pureG rfl ?_ rfl (fun _ => in_spec L (row.getD k 0) (by have := hf.1; omega)) rfl ⟨veq_d rfl, ejI, trivial⟩ ?_
      · simp only [AllP, Int.toNat_natCast, ← eu, hrow]; omega
      refine x.cond rfl trivial (fun h5 => ?_) (fun h5 => ?_)
      · exfalso
        have h5 : (!decide ((to.getD (L.getD ((i : Int)).toNat 0).toNat []).getD ((k : Int)).toNat 0 = (m : Int)) && !L.contains (row.getD k 0)) = true := h5
        rw [ejI, Bool.and_eq_true, Bool.not_eq_true', decide_eq_false_iff_not, Bool.not_eq_true', ← Bool.not_eq_true, List.contains_iff_mem] at h5
        refine h5.2 ((hmem _).2 ⟨(row.getD k 0).toNat, by omega, by omega, ?_⟩)
        exact marks_step ha hfl hmu (by rw [hrow]; exact getD_in h4) (by rw [hmm]; exact h5.1)
      · exact x.back rfl (show inI64 _ by unfold inI64; omega) ⟨⟨k + 1, by omega⟩, by show row.length - (k + 1) < row.length - k; omega, ⟨veq_d rfl, rfl, rfl, veq_d rfl, rfl, rfl, trivial⟩, trivial, rfl⟩
    · refine x.back rfl (show inI64 _ by unfold inI64; have := hf.1; omega) ⟨⟨i + 1, by omega⟩, by show L.length - (i + 1) < L.length - i; omega, ⟨veq_d rfl, rfl, rfl, veq_d rfl, rfl, trivial⟩, trivial, rfl⟩
  · refine x.pureG rfl ?_ rfl (fun _ => awake12_spec) rfl trivial ?_
    · simp only [AllP]; omega
    refine x.exit rfl trivial ?_
    refine ⟨.inr rfl, ?_, trivial, rfl⟩
    show ((decide ((0 : Int) < (L.length : Int)) == decide ((1 : Int) < ((to.getD ((q : Int)).toNat []).length : Int))) && true) = true
    rw [Int.toNat_natCast, Bool.and_true, beq_iff_eq, Bool.eq_iff_iff, decide_eq_true_eq, decide_eq_true_eq]
    constructor
    · intro h; have := hsome.1 (by omega); omega
    · intro h; have := hsome.2 (by omega); omega
end Go.Proofs.Ytniojnnbenkbpaa

/- The law PostStraight. -/
namespace Go.Proofs.Ytniojnnbenkbpaa
open Go.Sx
set_option linter.unusedVariables false
set_option linter.unusedSimpArgs false
set_option maxRecDepth 100000

/-! ### a graph without forks -/
def strRow (k j : Nat) : List Int := if j + 1 < k then [(j : Int) + 1] else []
def strG (k : Nat) : List (List Int) := (List.range k).map (strRow k)
theorem strG_len (k : Nat) : (strG k).length = k := by simp [strG]
theorem strG_at {k j : Nat} (hj : j < k) : (strG k).getD j [] = strRow k j := by
  rw [strG, List.getD_eq_getElem?_getD, List.getElem?_map, List.getElem?_range hj]; rfl
theorem mem_str {k j : Nat} {y : Int} : y ∈ strRow k j ↔ j + 1 < k ∧ y = (j : Int) + 1 := by
  unfold strRow; split
  · rename_i h; simp [h]
  · rename_i h; simp [h]
theorem strG_gok {k : Nat} (h1 : 1 ≤ k) (h2 : k ≤ 255) : GOK (strG k) := by
  refine ⟨by rw [strG_len]; exact h1, by rw [strG_len]; omega, fun l hl => ?_⟩
  rw [strG_len]
  obtain ⟨j, hj, rfl⟩ := List.mem_map.1 hl
  refine ⟨fun y hy => ?_, ?_⟩
  · obtain ⟨a, b⟩ := mem_str.1 hy
    omega
  · unfold strRow; split <;> simp
theorem str_way {k : Nat} {no : Int} (hno : no < 0) {i : Nat} (hi : i < k) : ∀ d, i + d < k → Way (strG k) no i (i + d) := fun d => by
  induction d with
  | zero => exact fun _ => .here (by omega)
  | succ d ih =>
    intro h
    have := Way.step (ih (by omega)) (k := ((i + d : Nat) : Int) + 1) (by rw [strG_at (by omega), mem_str]; exact ⟨by omega, rfl⟩) (by omega)
    rwa [show (((i + d : Nat) : Int) + 1).toNat = i + (d + 1) by omega] at this
theorem str_exit {k : Nat} {e : Nat} : ExitAt (strG k) e ↔ e < k ∧ k ≤ e + 1 := by
  unfold ExitAt
  rw [strG_len]
  constructor
  · rintro ⟨a, b⟩
    rw [strG_at a, strRow] at b
    refine ⟨a, ?_⟩
    by_cases h : e + 1 < k
    · rw [if_pos h] at b; cases b
    · omega
  · rintro ⟨a, b⟩
    refine ⟨a, ?_⟩
    rw [strG_at a, strRow, if_neg (by omega)]; rfl
theorem str_ok {k : Nat} (h1 : 1 ≤ k) (h2 : k ≤ 255) : OKP (strG k) := by
  have hg := strG_gok h1 h2
  have hl := strG_len k
  refine okp_of (by omega) hg (fun v hv => ?_) (fun v hv => ?_)
  · rw [seen_iff hg (by omega)]
    have := str_way (k := k) (no := -1) (by omega) (i := 0) (by omega) v (by omega)
    rwa [Nat.zero_add] at this
  · refine ⟨k - 1, str_exit.2 ⟨by omega, by omega⟩, ?_⟩
    rw [seen_iff hg hv]
    have := str_way (k := k) (no := -1) (by omega) (i := v) (by omega) (k - 1 - v) (by omega)
    rwa [show v + (k - 1 - v) = k - 1 by omega] at this
theorem str_meet {k : Nat} (h1 : 1 ≤ k) (h2 : k ≤ 255) {i : Nat} (hi : i < k) : meetF (strG k) i = (i : Int) + 1 := by
  have ha := str_ok h1 h2
  have hl := strG_len k
  have hnn := gok_nn ha.gok
  refine (meetF_is ha (by omega)).uniq ha (by omega) ?_
  refine ⟨by omega, by omega, fun e j hj hne hb => ?_, fun hlt => ⟨by omega, ?_, fun j hj hne hb => ?_⟩⟩
  · exact hb i (str_exit.2 ⟨by omega, by omega⟩) (.here (by omega))
  · rw [show ((i : Int) + 1).toNat = i + 1 by omega]
    intro e he hw
    have stay : ∀ v, Way (strG k) ((i + 1 : Nat) : Int) i v → v = i := fun v hv => by
      induction hv with
      | here => rfl
      | step _ hk hn ih =>
        subst ih
        rw [strG_at hi, mem_str] at hk
        omega
    have := stay e hw
    have := (str_exit.1 he).2
    omega
  · rw [show ((i : Int) + 1).toNat = i + 1 by omega]
    intro e he hw
    refine hb e he (Way.trans (j := i + 1) ?_ hw)
    have hs := hw.start
    have := Way.step (no := (j : Int)) (to := strG k) (i := i) (.here (by omega)) (k := (i : Int) + 1) (by rw [strG_at hi, mem_str]; exact ⟨by omega, rfl⟩) (by omega)
    rwa [show ((i : Int) + 1).toNat = i + 1 by omega] at this
theorem str_marks {k f : Nat} (hf : f < k) (v : Nat) : marksF (strG k) f v = false := by
  unfold marksF
  rw [strG_at hf, decide_eq_false]
  · rfl
  · unfold strRow; split <;> simp
theorem str_region {k : Nat} (h1 : 1 ≤ k) (h2 : k ≤ 255) {i : Nat} (hi : i < k) : regionL (strG k) (i : Int) = [] := by
  rw [regionL_yes (str_ok h1 h2) (by rw [strG_len]; exact hi)]
  exact picks_none fun j _ => str_marks hi j
theorem str_held {k : Nat} (h1 : 1 ≤ k) (h2 : k ≤ 255) {i : Nat} (hi : i < k) : (heldL (strG k)).getD i [] = [] := by
  rw [heldL_at (str_ok h1 h2) (by rw [strG_len]; exact hi), heldR, strG_len]
  exact picks_none fun j hj => str_marks hj i

theorem wf_u8 {n : Int} (h : (Lit.int .u8 n).wf = true) : 0 ≤ n ∧ n ≤ 255 := by
  simp only [Lit.wf, Bool.and_eq_true, decide_eq_true_eq] at h
  have e1 : IntKind.u8.min = 0 := by decide +kernel
  have e2 : IntKind.u8.max = 255 := by decide +kernel
  rwa [e1, e2] at h
theorem postStraight_spec (n : Int) (hn : 0 ≤ n ∧ n ≤ 255) : Pure PG 7 [.d (.int .u8 n)] (vb true) [] := by
  refine Proc.mk (cfg 76) tysOK [] Try.func7 rfl (by kernel_rfl) rfl rfl rfl ?_
  intro C x
  obtain ⟨N, rfl⟩ : ∃ N : Nat, n = N := ⟨n.toNat, by omega⟩
  have et : ((N : Int)).tmod 100 = ((N % 100 : Nat) : Int) := rfl
  obtain ⟨k, hk⟩ : ∃ k, 1 + N % 100 = k := ⟨_, rfl⟩
  have h1 : 1 ≤ k := by omega
  have h2 : k ≤ 100 := by omega
  have ek : (1 : Int) + ((N : Int)).tmod 100 = (k : Int) := by rw [et]; omega
  refine x.toLoop rfl ?_ ?_
  · simp only [AllP, ek, inI64]; omega
  refine Go.own 4 24 1 (fun j => [dInts (strRow k j)]) rfl ?_
  refine x.loop (α := { i : Nat // i + 1 ≤ k }) (fun y => ⟨[(3, vi (k : Int)), (4, .own 0), (5, vi (y.1 : Int))], [(0, .vec 24 1 y.1 fun j => [dInts (strRow k j)])], 1⟩) (fun y => k - y.1) ⟨0, by omega⟩ rfl trivial ⟨⟨ek, rfl, rfl, trivial⟩, ⟨⟨rfl, rfl, rfl, fun _ _ => rfl⟩, trivial⟩, rfl⟩ (fun y => ?_)
  obtain ⟨i, hi⟩ := y
  change Go C _ ⟨[(3, vi (k : Int)), (4, .own 0), (5, vi (i : Int))], [(0, .vec 24 1 i fun j => [dInts (strRow k j)])], 1⟩ _
  refine x.cond rfl (show inI64 _ by unfold inI64; omega) (fun h3 => ?_) (fun h3 => ?_)
  · have h3 : i + 1 < k := by have := of_decide_eq_true h3; omega
    have er : strRow k i = [(i : Int) + 1] := by rw [strRow, if_pos h3]
    refine x.op rfl ?_ ?_
    · simp only [AllP, inI64]; omega
    refine Sx.Go.freeze 1 ?_
    refine Go.setD 22 rfl (dq_ints (strRow k i) (by rw [er]; rfl) (fun j hj => by match j, hj with | 0, _ => rw [er]; rfl)) ?_
    refine x.back rfl ?_ ⟨⟨i + 1, by omega⟩, by show k - (i + 1) < k - i; omega, ⟨rfl, rfl, rfl, trivial⟩, ⟨⟨rfl, rfl, rfl, fun j hj => ?_⟩, trivial⟩, rfl⟩
    · simp only [AllP, big, inI64]; omega
    · have hj : j < i + 1 := hj
      show zipIte (j < i) [dInts (strRow k j)] (tab [[dInts (strRow k i)]] (j - i)) = [dInts (strRow k j)]
      by_cases e : j < i
      · show zipIte (j < i) [dInts (strRow k j)] _ = _
        rw [zipIte_pos e]
      · have e2 : j = i := by omega
        subst e2
        rw [Nat.sub_self]
        show zipIte (j < j) [dInts (strRow k j)] [dInts (strRow k j)] = _
        rw [zipIte_neg e]
  · have h3 : k = i + 1 := by have := of_decide_eq_false h3; omega
    subst h3
    refine x.op rfl ?_ ?_
    · simp only [AllP, big, inI64]; omega
    refine Sx.Go.freeze 0 ?_
    have hq : DQ (.sl 1 (i + 1) (app i (fun j => [dInts (strRow (i + 1) j)]) (tab (List.replicate 1 [D.sl 0 0 fun x => []])))) (dRows (strG (i + 1))) :=
      dq_rows _ (strG_len _).symm fun j hj => by
        show ∃ d, zipIte (j < i) [dInts (strRow (i + 1) j)] (tab (List.replicate 1 [D.sl 0 0 fun x => []]) (j - i)) = [d] ∧ DQ d (dInts ((strG (i + 1)).getD j []))
        rw [strG_at (by omega)]
        by_cases e : j < i
        · rw [zipIte_pos e]; exact ⟨_, rfl, .refl _⟩
        · have e2 : j = i := by omega
          subst e2
          rw [Nat.sub_self]
          show ∃ d, zipIte (j < j) [dInts (strRow (j + 1) j)] [D.sl 0 0 fun x => []] = [d] ∧ DQ d (dInts (strRow (j + 1) j))
          rw [zipIte_neg e, strRow, if_neg (by omega)]
          exact ⟨_, rfl, .emp _ _ _ _⟩
    refine Go.setD 28 rfl hq ?_
    refine Go.setD 4 rfl hq ?_
    obtain ⟨k, hk⟩ : ∃ k, i + 1 = k := ⟨_, rfl⟩
    rw [hk] at h1 h2 ⊢
    have hok := str_ok h1 (by omega : k ≤ 255)
    have hl := strG_len k
    have hg := hok.gok
    have hft : Fit (strG k) := ⟨by omega, fun l hl => by
      obtain ⟨j, hj, rfl⟩ := List.mem_map.1 hl
      unfold strRow; split <;> simp⟩
    refine x.pure rfl trivial rfl (posttree_spec (strG k) hft) ⟨veq_d rfl, trivial⟩ ?_
    refine x.pure rfl trivial rfl (postheld_spec (strG k) hft) ⟨veq_d rfl, trivial⟩ ?_
    refine x.loop (α := { i : Nat // i ≤ k }) (fun y => ⟨[(3, vi (k : Int)), (4, gv (strG k)), (6, iv (postT (strG k))), (7, gv (heldL (strG k))), (8, vi (y.1 : Int))], [], 1⟩) (fun y => k - y.1) ⟨0, by omega⟩ rfl trivial ⟨⟨rfl, veq_d rfl, veq_d rfl, veq_d rfl, rfl, trivial⟩, trivial, rfl⟩ (fun y => ?_)
    obtain ⟨j, hj⟩ := y
    change Go C _ ⟨[(3, vi (k : Int)), (4, gv (strG k)), (6, iv (postT (strG k))), (7, gv (heldL (strG k))), (8, vi (j : Int))], [], 1⟩ _
    have t1 : (postT (strG k)).length = k := by rw [postT_len hok, hl]
    have t2 : (heldL (strG k)).length = k := by rw [heldL_len hok, hl]
    refine x.cond rfl trivial (fun h4 => ?_) (fun h4 => ?_)
    · have h4 : j < k := by have := of_decide_eq_true h4; omega
      have t3 : (postT (strG k)).getD j 0 = (j : Int) + 1 := by rw [postT_at hok (by omega), str_meet h1 (by omega) h4]
      have t4 : (heldL (strG k)).getD j [] = [] := str_held h1 (by omega) h4
      refine x.pureG rfl ?_ rfl (fun _ => postregion_spec (strG k) (j : Int) hft) rfl ⟨veq_d rfl, rfl, trivial⟩ ?_
      · simp only [AllP, inI64]
        exact ⟨fun _ => by omega, fun _ => by omega, fun _ => by omega⟩
      rw [str_region h1 (by omega) h4]
      refine x.cond rfl trivial (fun h5 => ?_) (fun h5 => ?_)
      · exfalso
        have e1 : (postT (strG k)).getD ((j : Int)).toNat 0 = (j : Int) + 1 := t3
        have e2 : (heldL (strG k)).getD ((j : Int)).toNat [] = [] := t4
        rw [e1, e2, t1, t2] at h5
        simp at h5
      · exact x.back rfl (show inI64 _ by unfold inI64; omega) ⟨⟨j + 1, by omega⟩, by show k - (j + 1) < k - j; omega, ⟨rfl, veq_d rfl, veq_d rfl, veq_d rfl, rfl, trivial⟩, trivial, rfl⟩
    · refine x.pure rfl trivial rfl (right_spec (strG k) hft) ⟨veq_d rfl, trivial⟩ ?_
      refine x.pureG rfl trivial rfl (fun _ => awake12_spec) rfl trivial ?_
      refine x.exit rfl trivial ?_
      refine ⟨.inr rfl, ?_, trivial, rfl⟩
      show (decide (GOK (strG k)) && true) = true
      rw [decide_eq_true hg]; rfl
end Go.Proofs.Ytniojnnbenkbpaa
