/- The answer's Same, Without; the law GraphRights. -/
import Derived.Test.YtdgopbgckdnncaaT10H
namespace Go.Proofs.Ytdgopbgckdnncaa
open Go.Sx
set_option linter.unusedVariables false
set_option linter.unusedSimpArgs false
set_option maxRecDepth 100000

theorem same_spec (to re : List (List Int)) (hf : Fit to) (hf2 : Fit re) : Pure PG 19 [gv to, gv re] (vb (decide (to = re))) [] := by
  refine Proc.mk (cfg 53) tysOK [] Try.func19 rfl (by kernel_rfl) rfl rfl rfl ?_
  intro C x
  have h63 := hf.1
  refine x.cond rfl trivial (fun h => ?_) (fun h => ?_)
  · refine x.exit rfl trivial ?_
    refine ⟨.inr rfl, ?_, trivial, rfl⟩
    have h : ¬ ((to.length : Int) = re.length) := by simpa using h
    show false = decide (to = re)
    exact (decide_eq_false fun e => h (by rw [e])).symm
  have h : to.length = re.length := by
    have : (to.length : Int) = re.length := by simpa using h
    omega
  refine x.loop (α := { i : Nat // i ≤ to.length ∧ ∀ j, j < i → to.getD j [] = re.getD j [] }) (fun y => ⟨[(0, gv to), (1, gv re), (5, vi (y.1 : Int))], [], 0⟩) (fun y => to.length - y.1) ⟨0, by omega, fun j hj => by omega⟩ rfl trivial ⟨⟨veq_d rfl, veq_d rfl, rfl, trivial⟩, trivial, rfl⟩ (fun y => ?_)
  obtain ⟨i, hi, hup⟩ := y
  change Go C _ ⟨[(0, gv to), (1, gv re), (5, vi (i : Int))], [], 0⟩ _
  refine x.cond rfl trivial (fun h1 => ?_) (fun h1 => ?_)
  · have h1 : i < to.length := by have := of_decide_eq_true h1; omega
    obtain ⟨l, hrow⟩ : ∃ l, to.getD i [] = l := ⟨_, rfl⟩
    obtain ⟨r, hrow2⟩ : ∃ l, re.getD i [] = l := ⟨_, rfl⟩
    have hl := fit_row hf i
    have hr := fit_row hf2 i
    rw [hrow] at hl
    rw [hrow2] at hr
    refine x.quiet rfl trivial mixedP (by kernel_rfl) ?_
    refine x.qdone rfl ?_ ?_
    · simp only [AllP]; omega
    refine x.cond rfl trivial (fun h2 => ?_) (fun h2 => ?_)
    · refine x.exit rfl trivial ?_
      refine ⟨.inr rfl, ?_, trivial, rfl⟩
      show false = decide (to = re)
      have h2 : (!decide (((to.getD i []).length : Int) = (re.getD i []).length)) = true := h2
      simp only [Bool.not_eq_true', decide_eq_false_iff_not] at h2
      exact (decide_eq_false fun e => h2 (by rw [e])).symm
    have hll : l.length = r.length := by
      have h2 : (!decide (((to.getD i []).length : Int) = (re.getD i []).length)) = false := h2
      simp only [Bool.not_eq_false', decide_eq_true_eq] at h2
      rw [hrow, hrow2] at h2
      omega
    refine x.loop (α := { k : Nat // k ≤ l.length ∧ ∀ j, j < k → l.getD j 0 = r.getD j 0 }) (fun y => ⟨[(0, gv to), (1, gv re), (5, vi (i : Int)), (6, vi (y.1 : Int))], [], 0⟩) (fun y => l.length - y.1) ⟨0, by omega, fun j hj => by omega⟩ rfl trivial ⟨⟨veq_d rfl, veq_d rfl, rfl, rfl, trivial⟩, trivial, rfl⟩ (fun y => ?_)
    obtain ⟨k, hk, hup2⟩ := y
    change Go C _ ⟨[(0, gv to), (1, gv re), (5, vi (i : Int)), (6, vi (k : Int))], [], 0⟩ _
    refine x.cond rfl (show _ ∧ _ by omega) (fun h3 => ?_) (fun h3 => ?_)
    · have h3 : k < l.length := by
        have h3 : (k : Int) < ((to.getD i []).length : Int) := of_decide_eq_true h3
        rw [hrow] at h3
        omega
      refine x.quiet rfl trivial mixedP (by kernel_rfl) ?_
      refine x.qdone rfl ?_ ?_
      · simp only [AllP]
        simp only [show ((i : Int)).toNat = i from rfl, hrow, hrow2]
        omega
      refine x.cond rfl trivial (fun h4 => ?_) (fun h4 => ?_)
      · refine x.exit rfl trivial ?_
        refine ⟨.inr rfl, ?_, trivial, rfl⟩
        show false = decide (to = re)
        have h4 : (!decide ((to.getD i []).getD k 0 = (re.getD i []).getD k 0)) = true := h4
        simp only [Bool.not_eq_true', decide_eq_false_iff_not] at h4
        exact (decide_eq_false fun e => h4 (by rw [e])).symm
      · have h4 : (!decide ((to.getD i []).getD k 0 = (re.getD i []).getD k 0)) = false := h4
        simp only [Bool.not_eq_false', decide_eq_true_eq] at h4
        rw [hrow, hrow2] at h4
        refine x.back rfl (show inI64 _ by unfold inI64; omega) ⟨⟨k + 1, by omega, fun j hj => ?_⟩, by show l.length - (k + 1) < l.length - k; omega, ⟨veq_d rfl, veq_d rfl, rfl, rfl, trivial⟩, trivial, rfl⟩
        rcases Nat.lt_or_ge j k with h5 | h5
        · exact hup2 j h5
        · obtain rfl : j = k := by omega
          exact h4
    · have h3 : k = l.length := by
        have h3 : ¬ (k : Int) < ((to.getD i []).length : Int) := of_decide_eq_false h3
        rw [hrow] at h3
        omega
      subst h3
      refine x.back rfl (show inI64 _ by unfold inI64; omega) ⟨⟨i + 1, by omega, fun j hj => ?_⟩, by show to.length - (i + 1) < to.length - i; omega, ⟨veq_d rfl, veq_d rfl, rfl, trivial⟩, trivial, rfl⟩
      rcases Nat.lt_or_ge j i with h5 | h5
      · exact hup j h5
      · obtain rfl : j = i := by omega
        rw [hrow, hrow2]
        refine List.ext_getElem hll fun m hm hm' => ?_
        rw [getD_at, getD_at]
        exact hup2 m hm
  · have h1 : i = to.length := by have := of_decide_eq_false h1; omega
    subst h1
    refine x.exit rfl trivial ?_
    refine ⟨.inr rfl, ?_, trivial, rfl⟩
    show true = decide (to = re)
    refine (decide_eq_true (List.ext_getElem h fun j hj hj' => ?_)).symm
    have := hup j hj
    rwa [List.getD_eq_getElem?_getD, List.getElem?_eq_getElem hj, List.getD_eq_getElem?_getD, List.getElem?_eq_getElem hj'] at this

/-! ### the answer's Without -/
noncomputable def wayB (to : List (List Int)) (no : Int) (i j : Nat) : Bool := @decide (Way to no i j) (Classical.propDecidable _)
theorem wayB_iff {to : List (List Int)} {no : Int} {i j : Nat} : wayB to no i j = true ↔ Way to no i j := @decide_eq_true_iff _ (Classical.propDecidable _)

/-- In a round: what is marked (b), whether anything was marked in it (ag), up to the k-th that v leads to. -/
structure WI (to : List (List Int)) (no : Int) (i : Nat) (b0 b : Nat → Bool) (ag : Bool) (v k : Nat) : Prop where
  here : b i = true
  way : ∀ u, b u = true → Way to no i u
  le : LeB b0 b
  more : ag = true → freeN to.length b < freeN to.length b0
  clo : ag = false → ∀ u, u < v → b u = true → ∀ y ∈ to.getD u [], y ≠ no → b y.toNat = true
  part : ag = false → ∀ m, m < k → (to.getD v []).getD m 0 ≠ no → b ((to.getD v []).getD m 0).toNat = true
theorem WI.row {to : List (List Int)} {no : Int} {i v : Nat} {b0 b : Nat → Bool} {ag : Bool} (h : WI to no i b0 b ag v 0) : WI to no i b0 b ag v 0 := h
theorem WI.next {to : List (List Int)} {no : Int} {i v k : Nat} {b0 b : Nat → Bool} {ag : Bool} (h : WI to no i b0 b ag v k) (hk : (to.getD v []).length ≤ k ∨ b v = false) : WI to no i b0 b ag (v + 1) 0 where
  here := h.here
  way := h.way
  le := h.le
  more := h.more
  clo ha u hu hb y hy hn := by
    rcases Nat.lt_or_ge u v with h1 | h1
    · exact h.clo ha u h1 hb y hy hn
    · obtain rfl : u = v := by omega
      rcases hk with hk | hk
      · obtain ⟨m, hm, rfl⟩ := List.getElem_of_mem hy
        rw [getD_at hm] at hn ⊢
        exact h.part ha m (by omega) hn
      · rw [hk] at hb; cases hb
  part _ m hm := absurd hm (Nat.not_lt_zero _)
theorem WI.skip {to : List (List Int)} {no : Int} {i v k : Nat} {b0 b : Nat → Bool} {ag : Bool} (h : WI to no i b0 b ag v k) (hs : (to.getD v []).getD k 0 = no ∨ b ((to.getD v []).getD k 0).toNat = true) : WI to no i b0 b ag v (k + 1) where
  here := h.here
  way := h.way
  le := h.le
  more := h.more
  clo := h.clo
  part ha m hm hn := by
    rcases Nat.lt_or_ge m k with h1 | h1
    · exact h.part ha m h1 hn
    · obtain rfl : m = k := by omega
      rcases hs with hs | hs
      · exact absurd hs hn
      · exact hs
theorem WI.mark {to : List (List Int)} (hg : GOK to) {no : Int} {i v k : Nat} {b0 b : Nat → Bool} {ag : Bool} (h : WI to no i b0 b ag v k) (hv : v < to.length) (hb : b v = true) (hk : k < (to.getD v []).length) (hn : (to.getD v []).getD k 0 ≠ no)
    (hno : b ((to.getD v []).getD k 0).toNat = false) : WI to no i b0 (setB b ((to.getD v []).getD k 0).toNat) true v (k + 1) where
  here := leB_set _ _ _ h.here
  way u hu := by
    have hu : (if u = ((to.getD v []).getD k 0).toNat then true else b u) = true := hu
    by_cases e : u = ((to.getD v []).getD k 0).toNat
    · rw [e]; exact .step (h.way v hb) (getD_in hk) hn
    · rw [if_neg e] at hu; exact h.way u hu
  le := h.le.trans (leB_set _ _)
  more _ := by
    have hin := gok_in hg hv hk
    have h1 := freeN_set (n := to.length) (by omega : ((to.getD v []).getD k 0).toNat < to.length) hno
    have h2 := freeN_le h.le to.length
    omega
  clo ha := by cases ha
  part ha := by cases ha

theorem without_spec (to : List (List Int)) (hg : GOK to) (i : Nat) (no : Int) (hi : i < to.length) : Pure PG 22 [gv to, vi (i : Int), vi no] (.d (dBools to.length (wayB to no i))) [] := by
  refine Proc.mk (cfg 64) tysOK [] Try.func22 rfl (by kernel_rfl) rfl rfl rfl ?_
  intro C x
  have hn := hg.2.1
  refine x.cond rfl ?_ (fun h => ?_) (fun h => ?_)
  · simp only [AllP, big, Int.toNat_natCast]; omega
  · have h : (i : Int) = no := of_decide_eq_true h
    refine Sx.Go.freeze 0 ?_
    refine x.exit rfl trivial ?_
    refine ⟨.inr rfl, ⟨rfl, fun _ => rfl, fun j hj => ?_⟩, trivial, rfl⟩
    show [D.bool false] = [D.bool (wayB to no i j)]
    have : wayB to no i j = false := by
      rw [Bool.eq_false_iff]
      intro hw
      exact (wayB_iff.1 hw).start h
    rw [this]
  have hne : (i : Int) ≠ no := of_decide_eq_false h
  refine x.loop (α := { y : Bool × (Nat → Bool) // y.2 i = true ∧ (∀ u, y.2 u = true → Way to no i u) ∧ (y.1 = false → ∀ u, u < to.length → y.2 u = true → ∀ k ∈ to.getD u [], k ≠ no → y.2 k.toNat = true) }) (fun y => ⟨[(0, gv to), (1, vi (i : Int)), (2, vi no), (7, .own 0), (8, vb y.1.1)], [(0, beenC to.length y.1.2)], 1⟩) (fun y => 2 * freeN to.length y.1.2 + if y.1.1 then 1 else 0) ⟨(true, setB (fun _ => false) i), by simp [setB], fun u hu => ?_, fun h => by cases h⟩ rfl ?_ ?_ (fun y => ?_)
  · have hu : (if u = i then true else false) = true := hu
    by_cases e : u = i
    · rw [e]; exact .here hne
    · rw [if_neg e] at hu; cases hu
  · simp only [AllP, List.length, Int.toNat_natCast]; omega
  · refine ⟨⟨veq_d rfl, rfl, rfl, rfl, rfl, trivial⟩, ⟨⟨rfl, rfl, rfl, fun j hj => ?_⟩, trivial⟩, rfl⟩
    exact congrFun (put2_bool (fun _ => false) i true) j
  obtain ⟨⟨ag, b⟩, hb1, hb2, hb3⟩ := y
  change Go C _ ⟨[(0, gv to), (1, vi (i : Int)), (2, vi no), (7, .own 0), (8, vb ag)], [(0, beenC to.length b)], 1⟩ _
  dsimp only at hb1 hb2 hb3
  refine x.cond rfl trivial (fun h1 => ?_) (fun h1 => ?_)
  · obtain rfl : ag = true := h1
    refine x.loop (α := { y : Nat × Bool × (Nat → Bool) // y.1 ≤ to.length ∧ WI to no i b y.2.2 y.2.1 y.1 0 }) (fun y => ⟨[(0, gv to), (1, vi (i : Int)), (2, vi no), (7, .own 0), (8, vb y.1.2.1), (9, vi (y.1.1 : Int))], [(0, beenC to.length y.1.2.2)], 1⟩) (fun y => to.length - y.1.1) ⟨(0, false, b), Nat.zero_le _, hb1, hb2, LeB.refl _, fun h => (by cases h), fun _ u hu => absurd hu (Nat.not_lt_zero _), fun _ m hm => absurd hm (Nat.not_lt_zero _)⟩ rfl trivial ?_ (fun y => ?_)
    · exact ⟨⟨veq_d rfl, rfl, rfl, rfl, rfl, rfl, trivial⟩, ⟨⟨rfl, rfl, rfl, fun j hj => rfl⟩, trivial⟩, rfl⟩
    obtain ⟨⟨v, ag, c⟩, hv, hw⟩ := y
    change Go C _ ⟨[(0, gv to), (1, vi (i : Int)), (2, vi no), (7, .own 0), (8, vb ag), (9, vi (v : Int))], [(0, beenC to.length c)], 1⟩ _
    dsimp only at hv hw
    refine x.cond rfl trivial (fun h2 => ?_) (fun h2 => ?_)
    · have h2 : v < to.length := by have := of_decide_eq_true h2; omega
      refine x.cond rfl (by simp only [AllP]; omega) (fun h3 => ?_) (fun h3 => ?_)
      · have h3 : c v = false := by
          have h3 : (!c v) = true := h3
          simpa using h3
        exact x.back rfl (show inI64 _ by unfold inI64; omega) ⟨⟨(v + 1, ag, c), by show v + 1 ≤ _; omega, hw.next (.inr h3)⟩, by show to.length - (v + 1) < to.length - v; omega, ⟨veq_d rfl, rfl, rfl, rfl, rfl, rfl, trivial⟩, ⟨⟨rfl, rfl, rfl, fun j hj => rfl⟩, trivial⟩, rfl⟩
      have h3 : c v = true := by
        have h3 : (!c v) = false := h3
        simpa using h3
      obtain ⟨row, hrow⟩ : ∃ l, to.getD v [] = l := ⟨_, rfl⟩
      have hrl : row.length ≤ 256 := by rw [← hrow]; exact Nat.le_trans (row_len (gok_row hg h2)) hn
      refine x.loop (α := { y : Nat × Bool × (Nat → Bool) // y.1 ≤ row.length ∧ y.2.2 v = true ∧ WI to no i b y.2.2 y.2.1 v y.1 }) (fun y => ⟨[(0, gv to), (1, vi (i : Int)), (2, vi no), (7, .own 0), (8, vb y.1.2.1), (9, vi (v : Int)), (10, vi (y.1.1 : Int))], [(0, beenC to.length y.1.2.2)], 1⟩) (fun y => row.length - y.1.1) ⟨(0, ag, c), Nat.zero_le _, h3, hw⟩ rfl trivial ?_ (fun y => ?_)
      · exact ⟨⟨veq_d rfl, rfl, rfl, rfl, rfl, rfl, rfl, trivial⟩, ⟨⟨rfl, rfl, rfl, fun j hj => rfl⟩, trivial⟩, rfl⟩
      obtain ⟨⟨k, ag, c⟩, hk, hcv, hw⟩ := y
      change Go C _ ⟨[(0, gv to), (1, vi (i : Int)), (2, vi no), (7, .own 0), (8, vb ag), (9, vi (v : Int)), (10, vi (k : Int))], [(0, beenC to.length c)], 1⟩ _
      dsimp only at hk hcv hw
      refine x.cond rfl (show _ ∧ _ by omega) (fun h4 => ?_) (fun h4 => ?_)
      · have h4 : k < row.length := by
          have h4 : (k : Int) < ((to.getD v []).length : Int) := of_decide_eq_true h4
          rw [hrow] at h4
          omega
        have hin := gok_in hg h2 (k := k) (by rw [hrow]; exact h4)
        refine x.cond rfl ?_ (fun h5 => ?_) (fun h5 => ?_)
        · simp only [AllP]
          simp only [show ((v : Int)).toNat = v from rfl, show ((k : Int)).toNat = k from rfl, hrow]
          rw [hrow] at hin
          exact ⟨by omega, by omega, fun _ => by omega, fun _ => by omega⟩
        · have h5 : (!decide ((to.getD v []).getD k 0 = no) && !c ((to.getD v []).getD k 0).toNat) = true := h5
          simp only [Bool.and_eq_true, Bool.not_eq_true', decide_eq_false_iff_not] at h5
          have hm := hw.mark hg h2 hcv (by rw [hrow]; exact h4) h5.1 h5.2
          have hput : ∀ j, put2 (fun j => [D.bool (c j)]) ((to.getD v []).getD k 0).toNat 0 [.bool true] j = [D.bool (setB c ((to.getD v []).getD k 0).toNat j)] := fun j => congrFun (put2_bool c _ true) j
          refine x.back rfl ?_ ⟨⟨(k + 1, true, setB c ((to.getD v []).getD k 0).toNat), by show k + 1 ≤ _; omega, leB_set _ _ _ hcv, hm⟩, by show row.length - (k + 1) < row.length - k; omega, ⟨veq_d rfl, rfl, rfl, rfl, rfl, rfl, rfl, trivial⟩, ⟨⟨rfl, rfl, rfl, fun j hj => hput j⟩, trivial⟩, rfl⟩
          simp only [AllP, List.length, inI64]
          simp only [show ((v : Int)).toNat = v from rfl, show ((k : Int)).toNat = k from rfl]
          exact ⟨by omega, ⟨by omega, Nat.le_refl _⟩, by omega⟩
        · have h5 : (!decide ((to.getD v []).getD k 0 = no) && !c ((to.getD v []).getD k 0).toNat) = false := h5
          have hs : (to.getD v []).getD k 0 = no ∨ c ((to.getD v []).getD k 0).toNat = true := by
            simp only [Bool.and_eq_false_iff, Bool.not_eq_false', decide_eq_true_eq] at h5
            exact h5
          exact x.back rfl (show inI64 _ by unfold inI64; omega) ⟨⟨(k + 1, ag, c), by show k + 1 ≤ _; omega, hcv, hw.skip hs⟩, by show row.length - (k + 1) < row.length - k; omega, ⟨veq_d rfl, rfl, rfl, rfl, rfl, rfl, rfl, trivial⟩, ⟨⟨rfl, rfl, rfl, fun j hj => rfl⟩, trivial⟩, rfl⟩
      · have h4 : row.length ≤ k := by
          have h4 : ¬ (k : Int) < ((to.getD v []).length : Int) := of_decide_eq_false h4
          rw [hrow] at h4
          omega
        exact x.back rfl (show inI64 _ by unfold inI64; omega) ⟨⟨(v + 1, ag, c), by show v + 1 ≤ _; omega, hw.next (.inl (by rw [hrow]; exact h4))⟩, by show to.length - (v + 1) < to.length - v; omega, ⟨veq_d rfl, rfl, rfl, rfl, rfl, rfl, trivial⟩, ⟨⟨rfl, rfl, rfl, fun j hj => rfl⟩, trivial⟩, rfl⟩
    · have h2 : v = to.length := by have := of_decide_eq_false h2; omega
      subst h2
      refine x.back rfl trivial ⟨⟨(ag, c), hw.here, hw.way, fun ha => hw.clo ha⟩, ?_, ⟨veq_d rfl, rfl, rfl, rfl, rfl, trivial⟩, ⟨⟨rfl, rfl, rfl, fun j hj => rfl⟩, trivial⟩, rfl⟩
      show 2 * freeN to.length c + (if ag = true then 1 else 0) < 2 * freeN to.length b + 1
      have := freeN_le hw.le to.length
      cases hag : ag with
      | true => have := hw.more hag; simp; omega
      | false => simp; omega
  · obtain rfl : ag = false := h1
    refine Sx.Go.freeze 0 ?_
    refine x.exit rfl trivial ?_
    refine ⟨.inr rfl, ⟨rfl, fun _ => rfl, fun j hj => ?_⟩, trivial, rfl⟩
    show [D.bool (b j)] = [D.bool (wayB to no i j)]
    have : b j = wayB to no i j := by
      rw [Bool.eq_iff_iff, wayB_iff]
      refine ⟨hb2 j, fun hw => ?_⟩
      clear hj
      induction hw with
      | here => exact hb1
      | step hw hk hno ih => exact hb3 rfl _ (hw.lt hg hi) ih _ hk hno
    rw [this]
end Go.Proofs.Ytdgopbgckdnncaa
