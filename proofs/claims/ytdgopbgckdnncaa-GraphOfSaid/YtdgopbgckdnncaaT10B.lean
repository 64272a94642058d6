/- Nodes told when they are left: the law, and the answer's own way. -/
import Derived.Test.YtdgopbgckdnncaaT10A
import Derived.Test.YtdgopbgckdnncaaSx31
namespace Go.Proofs.Ytdgopbgckdnncaa
open Go.Sx
set_option linter.unusedVariables false
set_option linter.unusedSimpArgs false
set_option maxRecDepth 100000


def setB (b : Nat → Bool) (i : Nat) : Nat → Bool := fun j => if j = i then true else b j
abbrev DS := (Nat → Bool) × List Int
def visit (to : List (List Int)) : Nat → Nat → DS → DS
  | 0, _, st => st
  | fu + 1, i, st =>
    let st1 := (to.getD i []).foldl (fun st k => if st.1 k.toNat then st else visit to fu k.toNat st) (setB st.1 i, st.2)
    (st1.1, st1.2 ++ [(i : Int)])
def stepV (to : List (List Int)) (fu : Nat) (st : DS) (k : Int) : DS := if st.1 k.toNat then st else visit to fu k.toNat st
def foldV (to : List (List Int)) (fu i : Nat) (st : DS) (k : Nat) : DS := ((to.getD i []).take k).foldl (stepV to fu) (setB st.1 i, st.2)
theorem visit_eq (to : List (List Int)) (fu i : Nat) (st : DS) : visit to (fu + 1) i st = ((foldV to fu i st (to.getD i []).length).1, (foldV to fu i st (to.getD i []).length).2 ++ [(i : Int)]) := by
  unfold foldV
  rw [List.take_length]
  rfl
theorem foldV_zero (to : List (List Int)) (fu i : Nat) (st : DS) : foldV to fu i st 0 = (setB st.1 i, st.2) := rfl
theorem getD_at {l : List Int} {k : Nat} (h : k < l.length) : l[k] = l.getD k 0 := by
  rw [List.getD_eq_getElem?_getD, List.getElem?_eq_getElem h]; rfl
theorem foldV_succ (to : List (List Int)) (fu i : Nat) (st : DS) {k : Nat} (hk : k < (to.getD i []).length) : foldV to fu i st (k + 1) = stepV to fu (foldV to fu i st k) ((to.getD i []).getD k 0) := by
  unfold foldV
  rw [List.take_succ_eq_append_getElem hk, List.foldl_append]
  simp only [List.foldl_cons, List.foldl_nil]
  congr 1
  exact getD_at hk

def LeB (a b : Nat → Bool) : Prop := ∀ j, a j = true → b j = true
theorem LeB.refl (a : Nat → Bool) : LeB a a := fun _ h => h
theorem LeB.trans {a b c : Nat → Bool} (h1 : LeB a b) (h2 : LeB b c) : LeB a c := fun j h => h2 j (h1 j h)
theorem leB_set (b : Nat → Bool) (i : Nat) : LeB b (setB b i) := fun j h => by unfold setB; split <;> first | rfl | exact h

/-- How many below n are not marked. -/
def freeN : Nat → (Nat → Bool) → Nat
  | 0, _ => 0
  | n + 1, b => (if b n then 0 else 1) + freeN n b
theorem freeN_le {a b : Nat → Bool} (h : LeB a b) (n : Nat) : freeN n b ≤ freeN n a := by
  induction n with
  | zero => exact Nat.le_refl _
  | succ n ih =>
    simp only [freeN]
    cases ha : a n with
    | true => rw [h n ha]; simp; exact ih
    | false => cases b n <;> simp <;> omega
theorem freeN_set {b : Nat → Bool} {n i : Nat} (hi : i < n) (hb : b i = false) : freeN n (setB b i) + 1 = freeN n b := by
  induction n with
  | zero => omega
  | succ n ih =>
    simp only [freeN]
    by_cases h : i = n
    · subst h
      have h0 : ∀ m, m ≤ i → freeN m (setB b i) = freeN m b := fun m hm => by
        induction m with
        | zero => rfl
        | succ m ih2 =>
          simp only [freeN]
          rw [ih2 (by omega)]
          have : setB b i m = b m := by unfold setB; rw [if_neg (by omega)]
          rw [this]
      rw [h0 i (Nat.le_refl _), hb]
      simp [setB]
      omega
    · have := ih (by omega)
      have h2 : setB b i n = b n := by unfold setB; rw [if_neg (fun e => h e.symm)]
      rw [h2]; omega
theorem freeN_pos {b : Nat → Bool} {n i : Nat} (hi : i < n) (hb : b i = false) : 0 < freeN n b := by
  have := freeN_set hi hb; omega
theorem freeN_no (n : Nat) : freeN n (fun _ => false) = n := by
  induction n with
  | zero => rfl
  | succ n ih => simp only [freeN, ih]; simp; omega

theorem visit_mono (to : List (List Int)) (fu : Nat) : ∀ (i : Nat) (st : DS), LeB st.1 (visit to fu i st).1 := by
  induction fu with
  | zero => exact fun i st => LeB.refl _
  | succ fu ih =>
    intro i st
    have step : ∀ k, k ≤ (to.getD i []).length → LeB (setB st.1 i) (foldV to fu i st k).1 := fun k => by
      induction k with
      | zero => exact fun _ => LeB.refl _
      | succ k ih2 =>
        intro hk
        refine (ih2 (by omega)).trans ?_
        rw [foldV_succ to fu i st (by omega)]
        unfold stepV
        split
        · exact LeB.refl _
        · exact ih _ _
    rw [visit_eq]
    exact (leB_set _ _).trans (step _ (Nat.le_refl _))
theorem stepV_mono (to : List (List Int)) (fu : Nat) (st : DS) (k : Int) : LeB st.1 (stepV to fu st k).1 := by
  unfold stepV
  split
  · exact LeB.refl _
  · exact visit_mono _ _ _ _
theorem foldV_mono (to : List (List Int)) (fu i : Nat) (st : DS) : ∀ k, k ≤ (to.getD i []).length → LeB (setB st.1 i) (foldV to fu i st k).1 := fun k => by
  induction k with
  | zero => exact fun _ => LeB.refl _
  | succ k ih2 =>
    intro hk
    refine (ih2 (by omega)).trans ?_
    rw [foldV_succ to fu i st (by omega)]
    exact stepV_mono _ _ _ _

theorem gok_row {to : List (List Int)} (hg : GOK to) {i : Nat} (hi : i < to.length) : RowOK to.length (to.getD i []) := hg.2.2 _ (getD_mem hi)
theorem gok_in {to : List (List Int)} (hg : GOK to) {i k : Nat} (hi : i < to.length) (hk : k < (to.getD i []).length) : 0 ≤ (to.getD i []).getD k 0 ∧ (to.getD i []).getD k 0 < to.length := (gok_row hg hi).1 _ (getD_in hk)

/-- What is told, and what is free, are no more than before. -/
theorem visit_sum {to : List (List Int)} (hg : GOK to) (fu : Nat) : ∀ (i : Nat) (st : DS), i < to.length → st.1 i = false → (visit to fu i st).2.length + freeN to.length (visit to fu i st).1 ≤ st.2.length + freeN to.length st.1 := by
  induction fu with
  | zero => exact fun i st _ _ => Nat.le_refl _
  | succ fu ih =>
    intro i st hi hb
    have step : ∀ k, k ≤ (to.getD i []).length → (foldV to fu i st k).2.length + freeN to.length (foldV to fu i st k).1 ≤ st.2.length + freeN to.length (setB st.1 i) := fun k => by
      induction k with
      | zero => exact fun _ => Nat.le_refl _
      | succ k ih2 =>
        intro hk
        have h1 := ih2 (by omega)
        rw [foldV_succ to fu i st (by omega)]
        unfold stepV
        split
        · exact h1
        · rename_i hno
          have h2 := gok_in hg hi (k := k) (by omega)
          exact Nat.le_trans (ih _ _ (by omega) (by simpa using hno)) h1
    rw [visit_eq]
    have h3 := step _ (Nat.le_refl _)
    have h4 := freeN_set hi hb
    simp only [List.length_append, List.length_singleton]
    omega
theorem foldV_sum {to : List (List Int)} (hg : GOK to) (fu : Nat) (i : Nat) (st : DS) (hi : i < to.length) : ∀ k, k ≤ (to.getD i []).length → (foldV to fu i st k).2.length + freeN to.length (foldV to fu i st k).1 ≤ st.2.length + freeN to.length (setB st.1 i) := fun k => by
  induction k with
  | zero => exact fun _ => Nat.le_refl _
  | succ k ih2 =>
    intro hk
    have h1 := ih2 (by omega)
    rw [foldV_succ to fu i st (by omega)]
    unfold stepV
    split
    · exact h1
    · rename_i hno
      have h2 := gok_in hg hi (k := k) (by omega)
      exact Nat.le_trans (visit_sum hg _ _ _ (by omega) (by simpa using hno)) h1

/-- A row is no longer than there are nodes. -/
theorem row_len {n : Nat} {l : List Int} (h : RowOK n l) : l.length ≤ n := by
  obtain ⟨h1, h2⟩ := h
  have h3 : (l.map Int.toNat).Nodup := by
    rw [List.nodup_iff_pairwise_ne, List.pairwise_map]
    rw [List.nodup_iff_pairwise_ne] at h2
    refine h2.imp_of_mem fun {a b} ha hb hne e => hne ?_
    have := h1 a ha
    have := h1 b hb
    omega
  have h4 : (l.map Int.toNat) ⊆ List.range n := fun y hy => by
    obtain ⟨z, hz, rfl⟩ := List.mem_map.1 hy
    have := h1 z hz
    exact List.mem_range.2 (by omega)
  have := h3.length_le_of_subset h4
  simpa using this

abbrev beenC (n : Nat) (b : Nat → Bool) : Ch := .vec 4 1 n fun j => [.bool (b j)]
abbrev outC (l : List Int) : Ch := .vec 3 1 l.length fun j => [.int .i64 (l.getD j 0)]

/-! ### the answer's own way -/
def AfterP (to : List (List Int)) (fu : Nat) : Prop := ∀ (i : Nat) (st : DS), i < to.length → st.1 i = false → freeN to.length st.1 ≤ fu → st.2.length + freeN to.length st.1 ≤ to.length →
  Proc PG 34 0 [gv to, vi (i : Int), .own 0, .own 1] [beenC to.length st.1, outC st.2] (.tup [.own 0, .own 1]) [beenC to.length (visit to fu i st).1, outC (visit to fu i st).2]

theorem after_body {to : List (List Int)} (hg : GOK to) (fu : Nat) (ih : AfterP to fu) (i : Nat) (st : DS) (hi : i < to.length) (hb : st.1 i = false) (hfu : freeN to.length st.1 ≤ fu + 1) (hsum : st.2.length + freeN to.length st.1 ≤ to.length) {C : Ctx} (x : Cx PG (cfg 53) C) :
    ∀ c, (Try.f34).body = some c → Go C [.code c] ⟨[(0, gv to), (1, vi (i : Int)), (2, .own 0), (3, .own 1)], [(0, beenC to.length st.1), (1, outC st.2)], 2⟩ (Ret (cfg 53) (Try.f34).results.toList [0, 1] (.tup [.own 0, .own 1]) [beenC to.length (visit to (fu + 1) i st).1, outC (visit to (fu + 1) i st).2]) := by
  intro c hc
  obtain rfl := Option.some.inj hc
  clear hc
  have hn := hg.2.1
  obtain ⟨row, hrow⟩ : ∃ l, to.getD i [] = l := ⟨_, rfl⟩
  have hro : RowOK to.length row := hrow ▸ gok_row hg hi
  have hrl : row.length ≤ 256 := Nat.le_trans (row_len hro) hn
  have hiI : ((i : Int)).toNat = i := Int.toNat_natCast i
  refine x.loop (α := { k : Nat // k ≤ row.length }) (fun y => ⟨[(0, gv to), (1, vi (i : Int)), (2, .own 0), (3, .own 1), (10, vi (y.1 : Int))], [(0, beenC to.length (foldV to fu i st y.1).1), (1, outC (foldV to fu i st y.1).2)], 2⟩) (fun y => row.length - y.1) ⟨0, by omega⟩ rfl ?_ ?_ (fun y => ?_)
  · simp only [AllP, hiI, List.length]; omega
  · refine ⟨⟨veq_d rfl, rfl, rfl, rfl, rfl, trivial⟩, ⟨⟨rfl, rfl, rfl, fun j hj => ?_⟩, ⟨rfl, rfl, rfl, fun j hj => rfl⟩, trivial⟩, rfl⟩
    rw [put2_bool]
    rfl
  obtain ⟨k, hk⟩ := y
  change Go C _ ⟨[(0, gv to), (1, vi (i : Int)), (2, .own 0), (3, .own 1), (10, vi (k : Int))], [(0, beenC to.length (foldV to fu i st k).1), (1, outC (foldV to fu i st k).2)], 2⟩ _
  obtain ⟨st2, hst2⟩ : ∃ st2, foldV to fu i st k = st2 := ⟨_, rfl⟩
  rw [hst2]
  refine x.cond rfl ?_ (fun h1 => ?_) (fun h1 => ?_)
  · simp only [AllP, hiI]; omega
  · have h1 : k < row.length := by
      rw [← hrow]
      have := of_decide_eq_true h1
      rw [hiI] at this
      omega
    refine x.cond rfl ?_ (fun h2 => ?_) (fun h2 => ?_)
    · have := hro.1 _ (getD_in h1)
      simp only [AllP, hiI, hrow]
      simp only [show ((k : Int)).toNat = k from rfl, hrow]
      omega
    · have hin := hro.1 _ (getD_in h1)
      have hfree : st2.1 (row.getD k 0).toNat = false := by
        have : (!st2.1 ((to.getD i []).getD k 0).toNat) = true := h2
        rw [hrow] at this
        simpa using this
      have hs2 := foldV_sum hg fu i st hi k (by rw [hrow]; exact hk)
      have hm2 := freeN_le (foldV_mono to fu i st k (by rw [hrow]; exact hk)) to.length
      have hf2 := freeN_set hi hb
      rw [hst2] at hs2 hm2
      refine x.call [0, 1] rfl ?_ rfl (ih (row.getD k 0).toNat st2 (by omega) hfree (by omega) (by omega)) rfl ?_ ?_ ?_
      · simp only [AllP, hiI]
        simp only [show ((k : Int)).toNat = k from rfl, hrow]
        omega
      · refine ⟨veq_d rfl, ?_, rfl, rfl, trivial⟩
        show (to.getD i []).getD k 0 = (((row.getD k 0).toNat : Nat) : Int)
        rw [hrow]; omega
      · exact ⟨⟨rfl, rfl, rfl, fun _ _ => rfl⟩, ⟨rfl, rfl, rfl, fun _ _ => rfl⟩, trivial⟩
      · refine x.back rfl (show inI64 _ by unfold inI64; omega) ⟨⟨k + 1, by omega⟩, by show row.length - (k + 1) < row.length - k; omega, ?_⟩
        have e : foldV to fu i st (k + 1) = visit to fu (row.getD k 0).toNat st2 := by
          rw [foldV_succ to fu i st (by rw [hrow]; exact h1), hst2, hrow, stepV, if_neg (by rw [hfree]; simp)]
        rw [e]
        exact ⟨⟨veq_d rfl, rfl, rfl, rfl, rfl, trivial⟩, ⟨⟨rfl, rfl, rfl, fun _ _ => rfl⟩, ⟨rfl, rfl, rfl, fun _ _ => rfl⟩, trivial⟩, rfl⟩
    · have hfree : st2.1 (row.getD k 0).toNat = true := by
        have : (!st2.1 ((to.getD i []).getD k 0).toNat) = false := h2
        rw [hrow] at this
        simpa using this
      refine x.back rfl (show inI64 _ by unfold inI64; omega) ⟨⟨k + 1, by omega⟩, by show row.length - (k + 1) < row.length - k; omega, ?_⟩
      have e : foldV to fu i st (k + 1) = st2 := by
        rw [foldV_succ to fu i st (by rw [hrow]; exact h1), hst2, hrow, stepV, if_pos hfree]
      rw [e]
      exact ⟨⟨veq_d rfl, rfl, rfl, rfl, rfl, trivial⟩, ⟨⟨rfl, rfl, rfl, fun _ _ => rfl⟩, ⟨rfl, rfl, rfl, fun _ _ => rfl⟩, trivial⟩, rfl⟩
  · have hkl : k = row.length := by
      have : ¬ (k : Int) < ((to.getD i []).length : Int) := of_decide_eq_false h1
      rw [hrow] at this
      omega
    have hs2 := foldV_sum hg fu i st hi k (by rw [hrow]; exact hk)
    have hf2 := freeN_set hi hb
    rw [hst2] at hs2
    have e : visit to (fu + 1) i st = (st2.1, st2.2 ++ [(i : Int)]) := by
      rw [visit_eq, hrow, ← hkl, hst2]
    rw [e]
    refine x.exit rfl ?_ ?_
    · simp only [AllP, big]
      omega
    refine ⟨.inr rfl, ⟨rfl, rfl, trivial⟩, ⟨⟨rfl, rfl, rfl, fun _ _ => rfl⟩, ⟨rfl, rfl, ?_, fun j hj => ?_⟩, trivial⟩, rfl⟩
    · show st2.2.length + 1 = (st2.2 ++ [(i : Int)]).length
      simp
    · exact app_list _ _ _ _ hj

theorem after_spec {to : List (List Int)} (hg : GOK to) : ∀ fu, AfterP to fu := fun fu => by
  induction fu with
  | zero => exact fun i st hi hb hfu _ => absurd (freeN_pos hi hb) (by omega)
  | succ fu ih =>
    intro i st hi hb hfu hsum
    refine Proc.mk (cfg 53) tysOK [0, 1] Try.func34 rfl (by kernel_rfl) rfl rfl rfl ?_
    intro C x
    exact after_body hg fu ih i st hi hb hfu hsum x _ rfl

/-- Nothing told yet: no slice is handed in. -/
theorem after_nil {to : List (List Int)} (hg : GOK to) (fu i : Nat) (b : Nat → Bool) (hi : i < to.length) (hb : b i = false) (hfu : freeN to.length b ≤ fu + 1) :
    Proc PG 34 0 [gv to, vi (i : Int), .own 0, .nils] [beenC to.length b] (.tup [.own 0, .own 1]) [beenC to.length (visit to (fu + 1) i (b, [])).1, outC (visit to (fu + 1) i (b, [])).2] := by
  refine Proc.mk (cfg 53) tysOK [0, 1] Try.func34 rfl (by kernel_rfl) rfl rfl rfl ?_
  intro C x
  refine Go.own 3 3 1 (fun j => [.int .i64 (([] : List Int).getD j 0)]) rfl ?_
  refine x.le ?_ (after_body hg fu (after_spec hg fu) i (b, []) hi hb hfu ?_ x _ rfl)
  · exact ⟨⟨veq_d rfl, rfl, rfl, rfl, trivial⟩, ⟨⟨rfl, rfl, rfl, fun _ _ => rfl⟩, ⟨rfl, rfl, rfl, fun _ _ => rfl⟩, trivial⟩, rfl⟩
  · have := freeN_le (a := fun _ => false) (b := b) (fun j h => absurd h (by simp)) to.length
    rw [freeN_no] at this
    simpa using this

/-- In which order the nodes are told. -/
def post (to : List (List Int)) : List Int := (visit to (to.length + 1) 0 (fun _ => false, [])).2

theorem reforder_spec (to : List (List Int)) (hg : GOK to) : Proc PG 15 0 [gv to] [] (.own 0) [outC (post to).reverse] := by
  refine Proc.mk (cfg 30) tysOK [2] Try.func15 rfl (by kernel_rfl) rfl rfl rfl ?_
  intro C x
  have hn := hg.2.1
  refine x.call [0] rfl ?_ rfl (after_nil hg to.length 0 (fun _ => false) (by have := hg.1; omega) rfl (by rw [freeN_no]; omega)) rfl ⟨veq_d rfl, rfl, rfl, trivial, trivial⟩ ⟨⟨rfl, rfl, rfl, fun _ _ => rfl⟩, trivial⟩ ?_
  · simp only [AllP, big, Int.toNat_natCast]; omega
  have hp : (visit to (to.length + 1) 0 (fun _ => false, [])).2 = post to := rfl
  have hlen : (post to).length ≤ to.length := by
    have := visit_sum hg (to.length + 1) 0 (fun _ => false, []) hg.1 rfl
    rw [freeN_no] at this
    simp only [List.length_nil] at this
    unfold post
    omega
  rw [hp]
  generalize (visit to (to.length + 1) 0 (fun _ => false, [])).1 = b
  obtain ⟨P, hP⟩ : ∃ P, post to = P := ⟨_, rfl⟩
  rw [hP] at hlen ⊢
  refine x.toLoop rfl (show inI64 _ by unfold inI64; omega) ?_
  refine Go.own 5 3 1 (fun j => [.int .i64 (([] : List Int).getD j 0)]) rfl ?_
  refine x.loop (α := { k : Nat // k ≤ P.length }) (fun y => ⟨[(4, .own 1), (5, .own 2), (6, vi ((P.length : Int) - 1 - y.1))], [(1, outC P), (2, outC (P.reverse.take y.1))], 3⟩) (fun y => P.length - y.1) ⟨0, by omega⟩ rfl trivial ?_ (fun y => ?_)
  · refine ⟨⟨rfl, rfl, ?_, trivial⟩, ⟨⟨rfl, rfl, rfl, fun _ _ => rfl⟩, ⟨rfl, rfl, rfl, fun _ _ => rfl⟩, trivial⟩, rfl⟩
    show (P.length : Int) - 1 = (P.length : Int) - 1 - (0 : Nat); omega
  obtain ⟨k, hk⟩ := y
  change Go C _ ⟨[(4, .own 1), (5, .own 2), (6, vi ((P.length : Int) - 1 - (k : Int)))], [(1, outC P), (2, outC (P.reverse.take k))], 3⟩ _
  refine x.cond rfl trivial (fun h1 => ?_) (fun h1 => ?_)
  · have h1 : k < P.length := by have := of_decide_eq_true h1; omega
    have e1 : ((P.length : Int) - 1 - k).toNat = P.length - 1 - k := by omega
    have e2 : P.reverse.take (k + 1) = P.reverse.take k ++ [P.getD (P.length - 1 - k) 0] := by
      rw [List.take_succ_eq_append_getElem (by simp; omega), List.getElem_reverse, getD_at]
    have e3 : (P.reverse.take k).length = k := by simp; omega
    refine x.back rfl ?_ ⟨⟨k + 1, by omega⟩, by show P.length - (k + 1) < P.length - k; omega, ⟨rfl, rfl, ?_, trivial⟩, ⟨⟨rfl, rfl, rfl, fun _ _ => rfl⟩, ⟨rfl, rfl, ?_, fun j hj => ?_⟩, trivial⟩, rfl⟩
    · simp only [AllP, inI64, big, e3]
      omega
    · show (P.length : Int) - 1 - k - 1 = (P.length : Int) - 1 - ((k + 1 : Nat) : Int); omega
    · show (P.reverse.take k).length + 1 = (P.reverse.take (k + 1)).length
      rw [e2]; simp
    · refine (app_list .i64 (P.reverse.take k) _ j hj).trans ?_
      rw [e1, ← e2]
  · have h1 : k = P.length := by have := of_decide_eq_false h1; omega
    refine x.exit rfl trivial ?_
    refine ⟨.inr rfl, rfl, ⟨⟨rfl, rfl, ?_, fun j hj => ?_⟩, trivial⟩, rfl⟩
    · show (P.reverse.take k).length = P.reverse.length
      rw [h1]; simp
    · show [D.int .i64 ((P.reverse.take k).getD j 0)] = [D.int .i64 (P.reverse.getD j 0)]
      rw [h1, ← List.length_reverse, List.take_length]
end Go.Proofs.Ytdgopbgckdnncaa
