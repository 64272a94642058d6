/- graph.Order: the walk through a graph that tells what it leaves. -/
import Derived.Test.YtdgopbgckdnncaaT10B
namespace Go.Proofs.Ytdgopbgckdnncaa
open Go.Sx
set_option linter.unusedVariables false
set_option linter.unusedSimpArgs false
set_option maxRecDepth 100000

/-! ### slices.Reverse, slices.Clip of ints -/
def revI (n i : Nat) (b : Nat → Int) : Nat → Int := fun k => if k < i ∨ n ≤ k + i then b (n - 1 - k) else b k

theorem reverseI_spec (n : Nat) (b : Nat → Int) (hn : n ≤ big) : Proc PG 32 1 [.own 0] [.vec 3 1 n fun k => [.int .i64 (b k)]] (.tup []) [.vec 3 1 n fun k => [.int .i64 (b (n - 1 - k))]] := by
  refine Proc.mk (cfgF 28 1) tysOK [0] Try.func32 rfl (by kernel_rfl) rfl rfl rfl ?_
  intro C x
  unfold big at hn
  refine x.loop (α := { i : Nat // 2 * i ≤ n + 1 }) (fun y => ⟨[(0, .own 0), (2, vi (y.1 : Int)), (3, vi ((n : Int) - 1 - (y.1 : Int)))], [(0, .vec 3 1 n fun k => [.int .i64 (revI n y.1 b k)])], 1⟩) (fun y => n - y.1) ⟨0, by omega⟩ rfl (show inI64 ((n : Int) - 1) by unfold inI64; omega) ?_ (fun y => ?_)
  · refine ⟨⟨rfl, rfl, ?_, trivial⟩, ⟨⟨rfl, rfl, rfl, fun i hi => ?_⟩, trivial⟩, rfl⟩
    · show (n : Int) - 1 = (n : Int) - 1 - 0; omega
    · show [D.int .i64 (b i)] = [D.int .i64 (revI n 0 b i)]
      rw [revI, if_neg (by omega)]
  obtain ⟨i, hi⟩ := y
  change Go C _ ⟨[(0, .own 0), (2, vi (i : Int)), (3, vi ((n : Int) - 1 - (i : Int)))], [(0, .vec 3 1 n fun k => [.int .i64 (revI n i b k)])], 1⟩ _
  refine x.cond rfl trivial (fun h => ?_) (fun h => ?_)
  · have h' : (i : Int) < (n : Int) - 1 - i := by simpa using h
    refine x.plan [0, 1, 2, 3, 4, 5, 8, 9] [6, 7, 10, 11, 12] [13, 14, 15] rfl trivial mixedP (by kernel_rfl) Ret.noPanic ?_
    refine x.qdone rfl ?_ ?_
    · simp only [AllP]; omega
    refine x.back rfl ?_ ?_
    · simp only [AllP, List.length, inI64]; omega
    refine ⟨⟨i + 1, by omega⟩, by show n - (i + 1) < n - i; omega, ⟨rfl, ?_, ?_, trivial⟩, ⟨⟨rfl, rfl, rfl, fun k hk => ?_⟩, trivial⟩, rfl⟩
    · show (i : Int) + 1 = ((i + 1 : Nat) : Int); omega
    · show (n : Int) - 1 - i - 1 = (n : Int) - 1 - ((i + 1 : Nat) : Int); omega
    · rw [put2_int, put2_int]
      show [D.int .i64 (if k = ((n : Int) - 1 - i).toNat then revI n i b (i : Int).toNat else if k = (i : Int).toNat then revI n i b ((n : Int) - 1 - i).toNat else revI n i b k)] = [D.int .i64 (revI n (i + 1) b k)]
      congr 2
      rw [show ((n : Int) - 1 - i).toNat = n - 1 - i by omega, show (i : Int).toNat = i by omega]
      have e1 : revI n i b i = b i := by rw [revI, if_neg (by omega)]
      have e2 : revI n i b (n - 1 - i) = b (n - 1 - i) := by rw [revI, if_neg (by omega)]
      rw [e1, e2]
      by_cases h1 : k = n - 1 - i
      · rw [if_pos h1, revI, if_pos (by omega), h1, show n - 1 - (n - 1 - i) = i by omega]
      · rw [if_neg h1]
        by_cases h2 : k = i
        · rw [if_pos h2, revI, if_pos (by omega), h2]
        · rw [if_neg h2, revI, revI]
          by_cases h3 : k < i ∨ n ≤ k + i
          · rw [if_pos h3, if_pos (by omega)]
          · rw [if_neg h3, if_neg (by omega)]
  · have h' : ¬ (i : Int) < (n : Int) - 1 - i := by simpa using h
    refine x.exit rfl trivial ?_
    refine ⟨.inl rfl, trivial, ⟨⟨rfl, rfl, rfl, fun k hk => ?_⟩, trivial⟩, rfl⟩
    show [D.int .i64 (revI n i b k)] = [D.int .i64 (b (n - 1 - k))]
    rw [revI]
    split
    · rfl
    · rw [show n - 1 - k = k by omega]

theorem clip_spec (l : List Int) (hl : l.length ≤ big) : Pure PG 33 [iv l] (iv l) [] := by
  refine Proc.mk (cfg 9) tysOK [] Try.func33 rfl (by kernel_rfl) rfl rfl rfl ?_
  intro C x
  unfold big at hl
  refine x.exit rfl ?_ ?_
  · simp only [AllP]; omega
  · exact ⟨.inr rfl, veq_d rfl, trivial, rfl⟩

/-! ### what the walk tells, noted down -/
theorem order1_spec (l : List Int) (i : Nat) (hl : l.length < 1000) : Proc PG 31 1 [vi (i : Int), .ptr 0 0] [.box [.own 1], outC l] (.tup []) [.box [.own 1], outC (l ++ [(i : Int)])] := by
  refine Proc.mk (cfgF 7 1) tysOK [0, 1] Try.func31 rfl (by kernel_rfl) rfl rfl rfl ?_
  intro C x
  refine x.exit rfl ?_ ?_
  · simp only [AllP, big]; omega
  · refine ⟨.inl rfl, trivial, ⟨⟨rfl, trivial⟩, ⟨rfl, rfl, ?_, fun j hj => app_list _ _ _ _ hj⟩, trivial⟩, rfl⟩
    show l.length + 1 = (l ++ [(i : Int)]).length
    simp
theorem reached1_spec (i : Nat) : Pure PG 35 [vi (i : Int)] (.tup []) [] := by
  refine Proc.mk (cfg 2) tysOK [] Try.func35 rfl (by kernel_rfl) rfl rfl rfl ?_
  intro C x
  refine x.exit rfl trivial ?_
  exact ⟨.inl rfl, trivial, trivial, rfl⟩
theorem stuck1_spec (i : Nat) : Pure PG 37 [vi (i : Int)] (.tup []) [] := by
  refine Proc.mk (cfg 2) tysOK [] Try.func37 rfl (by kernel_rfl) rfl rfl rfl ?_
  intro C x
  refine x.exit rfl trivial ?_
  exact ⟨.inl rfl, trivial, trivial, rfl⟩
/-! ### the walk itself -/

abbrev tellO : V := .fn 31 [.ptr 5 0]
abbrev HO (to : List (List Int)) (st : DS) : List Ch := [.box [.own 4], .box [gv to], .box [.fn 39 [.ptr 0 0, .ptr 1 0, .ptr 2 0, .ptr 3 0]], .box [tellO], beenC to.length (st).1, .box [.own 6], outC (st).2]
def WalkO (to : List (List Int)) (fu : Nat) : Prop := ∀ (i : Nat) (st : DS), i < to.length → st.1 i = false → freeN to.length st.1 ≤ fu → st.2.length + freeN to.length st.1 ≤ to.length →
  Proc PG 39 6 [vi (i : Int), .ptr 0 0, .ptr 1 0, .ptr 2 0, .ptr 3 0] (HO to st) (.tup []) (HO to (visit to fu i st))
theorem walkO_spec {to : List (List Int)} (hg : GOK to) : ∀ fu, WalkO to fu := fun fu => by
  induction fu with
  | zero => exact fun i st hi hb hfu _ => absurd (freeN_pos hi hb) (by omega)
  | succ fu ih =>
  intro i st hi hb hfu hsum
  refine Proc.mk (cfgF 32 6) tysOK [0, 1, 2, 3, 4, 5, 6] Try.func39 rfl (by kernel_rfl) rfl rfl rfl ?_
  intro C x
  have hn := hg.2.1
  obtain ⟨row, hrow⟩ : ∃ l, to.getD i [] = l := ⟨_, rfl⟩
  have hro : RowOK to.length row := hrow ▸ gok_row hg hi
  have hrl : row.length ≤ 256 := Nat.le_trans (row_len hro) hn
  have hiI : ((i : Int)).toNat = i := Int.toNat_natCast i
  refine x.loop (α := { k : Nat // k ≤ row.length }) (fun y => ⟨[(0, vi (i : Int)), (1, .ptr 0 0), (2, .ptr 1 0), (3, .ptr 2 0), (4, .ptr 3 0), (14, iv row), (15, vi (row.length : Int)), (16, vi (y.1 : Int))], [(0, .box [.own 4]), (1, .box [gv to]), (2, .box [.fn 39 [.ptr 0 0, .ptr 1 0, .ptr 2 0, .ptr 3 0]]), (3, .box [tellO]), (4, beenC to.length (foldV to fu i st y.1).1), (5, .box [.own 6]), (6, outC (foldV to fu i st y.1).2)], 7⟩) (fun y => row.length - y.1) ⟨0, by omega⟩ rfl ?_ ?_ (fun y => ?_)
  · simp only [AllP, hiI, List.length]; omega
  · refine ⟨⟨rfl, ⟨rfl, rfl⟩, ⟨rfl, rfl⟩, ⟨rfl, rfl⟩, ⟨rfl, rfl⟩, veq_d ?_, ?_, rfl, trivial⟩, ⟨⟨rfl, trivial⟩, ⟨veq0_d rfl, trivial⟩, ⟨rfl, trivial⟩, ⟨rfl, trivial⟩, ⟨rfl, rfl, rfl, fun j hj => ?_⟩, ⟨rfl, trivial⟩, ⟨rfl, rfl, rfl, fun _ _ => rfl⟩, trivial⟩, rfl⟩
    · show dInts (to.getD i []) = _
      rw [hrow]
    · show ((to.getD i []).length : Int) = _
      rw [hrow]
    · rw [put2_bool]; rfl
  obtain ⟨k, hk⟩ := y
  change Go C _ ⟨[(0, vi (i : Int)), (1, .ptr 0 0), (2, .ptr 1 0), (3, .ptr 2 0), (4, .ptr 3 0), (14, iv row), (15, vi (row.length : Int)), (16, vi (k : Int))], [(0, .box [.own 4]), (1, .box [gv to]), (2, .box [.fn 39 [.ptr 0 0, .ptr 1 0, .ptr 2 0, .ptr 3 0]]), (3, .box [tellO]), (4, beenC to.length (foldV to fu i st k).1), (5, .box [.own 6]), (6, outC (foldV to fu i st k).2)], 7⟩ _
  obtain ⟨st2, hst2⟩ : ∃ st2, foldV to fu i st k = st2 := ⟨_, rfl⟩
  rw [hst2]
  have hs2 := foldV_sum hg fu i st hi k (by rw [hrow]; exact hk)
  have hm2 := freeN_le (foldV_mono to fu i st k (by rw [hrow]; exact hk)) to.length
  have hf2 := freeN_set hi hb
  rw [hst2] at hs2 hm2
  refine x.cond rfl trivial (fun h1 => ?_) (fun h1 => ?_)
  · have h1 : k < row.length := by have := of_decide_eq_true h1; omega
    have hin := hro.1 _ (getD_in h1)
    refine x.cond rfl ?_ (fun h2 => ?_) (fun h2 => ?_)
    · simp only [AllP]
      simp only [show ((k : Int)).toNat = k from rfl]
      omega
    · have hfree : st2.1 (row.getD k 0).toNat = false := by
        have : (!st2.1 (row.getD k 0).toNat) = true := h2
        simpa using this
      refine x.call [0, 1, 2, 3, 4, 5, 6] rfl trivial rfl (ih (row.getD k 0).toNat st2 (by omega) hfree (by omega) (by omega)) rfl ?_ ?_ ?_
      · refine ⟨?_, ⟨rfl, rfl⟩, ⟨rfl, rfl⟩, ⟨rfl, rfl⟩, ⟨rfl, rfl⟩, trivial⟩
        show row.getD k 0 = (((row.getD k 0).toNat : Nat) : Int)
        omega
      · exact ⟨⟨rfl, trivial⟩, ⟨veq0_d rfl, trivial⟩, ⟨rfl, trivial⟩, ⟨rfl, trivial⟩, ⟨rfl, rfl, rfl, fun _ _ => rfl⟩, ⟨rfl, trivial⟩, ⟨rfl, rfl, rfl, fun _ _ => rfl⟩, trivial⟩
      · refine x.back rfl (show inI64 _ by unfold inI64; omega) ⟨⟨k + 1, by omega⟩, by show row.length - (k + 1) < row.length - k; omega, ?_⟩
        have e : foldV to fu i st (k + 1) = visit to fu (row.getD k 0).toNat st2 := by
          rw [foldV_succ to fu i st (by rw [hrow]; exact h1), hst2, hrow, stepV, if_neg (by rw [hfree]; simp)]
        rw [e]
        exact ⟨⟨rfl, ⟨rfl, rfl⟩, ⟨rfl, rfl⟩, ⟨rfl, rfl⟩, ⟨rfl, rfl⟩, veq_d rfl, rfl, rfl, trivial⟩, ⟨⟨rfl, trivial⟩, ⟨veq0_d rfl, trivial⟩, ⟨rfl, trivial⟩, ⟨rfl, trivial⟩, ⟨rfl, rfl, rfl, fun _ _ => rfl⟩, ⟨rfl, trivial⟩, ⟨rfl, rfl, rfl, fun _ _ => rfl⟩, trivial⟩, rfl⟩
    · have hfree : st2.1 (row.getD k 0).toNat = true := by
        have : (!st2.1 (row.getD k 0).toNat) = false := h2
        simpa using this
      refine x.back rfl (show inI64 _ by unfold inI64; omega) ⟨⟨k + 1, by omega⟩, by show row.length - (k + 1) < row.length - k; omega, ?_⟩
      have e : foldV to fu i st (k + 1) = st2 := by
        rw [foldV_succ to fu i st (by rw [hrow]; exact h1), hst2, hrow, stepV, if_pos hfree]
      rw [e]
      exact ⟨⟨rfl, ⟨rfl, rfl⟩, ⟨rfl, rfl⟩, ⟨rfl, rfl⟩, ⟨rfl, rfl⟩, veq_d rfl, rfl, rfl, trivial⟩, ⟨⟨rfl, trivial⟩, ⟨veq0_d rfl, trivial⟩, ⟨rfl, trivial⟩, ⟨rfl, trivial⟩, ⟨rfl, rfl, rfl, fun _ _ => rfl⟩, ⟨rfl, trivial⟩, ⟨rfl, rfl, rfl, fun _ _ => rfl⟩, trivial⟩, rfl⟩
  · have hkl : k = row.length := by
      have := of_decide_eq_false h1
      omega
    have e : visit to (fu + 1) i st = (st2.1, st2.2 ++ [(i : Int)]) := by
      rw [visit_eq, hrow, ← hkl, hst2]
    rw [e]
    refine x.call [5, 6] rfl trivial rfl (order1_spec st2.2 i (by omega)) rfl ⟨rfl, ⟨rfl, rfl⟩, trivial⟩ ⟨⟨rfl, trivial⟩, ⟨rfl, rfl, rfl, fun _ _ => rfl⟩, trivial⟩ ?_
    refine x.exit rfl trivial ?_
    exact ⟨.inl rfl, trivial, ⟨⟨rfl, trivial⟩, ⟨veq0_d rfl, trivial⟩, ⟨rfl, trivial⟩, ⟨rfl, trivial⟩, ⟨rfl, rfl, rfl, fun _ _ => rfl⟩, ⟨rfl, trivial⟩, ⟨rfl, rfl, rfl, fun _ _ => rfl⟩, trivial⟩, rfl⟩

abbrev tellR : V := .fn 35 []
abbrev HR (to : List (List Int)) (st : DS) : List Ch := [.box [.own 4], .box [gv to], .box [.fn 39 [.ptr 0 0, .ptr 1 0, .ptr 2 0, .ptr 3 0]], .box [tellR], beenC to.length (st).1]
def WalkR (to : List (List Int)) (fu : Nat) : Prop := ∀ (i : Nat) (st : DS), i < to.length → st.1 i = false → freeN to.length st.1 ≤ fu → st.2.length + freeN to.length st.1 ≤ to.length →
  Proc PG 39 5 [vi (i : Int), .ptr 0 0, .ptr 1 0, .ptr 2 0, .ptr 3 0] (HR to st) (.tup []) (HR to (visit to fu i st))
theorem walkR_spec {to : List (List Int)} (hg : GOK to) : ∀ fu, WalkR to fu := fun fu => by
  induction fu with
  | zero => exact fun i st hi hb hfu _ => absurd (freeN_pos hi hb) (by omega)
  | succ fu ih =>
  intro i st hi hb hfu hsum
  refine Proc.mk (cfgF 32 5) tysOK [0, 1, 2, 3, 4] Try.func39 rfl (by kernel_rfl) rfl rfl rfl ?_
  intro C x
  have hn := hg.2.1
  obtain ⟨row, hrow⟩ : ∃ l, to.getD i [] = l := ⟨_, rfl⟩
  have hro : RowOK to.length row := hrow ▸ gok_row hg hi
  have hrl : row.length ≤ 256 := Nat.le_trans (row_len hro) hn
  have hiI : ((i : Int)).toNat = i := Int.toNat_natCast i
  refine x.loop (α := { k : Nat // k ≤ row.length }) (fun y => ⟨[(0, vi (i : Int)), (1, .ptr 0 0), (2, .ptr 1 0), (3, .ptr 2 0), (4, .ptr 3 0), (14, iv row), (15, vi (row.length : Int)), (16, vi (y.1 : Int))], [(0, .box [.own 4]), (1, .box [gv to]), (2, .box [.fn 39 [.ptr 0 0, .ptr 1 0, .ptr 2 0, .ptr 3 0]]), (3, .box [tellR]), (4, beenC to.length (foldV to fu i st y.1).1)], 5⟩) (fun y => row.length - y.1) ⟨0, by omega⟩ rfl ?_ ?_ (fun y => ?_)
  · simp only [AllP, hiI, List.length]; omega
  · refine ⟨⟨rfl, ⟨rfl, rfl⟩, ⟨rfl, rfl⟩, ⟨rfl, rfl⟩, ⟨rfl, rfl⟩, veq_d ?_, ?_, rfl, trivial⟩, ⟨⟨rfl, trivial⟩, ⟨veq0_d rfl, trivial⟩, ⟨rfl, trivial⟩, ⟨rfl, trivial⟩, ⟨rfl, rfl, rfl, fun j hj => ?_⟩, trivial⟩, rfl⟩
    · show dInts (to.getD i []) = _
      rw [hrow]
    · show ((to.getD i []).length : Int) = _
      rw [hrow]
    · rw [put2_bool]; rfl
  obtain ⟨k, hk⟩ := y
  change Go C _ ⟨[(0, vi (i : Int)), (1, .ptr 0 0), (2, .ptr 1 0), (3, .ptr 2 0), (4, .ptr 3 0), (14, iv row), (15, vi (row.length : Int)), (16, vi (k : Int))], [(0, .box [.own 4]), (1, .box [gv to]), (2, .box [.fn 39 [.ptr 0 0, .ptr 1 0, .ptr 2 0, .ptr 3 0]]), (3, .box [tellR]), (4, beenC to.length (foldV to fu i st k).1)], 5⟩ _
  obtain ⟨st2, hst2⟩ : ∃ st2, foldV to fu i st k = st2 := ⟨_, rfl⟩
  rw [hst2]
  have hs2 := foldV_sum hg fu i st hi k (by rw [hrow]; exact hk)
  have hm2 := freeN_le (foldV_mono to fu i st k (by rw [hrow]; exact hk)) to.length
  have hf2 := freeN_set hi hb
  rw [hst2] at hs2 hm2
  refine x.cond rfl trivial (fun h1 => ?_) (fun h1 => ?_)
  · have h1 : k < row.length := by have := of_decide_eq_true h1; omega
    have hin := hro.1 _ (getD_in h1)
    refine x.cond rfl ?_ (fun h2 => ?_) (fun h2 => ?_)
    · simp only [AllP]
      simp only [show ((k : Int)).toNat = k from rfl]
      omega
    · have hfree : st2.1 (row.getD k 0).toNat = false := by
        have : (!st2.1 (row.getD k 0).toNat) = true := h2
        simpa using this
      refine x.call [0, 1, 2, 3, 4] rfl trivial rfl (ih (row.getD k 0).toNat st2 (by omega) hfree (by omega) (by omega)) rfl ?_ ?_ ?_
      · refine ⟨?_, ⟨rfl, rfl⟩, ⟨rfl, rfl⟩, ⟨rfl, rfl⟩, ⟨rfl, rfl⟩, trivial⟩
        show row.getD k 0 = (((row.getD k 0).toNat : Nat) : Int)
        omega
      · exact ⟨⟨rfl, trivial⟩, ⟨veq0_d rfl, trivial⟩, ⟨rfl, trivial⟩, ⟨rfl, trivial⟩, ⟨rfl, rfl, rfl, fun _ _ => rfl⟩, trivial⟩
      · refine x.back rfl (show inI64 _ by unfold inI64; omega) ⟨⟨k + 1, by omega⟩, by show row.length - (k + 1) < row.length - k; omega, ?_⟩
        have e : foldV to fu i st (k + 1) = visit to fu (row.getD k 0).toNat st2 := by
          rw [foldV_succ to fu i st (by rw [hrow]; exact h1), hst2, hrow, stepV, if_neg (by rw [hfree]; simp)]
        rw [e]
        exact ⟨⟨rfl, ⟨rfl, rfl⟩, ⟨rfl, rfl⟩, ⟨rfl, rfl⟩, ⟨rfl, rfl⟩, veq_d rfl, rfl, rfl, trivial⟩, ⟨⟨rfl, trivial⟩, ⟨veq0_d rfl, trivial⟩, ⟨rfl, trivial⟩, ⟨rfl, trivial⟩, ⟨rfl, rfl, rfl, fun _ _ => rfl⟩, trivial⟩, rfl⟩
    · have hfree : st2.1 (row.getD k 0).toNat = true := by
        have : (!st2.1 (row.getD k 0).toNat) = false := h2
        simpa using this
      refine x.back rfl (show inI64 _ by unfold inI64; omega) ⟨⟨k + 1, by omega⟩, by show row.length - (k + 1) < row.length - k; omega, ?_⟩
      have e : foldV to fu i st (k + 1) = st2 := by
        rw [foldV_succ to fu i st (by rw [hrow]; exact h1), hst2, hrow, stepV, if_pos hfree]
      rw [e]
      exact ⟨⟨rfl, ⟨rfl, rfl⟩, ⟨rfl, rfl⟩, ⟨rfl, rfl⟩, ⟨rfl, rfl⟩, veq_d rfl, rfl, rfl, trivial⟩, ⟨⟨rfl, trivial⟩, ⟨veq0_d rfl, trivial⟩, ⟨rfl, trivial⟩, ⟨rfl, trivial⟩, ⟨rfl, rfl, rfl, fun _ _ => rfl⟩, trivial⟩, rfl⟩
  · have hkl : k = row.length := by
      have := of_decide_eq_false h1
      omega
    have e : visit to (fu + 1) i st = (st2.1, st2.2 ++ [(i : Int)]) := by
      rw [visit_eq, hrow, ← hkl, hst2]
    rw [e]
    refine x.pure rfl trivial rfl (reached1_spec i) ⟨rfl, trivial⟩ ?_
    refine x.exit rfl trivial ?_
    exact ⟨.inl rfl, trivial, ⟨⟨rfl, trivial⟩, ⟨veq0_d rfl, trivial⟩, ⟨rfl, trivial⟩, ⟨rfl, trivial⟩, ⟨rfl, rfl, rfl, fun _ _ => rfl⟩, trivial⟩, rfl⟩

abbrev tellS : V := .fn 37 []
abbrev HS (to : List (List Int)) (st : DS) : List Ch := [.box [.own 4], .box [gv to], .box [.fn 39 [.ptr 0 0, .ptr 1 0, .ptr 2 0, .ptr 3 0]], .box [tellS], beenC to.length (st).1]
def WalkS (to : List (List Int)) (fu : Nat) : Prop := ∀ (i : Nat) (st : DS), i < to.length → st.1 i = false → freeN to.length st.1 ≤ fu → st.2.length + freeN to.length st.1 ≤ to.length →
  Proc PG 39 5 [vi (i : Int), .ptr 0 0, .ptr 1 0, .ptr 2 0, .ptr 3 0] (HS to st) (.tup []) (HS to (visit to fu i st))
theorem walkS_spec {to : List (List Int)} (hg : GOK to) : ∀ fu, WalkS to fu := fun fu => by
  induction fu with
  | zero => exact fun i st hi hb hfu _ => absurd (freeN_pos hi hb) (by omega)
  | succ fu ih =>
  intro i st hi hb hfu hsum
  refine Proc.mk (cfgF 32 5) tysOK [0, 1, 2, 3, 4] Try.func39 rfl (by kernel_rfl) rfl rfl rfl ?_
  intro C x
  have hn := hg.2.1
  obtain ⟨row, hrow⟩ : ∃ l, to.getD i [] = l := ⟨_, rfl⟩
  have hro : RowOK to.length row := hrow ▸ gok_row hg hi
  have hrl : row.length ≤ 256 := Nat.le_trans (row_len hro) hn
  have hiI : ((i : Int)).toNat = i := Int.toNat_natCast i
  refine x.loop (α := { k : Nat // k ≤ row.length }) (fun y => ⟨[(0, vi (i : Int)), (1, .ptr 0 0), (2, .ptr 1 0), (3, .ptr 2 0), (4, .ptr 3 0), (14, iv row), (15, vi (row.length : Int)), (16, vi (y.1 : Int))], [(0, .box [.own 4]), (1, .box [gv to]), (2, .box [.fn 39 [.ptr 0 0, .ptr 1 0, .ptr 2 0, .ptr 3 0]]), (3, .box [tellS]), (4, beenC to.length (foldV to fu i st y.1).1)], 5⟩) (fun y => row.length - y.1) ⟨0, by omega⟩ rfl ?_ ?_ (fun y => ?_)
  · simp only [AllP, hiI, List.length]; omega
  · refine ⟨⟨rfl, ⟨rfl, rfl⟩, ⟨rfl, rfl⟩, ⟨rfl, rfl⟩, ⟨rfl, rfl⟩, veq_d ?_, ?_, rfl, trivial⟩, ⟨⟨rfl, trivial⟩, ⟨veq0_d rfl, trivial⟩, ⟨rfl, trivial⟩, ⟨rfl, trivial⟩, ⟨rfl, rfl, rfl, fun j hj => ?_⟩, trivial⟩, rfl⟩
    · show dInts (to.getD i []) = _
      rw [hrow]
    · show ((to.getD i []).length : Int) = _
      rw [hrow]
    · rw [put2_bool]; rfl
  obtain ⟨k, hk⟩ := y
  change Go C _ ⟨[(0, vi (i : Int)), (1, .ptr 0 0), (2, .ptr 1 0), (3, .ptr 2 0), (4, .ptr 3 0), (14, iv row), (15, vi (row.length : Int)), (16, vi (k : Int))], [(0, .box [.own 4]), (1, .box [gv to]), (2, .box [.fn 39 [.ptr 0 0, .ptr 1 0, .ptr 2 0, .ptr 3 0]]), (3, .box [tellS]), (4, beenC to.length (foldV to fu i st k).1)], 5⟩ _
  obtain ⟨st2, hst2⟩ : ∃ st2, foldV to fu i st k = st2 := ⟨_, rfl⟩
  rw [hst2]
  have hs2 := foldV_sum hg fu i st hi k (by rw [hrow]; exact hk)
  have hm2 := freeN_le (foldV_mono to fu i st k (by rw [hrow]; exact hk)) to.length
  have hf2 := freeN_set hi hb
  rw [hst2] at hs2 hm2
  refine x.cond rfl trivial (fun h1 => ?_) (fun h1 => ?_)
  · have h1 : k < row.length := by have := of_decide_eq_true h1; omega
    have hin := hro.1 _ (getD_in h1)
    refine x.cond rfl ?_ (fun h2 => ?_) (fun h2 => ?_)
    · simp only [AllP]
      simp only [show ((k : Int)).toNat = k from rfl]
      omega
    · have hfree : st2.1 (row.getD k 0).toNat = false := by
        have : (!st2.1 (row.getD k 0).toNat) = true := h2
        simpa using this
      refine x.call [0, 1, 2, 3, 4] rfl trivial rfl (ih (row.getD k 0).toNat st2 (by omega) hfree (by omega) (by omega)) rfl ?_ ?_ ?_
      · refine ⟨?_, ⟨rfl, rfl⟩, ⟨rfl, rfl⟩, ⟨rfl, rfl⟩, ⟨rfl, rfl⟩, trivial⟩
        show row.getD k 0 = (((row.getD k 0).toNat : Nat) : Int)
        omega
      · exact ⟨⟨rfl, trivial⟩, ⟨veq0_d rfl, trivial⟩, ⟨rfl, trivial⟩, ⟨rfl, trivial⟩, ⟨rfl, rfl, rfl, fun _ _ => rfl⟩, trivial⟩
      · refine x.back rfl (show inI64 _ by unfold inI64; omega) ⟨⟨k + 1, by omega⟩, by show row.length - (k + 1) < row.length - k; omega, ?_⟩
        have e : foldV to fu i st (k + 1) = visit to fu (row.getD k 0).toNat st2 := by
          rw [foldV_succ to fu i st (by rw [hrow]; exact h1), hst2, hrow, stepV, if_neg (by rw [hfree]; simp)]
        rw [e]
        exact ⟨⟨rfl, ⟨rfl, rfl⟩, ⟨rfl, rfl⟩, ⟨rfl, rfl⟩, ⟨rfl, rfl⟩, veq_d rfl, rfl, rfl, trivial⟩, ⟨⟨rfl, trivial⟩, ⟨veq0_d rfl, trivial⟩, ⟨rfl, trivial⟩, ⟨rfl, trivial⟩, ⟨rfl, rfl, rfl, fun _ _ => rfl⟩, trivial⟩, rfl⟩
    · have hfree : st2.1 (row.getD k 0).toNat = true := by
        have : (!st2.1 (row.getD k 0).toNat) = false := h2
        simpa using this
      refine x.back rfl (show inI64 _ by unfold inI64; omega) ⟨⟨k + 1, by omega⟩, by show row.length - (k + 1) < row.length - k; omega, ?_⟩
      have e : foldV to fu i st (k + 1) = st2 := by
        rw [foldV_succ to fu i st (by rw [hrow]; exact h1), hst2, hrow, stepV, if_pos hfree]
      rw [e]
      exact ⟨⟨rfl, ⟨rfl, rfl⟩, ⟨rfl, rfl⟩, ⟨rfl, rfl⟩, ⟨rfl, rfl⟩, veq_d rfl, rfl, rfl, trivial⟩, ⟨⟨rfl, trivial⟩, ⟨veq0_d rfl, trivial⟩, ⟨rfl, trivial⟩, ⟨rfl, trivial⟩, ⟨rfl, rfl, rfl, fun _ _ => rfl⟩, trivial⟩, rfl⟩
  · have hkl : k = row.length := by
      have := of_decide_eq_false h1
      omega
    have e : visit to (fu + 1) i st = (st2.1, st2.2 ++ [(i : Int)]) := by
      rw [visit_eq, hrow, ← hkl, hst2]
    rw [e]
    refine x.pure rfl trivial rfl (stuck1_spec i) ⟨rfl, trivial⟩ ?_
    refine x.exit rfl trivial ?_
    exact ⟨.inl rfl, trivial, ⟨⟨rfl, trivial⟩, ⟨veq0_d rfl, trivial⟩, ⟨rfl, trivial⟩, ⟨rfl, trivial⟩, ⟨rfl, rfl, rfl, fun _ _ => rfl⟩, trivial⟩, rfl⟩
end Go.Proofs.Ytdgopbgckdnncaa
