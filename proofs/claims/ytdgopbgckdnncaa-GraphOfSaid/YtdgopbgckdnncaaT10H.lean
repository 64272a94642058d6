/- What the walk reaches: the nodes to which ways lead. -/
import Derived.Test.YtdgopbgckdnncaaT10G
namespace Go.Proofs.Ytdgopbgckdnncaa
open Go.Sx
set_option linter.unusedVariables false
set_option linter.unusedSimpArgs false
set_option maxRecDepth 100000

/-- A way that comes to no node 'no'. -/
inductive Way (to : List (List Int)) (no : Int) (i : Nat) : Nat → Prop
  | here (h : (i : Int) ≠ no) : Way to no i i
  | step {j : Nat} {k : Int} (h : Way to no i j) (hk : k ∈ to.getD j []) (hn : k ≠ no) : Way to no i k.toNat

theorem Way.lt {to : List (List Int)} (hg : GOK to) {no : Int} {i j : Nat} (hi : i < to.length) (h : Way to no i j) : j < to.length := by
  induction h with
  | here => exact hi
  | step _ hk _ ih =>
    have := (gok_row hg ih).1 _ hk
    omega
theorem Way.trans {to : List (List Int)} {no : Int} {i j k : Nat} (h1 : Way to no i j) (h2 : Way to no j k) : Way to no i k := by
  induction h2 with
  | here => exact h1
  | step _ hk hn ih => exact .step ih hk hn
theorem Way.start {to : List (List Int)} {no : Int} {i j : Nat} (h : Way to no i j) : (i : Int) ≠ no := by
  induction h with
  | here h => exact h
  | step _ _ _ ih => exact ih

/-- What is marked anew is led to. -/
theorem visit_way {to : List (List Int)} (hg : GOK to) (fu : Nat) : ∀ (i : Nat) (st : DS), i < to.length → ∀ v, (visit to fu i st).1 v = true → st.1 v = true ∨ Way to (-1) i v := by
  induction fu with
  | zero => exact fun i st _ v h => .inl h
  | succ fu ih =>
    intro i st hi v h
    have step : ∀ k, k ≤ (to.getD i []).length → ∀ v, (foldV to fu i st k).1 v = true → st.1 v = true ∨ Way to (-1) i v := fun k => by
      induction k with
      | zero =>
        intro _ v hv
        rw [foldV_zero] at hv
        have hv : (if v = i then true else st.1 v) = true := hv
        by_cases e : v = i
        · subst e; exact .inr (.here (by omega))
        · rw [if_neg e] at hv; exact .inl hv
      | succ k ih2 =>
        intro hk v hv
        rw [foldV_succ to fu i st (by omega)] at hv
        unfold stepV at hv
        split at hv
        · exact ih2 (by omega) v hv
        · have h2 := gok_in hg hi (k := k) (by omega)
          rcases ih _ _ (by omega) v hv with h3 | h3
          · exact ih2 (by omega) v h3
          · exact .inr (Way.trans (.step (.here (by omega)) (getD_in (by omega : k < (to.getD i []).length)) (by omega)) h3)
    rw [visit_eq] at h
    exact step _ (Nat.le_refl _) v h

/-- What is marked anew leads to what is marked. -/
theorem visit_closed {to : List (List Int)} (hg : GOK to) (fu : Nat) : ∀ (i : Nat) (st : DS), i < to.length → st.1 i = false → freeN to.length st.1 ≤ fu →
    (visit to fu i st).1 i = true ∧ ∀ v, (visit to fu i st).1 v = true → st.1 v = false → ∀ k ∈ to.getD v [], (visit to fu i st).1 k.toNat = true := by
  induction fu with
  | zero => exact fun i st hi hb hf => absurd (freeN_pos hi hb) (by omega)
  | succ fu ih =>
    intro i st hi hb hf
    have hf2 := freeN_set hi hb
    have step : ∀ k, k ≤ (to.getD i []).length → (∀ v, (foldV to fu i st k).1 v = true → setB st.1 i v = false → ∀ y ∈ to.getD v [], (foldV to fu i st k).1 y.toNat = true) ∧ ∀ j, j < k → (foldV to fu i st k).1 ((to.getD i []).getD j 0).toNat = true := fun k => by
      induction k with
      | zero =>
        intro _
        refine ⟨fun v hv hno => ?_, fun j hj => absurd hj (Nat.not_lt_zero _)⟩
        rw [foldV_zero] at hv
        rw [show setB st.1 i v = true from hv] at hno
        cases hno
      | succ k ih2 =>
        intro hk
        obtain ⟨h1, h2⟩ := ih2 (by omega)
        rw [foldV_succ to fu i st (by omega)]
        unfold stepV
        split
        · rename_i hy
          refine ⟨h1, fun j hj => ?_⟩
          rcases Nat.lt_or_ge j k with h3 | h3
          · exact h2 j h3
          · obtain rfl : j = k := by omega
            exact hy
        · rename_i hy
          have hin := gok_in hg hi (k := k) (by omega)
          have hm := freeN_le (foldV_mono to fu i st k (by omega)) to.length
          obtain ⟨h3, h4⟩ := ih ((to.getD i []).getD k 0).toNat (foldV to fu i st k) (by omega) (by simpa using hy) (by omega)
          have hmono := visit_mono to fu ((to.getD i []).getD k 0).toNat (foldV to fu i st k)
          refine ⟨fun v hv hno y hyy => ?_, fun j hj => ?_⟩
          · by_cases hold : (foldV to fu i st k).1 v = true
            · exact hmono _ (h1 v hold hno y hyy)
            · exact h4 v hv (by simpa using hold) y hyy
          · rcases Nat.lt_or_ge j k with h5 | h5
            · exact hmono _ (h2 j h5)
            · obtain rfl : j = k := by omega
              exact h3
    obtain ⟨h1, h2⟩ := step _ (Nat.le_refl _)
    rw [visit_eq]
    refine ⟨foldV_mono to fu i st _ (Nat.le_refl _) _ (by simp [setB]), fun v hv hno k hk => ?_⟩
    by_cases hvi : v = i
    · subst hvi
      obtain ⟨j, hj, rfl⟩ := List.getElem_of_mem hk
      rw [getD_at hj]
      exact h2 j hj
    · exact h1 v hv (by simp [setB, hvi, hno]) k hk

theorem seen_iff {to : List (List Int)} (hg : GOK to) {i : Nat} (hi : i < to.length) (j : Nat) : seen to i j = true ↔ Way to (-1) i j := by
  obtain ⟨h1, h2⟩ := visit_closed hg (to.length + 1) i (fun _ => false, []) hi rfl (by rw [freeN_no]; omega)
  constructor
  · intro h
    rcases visit_way hg _ i (fun _ => false, []) hi j h with h | h
    · cases h
    · exact h
  · intro h
    induction h with
    | here => exact h1
    | step _ hk _ ih => exact h2 _ ih rfl _ hk

/-! ### a graph that leads as another -/
def dBools (n : Nat) (b : Nat → Bool) : D := .sl 1 n fun j => [.bool (b j)]
def reachN (to : List (List Int)) (i : Int) : Nat := if GOK to ∧ 0 ≤ i ∧ i < to.length then to.length else 0

theorem reached_spec (to : List (List Int)) (i : Int) (hf : Fit to) : Pure PG 17 [gv to, vi i] (.d (dBools (reachN to i) (seen to i.toNat))) [] := by
  refine Proc.mk (cfg 21) tysOK [] Try.func17 rfl (by kernel_rfl) rfl rfl rfl ?_
  intro C x
  refine x.pure rfl trivial rfl (right_spec to hf) ⟨veq_d rfl, trivial⟩ ?_
  refine x.cond rfl trivial (fun h => ?_) (fun h => ?_)
  · have e : reachN to i = 0 := by
      simp only [Bool.or_eq_true, Bool.not_eq_true', decide_eq_true_eq, decide_eq_false_iff_not] at h
      unfold reachN
      rw [if_neg]
      rintro ⟨h1, h2, h3⟩
      rcases h with (h | h) | h
      · exact h h1
      · omega
      · omega
    rw [e]
    refine x.exit rfl trivial ?_
    exact ⟨.inr rfl, rfl, trivial, rfl⟩
  · simp only [Bool.or_eq_false_iff, Bool.not_eq_false', decide_eq_true_eq, decide_eq_false_iff_not] at h
    have hg := h.1.1
    have e : reachN to i = to.length := by
      unfold reachN
      rw [if_pos ⟨hg, by omega, by omega⟩]
    rw [e]
    refine x.call [] rfl trivial rfl (walkF_R hg i.toNat (by omega)) rfl ⟨veq_d rfl, ?_, rfl, trivial⟩ trivial ?_
    · show i = ((i.toNat : Nat) : Int); omega
    refine Sx.Go.freeze 0 ?_
    refine x.exit rfl trivial ?_
    exact ⟨.inr rfl, veq_d rfl, trivial, rfl⟩

/-- The flags of two graphs' nodes. -/
theorem bools_spec (n m : Nat) (b c : Nat → Bool) (hn : n ≤ 9223372036854775807) (hm : m ≤ 9223372036854775807) : Pure PG 21 [.d (dBools n b), .d (dBools m c)] (vb (decide (n = m ∧ ∀ i, i < n → b i = c i))) [] := by
  refine Proc.mk (cfg 26) tysOK [] Try.func21 rfl (by kernel_rfl) rfl rfl rfl ?_
  intro C x
  refine x.cond rfl trivial (fun h => ?_) (fun h => ?_)
  · refine x.exit rfl trivial ?_
    refine ⟨.inr rfl, ?_, trivial, rfl⟩
    have h : ¬ ((n : Int) = m) := by simpa using h
    show false = decide _
    exact (decide_eq_false fun e => h (by rw [e.1])).symm
  have h : n = m := by
    have : (n : Int) = m := by simpa using h
    omega
  refine x.loop (α := { i : Nat // i ≤ n ∧ ∀ j, j < i → b j = c j }) (fun y => ⟨[(0, .d (dBools n b)), (1, .d (dBools m c)), (5, vi (y.1 : Int))], [], 0⟩) (fun y => n - y.1) ⟨0, by omega, fun j hj => by omega⟩ rfl trivial ⟨⟨veq_d rfl, veq_d rfl, rfl, trivial⟩, trivial, rfl⟩ (fun y => ?_)
  obtain ⟨i, hi, hup⟩ := y
  change Go C _ ⟨[(0, .d (dBools n b)), (1, .d (dBools m c)), (5, vi (i : Int))], [], 0⟩ _
  refine x.cond rfl trivial (fun h1 => ?_) (fun h1 => ?_)
  · have h1 : i < n := by have := of_decide_eq_true h1; omega
    refine x.quiet rfl trivial mixedP (by kernel_rfl) ?_
    refine x.qdone rfl ?_ ?_
    · simp only [AllP]; omega
    refine x.cond rfl trivial (fun h2 => ?_) (fun h2 => ?_)
    · refine x.exit rfl trivial ?_
      refine ⟨.inr rfl, ?_, trivial, rfl⟩
      have h2 : ¬ b i = c i := by
        have h2 : (!(b i == c i)) = true := h2
        simpa using h2
      show false = decide _
      exact (decide_eq_false fun e => h2 (e.2 i h1)).symm
    · have h2 : b i = c i := by
        have h2 : (!(b i == c i)) = false := h2
        simpa using h2
      refine x.back rfl (show inI64 _ by unfold inI64; omega) ⟨⟨i + 1, by omega, fun j hj => ?_⟩, by show n - (i + 1) < n - i; omega, ⟨veq_d rfl, veq_d rfl, rfl, trivial⟩, trivial, rfl⟩
      rcases Nat.lt_or_ge j i with h3 | h3
      · exact hup j h3
      · obtain rfl : j = i := by omega
        exact h2
  · have h1 : i = n := by have := of_decide_eq_false h1; omega
    refine x.exit rfl trivial ?_
    refine ⟨.inr rfl, ?_, trivial, rfl⟩
    show true = decide _
    exact (decide_eq_true ⟨h, fun j hj => hup j (by omega)⟩).symm

/-! ### the answer's Leads, Back, Same -/
theorem leads_spec (to : List (List Int)) (a : Nat) (b : Int) (ha : a < to.length) (hl : (to.getD a []).length ≤ 9223372036854775807) : Pure PG 23 [gv to, vi (a : Int), vi b] (vb ((to.getD a []).contains b)) [] := by
  refine Proc.mk (cfg 26) tysOK [] Try.func23 rfl (by kernel_rfl) rfl rfl rfl ?_
  intro C x
  obtain ⟨l, hrow⟩ : ∃ l, to.getD a [] = l := ⟨_, rfl⟩
  rw [hrow] at hl ⊢
  refine x.loop (α := { i : Nat // i ≤ l.length ∧ ∀ j, j < i → l.getD j 0 ≠ b }) (fun y => ⟨[(0, gv to), (1, vi (a : Int)), (2, vi b), (7, vi (y.1 : Int))], [], 0⟩) (fun y => l.length - y.1) ⟨0, by omega, fun j hj => by omega⟩ rfl trivial ⟨⟨veq_d rfl, rfl, rfl, rfl, trivial⟩, trivial, rfl⟩ (fun y => ?_)
  obtain ⟨i, hi, hup⟩ := y
  change Go C _ ⟨[(0, gv to), (1, vi (a : Int)), (2, vi b), (7, vi (i : Int))], [], 0⟩ _
  refine x.cond rfl (show _ ∧ _ by omega) (fun h1 => ?_) (fun h1 => ?_)
  · have h1 : i < l.length := by
      have h1 : (i : Int) < ((to.getD a []).length : Int) := of_decide_eq_true h1
      rw [hrow] at h1
      omega
    refine x.cond rfl ?_ (fun h2 => ?_) (fun h2 => ?_)
    · simp only [AllP]
      simp only [show ((a : Int)).toNat = a from rfl, hrow]
      omega
    · have h2 : (to.getD a []).getD i 0 = b := of_decide_eq_true h2
      rw [hrow] at h2
      refine x.exit rfl trivial ?_
      refine ⟨.inr rfl, ?_, trivial, rfl⟩
      show true = l.contains b
      exact (List.contains_iff_mem.2 (h2 ▸ getD_in h1)).symm
    · have h2 : ¬ (to.getD a []).getD i 0 = b := of_decide_eq_false h2
      rw [hrow] at h2
      refine x.back rfl (show inI64 _ by unfold inI64; omega) ⟨⟨i + 1, by omega, fun j hj => ?_⟩, by show l.length - (i + 1) < l.length - i; omega, ⟨veq_d rfl, rfl, rfl, rfl, trivial⟩, trivial, rfl⟩
      rcases Nat.lt_or_ge j i with h3 | h3
      · exact hup j h3
      · obtain rfl : j = i := by omega
        exact h2
  · have h1 : i = l.length := by
      have h1 : ¬ (i : Int) < ((to.getD a []).length : Int) := of_decide_eq_false h1
      rw [hrow] at h1
      omega
    subst h1
    refine x.exit rfl trivial ?_
    refine ⟨.inr rfl, ?_, trivial, rfl⟩
    show false = l.contains b
    rw [eq_comm, Bool.eq_false_iff]
    intro hc
    obtain ⟨j, hj, e⟩ := List.getElem_of_mem (List.contains_iff_mem.1 hc)
    rw [getD_at] at e
    exact hup j hj e

/-- The rows turned round, up to row i, and of row i by the first k. -/
def rowB (to : List (List Int)) (i k v : Nat) : List Int := if v < i then into to to.length v else if v = i then into to k v else []
theorem rowB_at (to : List (List Int)) (i k : Nat) : rowB to i k i = into to k i := by
  unfold rowB
  rw [if_neg (Nat.lt_irrefl _), if_pos rfl]
theorem rowB_ne (to : List (List Int)) (i k k' : Nat) {v : Nat} (h : v ≠ i) : rowB to i k v = rowB to i k' v := by
  unfold rowB
  rw [if_neg h, if_neg h]
theorem rowB_end (to : List (List Int)) (i v : Nat) : rowB to i to.length v = rowB to (i + 1) 0 v := by
  unfold rowB
  by_cases h1 : v < i
  · rw [if_pos h1, if_pos (by omega)]
  · rw [if_neg h1]
    by_cases h2 : v = i
    · rw [if_pos h2, if_pos (by omega)]
    · rw [if_neg h2, if_neg (by omega)]
      split <;> rfl
theorem rowB_len (to : List (List Int)) (i k v : Nat) (hk : k ≤ to.length) : (rowB to i k v).length ≤ to.length := by
  unfold rowB
  split
  · exact into_len _ _ _
  · split
    · exact Nat.le_trans (into_len _ _ _) hk
    · simp

theorem refback_spec (to : List (List Int)) (hg : GOK to) : Pure PG 20 [gv to] (gv (backL to)) [] := by
  refine Proc.mk (cfg 36) tysOK [] Try.func20 rfl (by kernel_rfl) rfl rfl rfl ?_
  intro C x
  have hn := hg.2.1
  refine x.loop (α := { i : Nat // i ≤ to.length } × (Nat → Value)) (fun y => ⟨[(0, gv to), (3, .own 0), (4, vi (y.1.1 : Int))], [(0, rowsC to.length y.2 (rowB to y.1.1 0))], 1⟩) (fun y => to.length - y.1.1) (⟨0, by omega⟩, fun _ => .slice none 0 0) rfl ?_ ?_ (fun y => ?_)
  · simp only [AllP, big, Int.toNat_natCast]; omega
  · refine ⟨⟨veq_d rfl, rfl, rfl, trivial⟩, ⟨⟨rfl, rfl, rfl, rfl, rfl, fun i hi => ⟨rfl, ?_, fun j hj => absurd hj (Nat.not_lt_zero _)⟩⟩, trivial⟩, rfl⟩
    show 0 = (rowB to 0 0 i).length
    unfold rowB
    rw [if_neg (by omega)]
    split <;> rfl
  obtain ⟨⟨i, hi⟩, hs⟩ := y
  change Go C _ ⟨[(0, gv to), (3, .own 0), (4, vi (i : Int))], [(0, rowsC to.length hs (rowB to i 0))], 1⟩ _
  refine x.cond rfl trivial (fun h1 => ?_) (fun h1 => ?_)
  · have h1 : i < to.length := by have := of_decide_eq_true h1; omega
    refine x.loop (α := { k : Nat // k ≤ to.length } × (Nat → Value)) (fun y => ⟨[(0, gv to), (3, .own 0), (4, vi (i : Int)), (5, vi (y.1.1 : Int))], [(0, rowsC to.length y.2 (rowB to i y.1.1))], 1⟩) (fun y => to.length - y.1.1) (⟨0, by omega⟩, hs) rfl trivial ⟨⟨veq_d rfl, rfl, rfl, rfl, trivial⟩, ⟨⟨rfl, rfl, rfl, rfl, rfl, fun v hv => ⟨rfl, rfl, fun j hj => rfl⟩⟩, trivial⟩, rfl⟩ (fun y => ?_)
    obtain ⟨⟨k, hk⟩, hs⟩ := y
    change Go C _ ⟨[(0, gv to), (3, .own 0), (4, vi (i : Int)), (5, vi (k : Int))], [(0, rowsC to.length hs (rowB to i k))], 1⟩ _
    refine x.cond rfl trivial (fun h2 => ?_) (fun h2 => ?_)
    · have h2 : k < to.length := by have := of_decide_eq_true h2; omega
      have hkl : (to.getD k []).length ≤ 9223372036854775807 := by have := row_len (gok_row hg h2); omega
      refine x.pure rfl trivial rfl (leads_spec to k (i : Int) h2 hkl) ⟨veq_d rfl, rfl, rfl, trivial⟩ ?_
      have enext : into to (k + 1) i = if (to.getD k []).contains (i : Int) then into to k i ++ [(k : Int)] else into to k i := by
        rw [into_succ]
        unfold intoK
        rw [List.take_length]
        split
        · rfl
        · simp
      have hlen := rowB_len to i k i hk
      refine x.cond rfl trivial (fun h3 => ?_) (fun h3 => ?_)
      · rw [if_pos h3] at enext
        refine x.loadRow rfl (show _ ∧ _ by omega) rfl h1 ?_
        refine x.storeRow rfl ?_ rfl ⟨rfl, h1⟩ (fun val => ?_)
        · simp only [AllP]
          simp only [show ((i : Int)).toNat = i from rfl]
          unfold big
          omega
        refine x.back rfl (show inI64 _ by unfold inI64; omega) ⟨(⟨k + 1, by omega⟩, _), by show to.length - (k + 1) < to.length - k; omega, ⟨veq_d rfl, rfl, rfl, rfl, trivial⟩, ⟨⟨rfl, rfl, rfl, rfl, rfl, fun v hv => ⟨rfl, ?_, fun j hj => ?_⟩⟩, trivial⟩, rfl⟩
        · show (if v = i then (rowB to i k i).length + 1 else (rowB to i k v).length) = (rowB to i (k + 1) v).length
          by_cases hvi : v = i
          · rw [if_pos hvi, hvi, rowB_at, rowB_at, enext]; simp
          · rw [if_neg hvi, rowB_ne to i k (k + 1) hvi]
        · have hj : j < (if v = i then (rowB to i k i).length + 1 else (rowB to i k v).length) := hj
          show (if v = i then app (rowB to i k i).length (fun j => [D.int .i64 ((rowB to i k i).getD j 0)]) (fun _ => [D.int .i64 (k : Int)]) else fun j => [D.int .i64 ((rowB to i k v).getD j 0)]) j = [D.int .i64 ((rowB to i (k + 1) v).getD j 0)]
          by_cases hvi : v = i
          · rw [if_pos hvi] at hj
            rw [if_pos hvi, hvi, rowB_at to i (k + 1), enext, ← rowB_at to i k]
            exact app_list _ _ _ _ hj
          · rw [if_neg hvi, rowB_ne to i k (k + 1) hvi]
      · rw [if_neg (by rw [h3]; simp)] at enext
        have e : ∀ v, rowB to i k v = rowB to i (k + 1) v := fun v => by
          by_cases hvi : v = i
          · rw [hvi, rowB_at, rowB_at, enext]
          · exact rowB_ne to i k (k + 1) hvi
        exact x.back rfl (show inI64 _ by unfold inI64; omega) ⟨(⟨k + 1, by omega⟩, hs), by show to.length - (k + 1) < to.length - k; omega, ⟨veq_d rfl, rfl, rfl, rfl, trivial⟩, ⟨⟨rfl, rfl, rfl, rfl, rfl, fun v hv => ⟨rfl, congrArg List.length (e v), fun j hj => congrArg (fun l : List Int => [D.int .i64 (l.getD j 0)]) (e v)⟩⟩, trivial⟩, rfl⟩
    · have h2 : k = to.length := by have := of_decide_eq_false h2; omega
      subst h2
      exact x.back rfl (show inI64 _ by unfold inI64; omega) ⟨(⟨i + 1, by omega⟩, hs), by show to.length - (i + 1) < to.length - i; omega, ⟨veq_d rfl, rfl, rfl, trivial⟩, ⟨⟨rfl, rfl, rfl, rfl, rfl, fun v hv => ⟨rfl, congrArg List.length (rowB_end to i v), fun j hj => congrArg (fun l : List Int => [D.int .i64 (l.getD j 0)]) (rowB_end to i v)⟩⟩, trivial⟩, rfl⟩
  · have h1 : i = to.length := by have := of_decide_eq_false h1; omega
    subst h1
    refine Sx.Go.close 0 ?_
    refine Sx.Go.freeze 0 ?_
    refine x.exit rfl trivial ?_
    refine ⟨.inr rfl, ⟨?_, fun _ => rfl, fun v hv => ?_⟩, trivial, rfl⟩
    · show to.length = (backL to).length
      simp [backL]
    · show [dInts (rowB to to.length 0 v)] = [dInts ((backL to).getD v [])]
      have hv : v < to.length := hv
      rw [backL, List.getD_eq_getElem?_getD, List.getElem?_map, List.getElem?_range hv]
      show [dInts (rowB to to.length 0 v)] = [dInts (into to to.length v)]
      rw [rowB, if_pos hv]
end Go.Proofs.Ytdgopbgckdnncaa
