/- graph.Right: may a graph be? -/
import Derived.Test.YtdgopbgckdnncaaTTy
namespace Go.Proofs.Ytdgopbgckdnncaa
open Go.Sx
set_option linter.unusedVariables false
set_option linter.unusedSimpArgs false
set_option maxRecDepth 100000

/-- A row that leads to nodes below n, each once. -/
def RowOK (n : Nat) (l : List Int) : Prop := (∀ x ∈ l, 0 ≤ x ∧ x < n) ∧ l.Nodup
def GOK (to : List (List Int)) : Prop := 1 ≤ to.length ∧ to.length ≤ 256 ∧ ∀ l ∈ to, RowOK to.length l
instance (n : Nat) (l : List Int) : Decidable (RowOK n l) := by unfold RowOK; exact inferInstance
instance (to : List (List Int)) : Decidable (GOK to) := by unfold GOK; exact inferInstance

abbrev gv (to : List (List Int)) : V := .d (dRows to)
abbrev iv (l : List Int) : V := .d (dInts l)
/-- Lengths that fit. -/
def Fit (to : List (List Int)) : Prop := to.length ≤ 9223372036854775807 ∧ ∀ l ∈ to, l.length ≤ 9223372036854775807

theorem getD_mem {to : List (List Int)} {i : Nat} (h : i < to.length) : to.getD i [] ∈ to := by
  rw [List.getD_eq_getElem?_getD, List.getElem?_eq_getElem h]
  exact List.getElem_mem h
theorem fit_row {to : List (List Int)} (h : Fit to) (i : Nat) : (to.getD i []).length ≤ 9223372036854775807 := by
  by_cases hi : i < to.length
  · exact h.2 _ (getD_mem hi)
  · rw [List.getD_eq_getElem?_getD, List.getElem?_eq_none (by omega)]
    simp
theorem getD_in {l : List Int} {i : Nat} (h : i < l.length) : l.getD i 0 ∈ l := by
  rw [List.getD_eq_getElem?_getD, List.getElem?_eq_getElem h]
  exact List.getElem_mem h

/-- The first k of a row are fine. -/
def Upto (n : Nat) (l : List Int) (k : Nat) : Prop := ∀ j, j < k → (0 ≤ l.getD j 0 ∧ l.getD j 0 < n) ∧ ∀ i, i < j → l.getD i 0 ≠ l.getD j 0
theorem upto_row {n : Nat} {l : List Int} : Upto n l l.length ↔ RowOK n l := by
  constructor
  · intro h
    refine ⟨fun x hx => ?_, ?_⟩
    · obtain ⟨i, hi, rfl⟩ := List.getElem_of_mem hx
      have := (h i hi).1
      rwa [List.getD_eq_getElem?_getD, List.getElem?_eq_getElem hi] at this
    · rw [List.nodup_iff_pairwise_ne, List.pairwise_iff_getElem]
      intro i j hi hj hij
      have := (h j hj).2 i hij
      rwa [List.getD_eq_getElem?_getD, List.getD_eq_getElem?_getD, List.getElem?_eq_getElem hi, List.getElem?_eq_getElem hj] at this
  · rintro ⟨h1, h2⟩ j hj
    refine ⟨h1 _ (getD_in hj), fun i hi => ?_⟩
    rw [List.nodup_iff_pairwise_ne, List.pairwise_iff_getElem] at h2
    have := h2 i j (by omega) hj hi
    rwa [List.getD_eq_getElem?_getD, List.getD_eq_getElem?_getD, List.getElem?_eq_getElem (by omega : i < l.length), List.getElem?_eq_getElem hj]

/-- What has been marked, of the first k of a row. -/
def seenB (l : List Int) (k j : Nat) : Bool := (l.take k).contains (j : Int)
theorem seenB_iff {l : List Int} {k j : Nat} (hk : k ≤ l.length) : seenB l k j = true ↔ ∃ i, i < k ∧ l.getD i 0 = (j : Int) := by
  unfold seenB
  rw [List.contains_iff_mem, List.mem_iff_getElem]
  constructor
  · rintro ⟨i, hi, e⟩
    simp at hi e
    exact ⟨i, by omega, by rw [List.getD_eq_getElem?_getD, List.getElem?_eq_getElem (by omega), ← e]; rfl⟩
  · rintro ⟨i, hi, e⟩
    refine ⟨i, by simp; omega, ?_⟩
    rw [List.getD_eq_getElem?_getD, List.getElem?_eq_getElem (by omega)] at e
    simpa using e

theorem right_spec (to : List (List Int)) (hf : Fit to) : Pure PG 18 [gv to] (vb (decide (GOK to))) [] := by
  refine Proc.mk (cfg 51) tysOK [] Try.func18 rfl (by kernel_rfl) rfl rfl rfl ?_
  intro C x
  refine x.scope rfl trivial Ret.noGoto ?_
  refine x.cond rfl trivial (fun h => ?_) (fun h => ?_)
  · refine x.exit rfl trivial ?_
    refine ⟨.inr rfl, ?_, trivial, rfl⟩
    show false = decide (GOK to)
    simp only [Bool.or_eq_true, decide_eq_true_eq] at h
    exact (decide_eq_false (by unfold GOK; omega)).symm
  simp only [Bool.or_eq_false_iff, decide_eq_false_iff_not] at h
  refine x.loop (α := { i : Nat // i ≤ to.length ∧ ∀ j, j < i → RowOK to.length (to.getD j []) }) (fun y => ⟨[(0, gv to), (16, gv to), (17, vi (to.length : Int)), (18, vi (y.1 : Int))], [], 0⟩) (fun y => to.length - y.1) ⟨0, by omega, fun j hj => by omega⟩ rfl trivial ?_ (fun y => ?_)
  · exact ⟨⟨⟨rfl, fun _ => rfl, fun _ _ => rfl⟩, ⟨rfl, fun _ => rfl, fun _ _ => rfl⟩, rfl, rfl, trivial⟩, trivial, rfl⟩
  obtain ⟨i, hi, hrows⟩ := y
  change Go C _ ⟨[(0, gv to), (16, gv to), (17, vi (to.length : Int)), (18, vi (i : Int))], [], 0⟩ _
  refine x.cond rfl trivial (fun h1 => ?_) (fun h1 => ?_)
  · have hlt : i < to.length := by simpa using h1
    have hl := fit_row hf i
    obtain ⟨l, hrow⟩ : ∃ l, to.getD i [] = l := ⟨_, rfl⟩
    rw [hrow] at hl
    have hmem : l ∈ to := hrow ▸ getD_mem hlt
    refine x.loop (α := { k : Nat // k ≤ l.length ∧ Upto to.length l k ∧ (k = l.length → l = []) }) (fun y => ⟨[(0, gv to), (16, gv to), (17, vi (to.length : Int)), (18, vi (i : Int)), (4, iv l), (22, iv l), (23, vi (l.length : Int)), (24, vi (y.1 : Int)), (5, .ptr 0 0)], [(0, .arr 1 256 fun j => [.bool (seenB l y.1 j)])], 1⟩) (fun y => l.length - y.1) ⟨0, by omega, fun j hj => by omega, fun e => List.length_eq_zero_iff.1 e.symm⟩ rfl ?_ ?_ (fun y => ?_)
    · show _ ∧ _; omega
    · refine ⟨⟨veq_d rfl, veq_d rfl, rfl, rfl, veq_d (congrArg dInts hrow), veq_d (congrArg dInts hrow), ?_, rfl, ⟨rfl, rfl⟩, trivial⟩, ⟨⟨rfl, rfl, fun j hj => rfl⟩, trivial⟩, rfl⟩
      show ((to.getD i []).length : Int) = l.length
      rw [hrow]
    obtain ⟨k, hk, hup, hkl⟩ := y
    change Go C _ ⟨[(0, gv to), (16, gv to), (17, vi (to.length : Int)), (18, vi (i : Int)), (4, iv l), (22, iv l), (23, vi (l.length : Int)), (24, vi (k : Int)), (5, .ptr 0 0)], [(0, .arr 1 256 fun j => [.bool (seenB l k j)])], 1⟩ _
    have next : RowOK to.length l → ∀ j, j < i + 1 → RowOK to.length (to.getD j []) := fun hr j hj => by
      rcases Nat.lt_or_ge j i with h2 | h2
      · exact hrows j h2
      · obtain rfl : j = i := by omega
        rw [hrow]
        exact hr
    refine x.cond rfl trivial (fun h2 => ?_) (fun h2 => ?_)
    · have hlk : k < l.length := by simpa using h2
      have hkI : ((k : Int)).toNat = k := Int.toNat_natCast k
      refine x.cond rfl ?_ (fun h3 => ?_) (fun h3 => ?_)
      · simp only [AllP, Bool.or_eq_false_iff, decide_eq_false_iff_not, hkI]
        refine ⟨by omega, fun h => ?_, fun h => ?_⟩
        · show _ ∧ _ < (256 : Int); omega
        · omega
      · refine x.exit rfl trivial ?_
        refine ⟨.inr rfl, ?_, trivial, rfl⟩
        show false = decide (GOK to)
        refine (decide_eq_false fun hg => ?_).symm
        have hr := upto_row.2 (hg.2.2 l hmem) k hlk
        rw [hkI] at h3
        simp only [Bool.or_eq_true, decide_eq_true_eq] at h3
        rcases h3 with (h3 | h3) | h3
        · omega
        · omega
        · obtain ⟨m, hm, e⟩ := (seenB_iff hk).1 h3
          exact hr.2 m hm (by omega)
      · have hok : Upto to.length l (k + 1) := fun j hj => by
          rcases Nat.lt_or_ge j k with h5 | h5
          · exact hup j h5
          · obtain rfl : j = k := by omega
            rw [hkI] at h3
            simp only [Bool.or_eq_false_iff, decide_eq_false_iff_not] at h3
            refine ⟨by omega, fun m hm e => ?_⟩
            have := (seenB_iff hk).2 ⟨m, hm, (by omega : l.getD m 0 = ((l.getD j 0).toNat : Int))⟩
            rw [this] at h3
            exact absurd h3.2 (by simp)
        have hx := hok k (by omega)
        refine x.cond rfl ?_ (fun h4 => ?_) (fun h4 => ?_)
        · show inI64 _; unfold inI64; omega
        · have h4' : k + 1 = l.length := by
            simp only [decide_eq_true_eq] at h4
            omega
          rw [h4'] at hok
          refine x.back rfl (show inI64 _ by unfold inI64; omega) ⟨⟨i + 1, by omega, next (upto_row.1 hok)⟩, by show to.length - (i + 1) < to.length - i; omega, ⟨veq_d rfl, veq_d rfl, rfl, rfl, trivial⟩, trivial, rfl⟩
        · have h4' : ¬ k + 1 = l.length := by
            simp only [decide_eq_false_iff_not] at h4
            omega
          refine x.back rfl ?_ ⟨⟨k + 1, by omega, hok, fun e => absurd e h4'⟩, by show l.length - (k + 1) < l.length - k; omega, ⟨veq_d rfl, veq_d rfl, rfl, rfl, veq_d rfl, veq_d rfl, rfl, rfl, ⟨rfl, rfl⟩, trivial⟩, ⟨⟨rfl, rfl, fun j hj => ?_⟩, trivial⟩, rfl⟩
          · simp only [AllP, hkI, List.length, inI64]
            refine ⟨?_, ?_, by omega⟩
            · show _ ∧ _ < (256 : Int); omega
            · omega
          · rw [put2_bool]
            show [D.bool (if j = (l.getD (k : Int).toNat 0).toNat then true else seenB l k j)] = [D.bool (seenB l (k + 1) j)]
            rw [hkI]
            congr 2
            rw [Bool.eq_iff_iff, seenB_iff (by omega)]
            by_cases hj : j = (l.getD k 0).toNat
            · rw [if_pos hj]
              exact ⟨fun _ => ⟨k, by omega, by omega⟩, fun _ => rfl⟩
            · rw [if_neg hj, seenB_iff hk]
              constructor
              · rintro ⟨m, hm, e⟩; exact ⟨m, by omega, e⟩
              · rintro ⟨m, hm, e⟩
                refine ⟨m, ?_, e⟩
                rcases Nat.lt_or_ge m k with h6 | h6
                · exact h6
                · obtain rfl : m = k := by omega
                  exact absurd (by omega) hj
    · have hlk : l = [] := hkl (by have : ¬ (k : Int) < l.length := by simpa using h2
                                   omega)
      have hr : RowOK to.length l := by rw [hlk]; exact ⟨fun x hx => (by cases hx), List.nodup_nil⟩
      refine x.back rfl (show inI64 _ by unfold inI64; omega) ⟨⟨i + 1, by omega, next hr⟩, by show to.length - (i + 1) < to.length - i; omega, ⟨veq_d rfl, veq_d rfl, rfl, rfl, trivial⟩, trivial, rfl⟩
  · refine x.exit rfl trivial ?_
    refine ⟨.inr rfl, ?_, trivial, rfl⟩
    show true = decide (GOK to)
    have hi' : i = to.length := by have : ¬ (i : Int) < to.length := by simpa using h1
                                   omega
    refine (decide_eq_true ⟨by omega, by omega, fun l hl => ?_⟩).symm
    obtain ⟨j, hj, rfl⟩ := List.getElem_of_mem hl
    have := hrows j (by omega)
    rwa [List.getD_eq_getElem?_getD, List.getElem?_eq_getElem hj] at this
end Go.Proofs.Ytdgopbgckdnncaa
