/- Texts put together: TTy, T10A, T10B, T10C, T10D, T10E, T10F, T10H, T10I, T10V, T10P, T10M, T10N, T10W, T10Y. -/
import Derived.Test.YtniojnnbenkbpaaSxE
import Derived.Test.YtniojnnbenkbpaaProg
import Derived.Lib.DecodeN

/- The types that the program uses, as the engine Sx takes them; the program, and the tables of its library that it reads. -/
namespace Go.Proofs.Ytniojnnbenkbpaa
open Go.Sx
noncomputable def PG : Pg := ⟨Try.prog, []⟩
theorem ty_0 : TI.OK Try.prog 2 ⟨.int .i64, 1, 8, [.d (.int .i64 0)]⟩ := TI.mk' (z := .int .i64 0) Try.underlying2 (by kernel_rfl) rfl ⟨rfl, trivial⟩
theorem ty_1 : TI.OK Try.prog 3 ⟨.int .i64, 1, 8, [.d (.int .i64 0)]⟩ := TI.mk' (z := .int .i64 0) Try.underlying3 (by kernel_rfl) rfl ⟨rfl, trivial⟩
theorem ty_2 : TI.OK Try.prog 4 ⟨.bool, 1, 1, [.d (.bool false)]⟩ := TI.mk' (z := .bool false) Try.underlying4 (by kernel_rfl) rfl ⟨rfl, trivial⟩
theorem ty_3 : TI.OK Try.prog 5 ⟨.int .u8, 1, 1, [.d (.int .u8 0)]⟩ := TI.mk' (z := .int .u8 0) Try.underlying5 (by kernel_rfl) rfl ⟨rfl, trivial⟩
theorem ty_4 : TI.OK Try.prog 9 ⟨.str, 1, 16, [.d (.str .empty)]⟩ := TI.mk' (z := .string .empty) Try.underlying9 (by kernel_rfl) rfl ⟨rfl, trivial⟩
theorem ty_5 : TI.OK Try.prog 21 ⟨.int .i32, 1, 4, [.d (.int .i32 0)]⟩ := TI.mk' (z := .int .i32 0) Try.underlying21 (by kernel_rfl) rfl ⟨rfl, trivial⟩
theorem ty_9 : TI.OK Try.prog 24 ⟨.slice 3, 1, 24, [.nils]⟩ := TI.mk' (z := .slice none 0 0) Try.underlying24 (by kernel_rfl) rfl ⟨rfl, trivial⟩
theorem ty_10 : TI.OK Try.prog 22 ⟨.slice 24, 1, 24, [.nils]⟩ := TI.mk' (z := .slice none 0 0) Try.underlying22 (by kernel_rfl) rfl ⟨rfl, trivial⟩
theorem ty_11 : TI.OK Try.prog 35 ⟨.slice 4, 1, 24, [.nils]⟩ := TI.mk' (z := .slice none 0 0) Try.underlying35 (by kernel_rfl) rfl ⟨rfl, trivial⟩
theorem ty_15 : TI.OK Try.prog 37 ⟨.slice 35, 1, 24, [.nils]⟩ := TI.mk' (z := .slice none 0 0) Try.underlying37 (by kernel_rfl) rfl ⟨rfl, trivial⟩
theorem ty_16 : TI.OK Try.prog 40 ⟨.array 256 4, 256, 256, [.d (.bool false)]⟩ := TI.mk' (z := .agg (List.replicate 256 [Value.bool false]).flatten.toArray) Try.underlying40 (by kernel_rfl) (by kernel_rfl) (all2_rep (us := [.d (.bool false)]) (cs := [.bool false]) ⟨rfl, trivial⟩ 256)
theorem ty_17 : TI.OK Try.prog 42 ⟨.other, 1, 8, [.dead]⟩ := TI.mk' (z := .nilFunc) ⟨_, Try.underlying42, trivial⟩ (by kernel_rfl) rfl ⟨rfl, trivial⟩
def tys : List (Nat × TI) :=
  (2, ⟨.int .i64, 1, 8, [.d (.int .i64 0)]⟩) ::
  (3, ⟨.int .i64, 1, 8, [.d (.int .i64 0)]⟩) ::
  (4, ⟨.bool, 1, 1, [.d (.bool false)]⟩) ::
  (5, ⟨.int .u8, 1, 1, [.d (.int .u8 0)]⟩) ::
  (9, ⟨.str, 1, 16, [.d (.str .empty)]⟩) ::
  (21, ⟨.int .i32, 1, 4, [.d (.int .i32 0)]⟩) ::
  (24, ⟨.slice 3, 1, 24, [.nils]⟩) ::
  (22, ⟨.slice 24, 1, 24, [.nils]⟩) ::
  (35, ⟨.slice 4, 1, 24, [.nils]⟩) ::
  (37, ⟨.slice 35, 1, 24, [.nils]⟩) ::
  (40, ⟨.array 256 4, 256, 256, [.d (.bool false)]⟩) ::
  (42, ⟨.other, 1, 8, [.dead]⟩) ::
  []
theorem tysOK : TysOK Try.prog tys :=
  And.intro ty_0 <|
  And.intro ty_1 <|
  And.intro ty_2 <|
  And.intro ty_3 <|
  And.intro ty_4 <|
  And.intro ty_5 <|
  And.intro ty_9 <|
  And.intro ty_10 <|
  And.intro ty_11 <|
  And.intro ty_15 <|
  And.intro ty_16 <|
  And.intro ty_17 <|
  trivial
theorem mixedP : Try.prog.follows .mixedOrders = true := by kernel_rfl
def cfg (n : Nat) : Cfg := ⟨n, 0, true, tys⟩
def cfgF (n fix : Nat) : Cfg := ⟨n, fix, true, tys⟩
end Go.Proofs.Ytniojnnbenkbpaa

/- graph.Right: may a graph be? -/
namespace Go.Proofs.Ytniojnnbenkbpaa
open Go.Sx
set_option linter.unusedVariables false
set_option linter.unusedSimpArgs false
set_option maxRecDepth 100000

/-- A row that leads to nodes below n, each once. -/
def RowOK (n : Nat) (l : List Int) : Prop := (∀ x ∈ l, 0 ≤ x ∧ x < n) ∧ l.Nodup
def GOK (to : List (List Int)) : Prop := 1 ≤ to.length ∧ to.length ≤ 256 ∧ ∀ l ∈ to, RowOK to.length l
instance (n : Nat) (l : List Int) : Decidable (RowOK n l) := by unfold RowOK; exact inferInstance
instance (to : List (List Int)) : Decidable (GOK to) := by unfold GOK; exact inferInstance

abbrev gv (to : List (List Int)) : V := .d (dRows to)
abbrev iv (l : List Int) : V := .d (dInts l)
/-- Lengths that fit. -/
def Fit (to : List (List Int)) : Prop := to.length ≤ 9223372036854775807 ∧ ∀ l ∈ to, l.length ≤ 9223372036854775807

theorem getD_mem {to : List (List Int)} {i : Nat} (h : i < to.length) : to.getD i [] ∈ to := by
  rw [List.getD_eq_getElem?_getD, List.getElem?_eq_getElem h]
  exact List.getElem_mem h
theorem fit_row {to : List (List Int)} (h : Fit to) (i : Nat) : (to.getD i []).length ≤ 9223372036854775807 := by
  by_cases hi : i < to.length
  · exact h.2 _ (getD_mem hi)
  · rw [List.getD_eq_getElem?_getD, List.getElem?_eq_none (by omega)]
    simp
theorem getD_in {l : List Int} {i : Nat} (h : i < l.length) : l.getD i 0 ∈ l := by
  rw [List.getD_eq_getElem?_getD, List.getElem?_eq_getElem h]
  exact List.getElem_mem h

/-- The first k of a row are fine. -/
def Upto (n : Nat) (l : List Int) (k : Nat) : Prop := ∀ j, j < k → (0 ≤ l.getD j 0 ∧ l.getD j 0 < n) ∧ ∀ i, i < j → l.getD i 0 ≠ l.getD j 0
theorem upto_row {n : Nat} {l : List Int} : Upto n l l.length ↔ RowOK n l := by
  constructor
  · intro h
    refine ⟨fun x hx => ?_, ?_⟩
    · obtain ⟨i, hi, rfl⟩ := List.getElem_of_mem hx
      have := (h i hi).1
      rwa [List.getD_eq_getElem?_getD, List.getElem?_eq_getElem hi] at this
    · rw [List.nodup_iff_pairwise_ne, List.pairwise_iff_getElem]
      intro i j hi hj hij
      have := (h j hj).2 i hij
      rwa [List.getD_eq_getElem?_getD, List.getD_eq_getElem?_getD, List.getElem?_eq_getElem hi, List.getElem?_eq_getElem hj] at this
  · rintro ⟨h1, h2⟩ j hj
    refine ⟨h1 _ (getD_in hj), fun i hi => ?_⟩
    rw [List.nodup_iff_pairwise_ne, List.pairwise_iff_getElem] at h2
    have := h2 i j (by omega) hj hi
    rwa [List.getD_eq_getElem?_getD, List.getD_eq_getElem?_getD, List.getElem?_eq_getElem (by omega : i < l.length), List.getElem?_eq_getElem hj]

/-- What has been marked, of the first k of a row. -/
def seenB (l : List Int) (k j : Nat) : Bool := (l.take k).contains (j : Int)
theorem seenB_iff {l : List Int} {k j : Nat} (hk : k ≤ l.length) : seenB l k j = true ↔ ∃ i, i < k ∧ l.getD i 0 = (j : Int) := by
  unfold seenB
  rw [List.contains_iff_mem, List.mem_iff_getElem]
  constructor
  · rintro ⟨i, hi, e⟩
    simp at hi e
    exact ⟨i, by omega, by rw [List.getD_eq_getElem?_getD, List.getElem?_eq_getElem (by omega), ← e]; rfl⟩
  · rintro ⟨i, hi, e⟩
    refine ⟨i, by simp; omega, ?_⟩
    rw [List.getD_eq_getElem?_getD, List.getElem?_eq_getElem (by omega)] at e
    simpa using e

theorem right_spec (to : List (List Int)) (hf : Fit to) : Pure PG 21 [gv to] (vb (decide (GOK to))) [] := by
  refine Proc.mk (cfg 51) tysOK [] Try.func21 rfl (by kernel_rfl) rfl rfl rfl ?_
  intro C x
  refine x.scope rfl trivial Ret.noGoto ?_
  refine x.cond rfl trivial (fun h => ?_) (fun h => ?_)
  · refine x.exit rfl trivial ?_
    refine ⟨.inr rfl, ?_, trivial, rfl⟩
    show false = decide (GOK to)
    simp only [Bool.or_eq_true, decide_eq_true_eq] at h
    exact (decide_eq_false (by unfold GOK; omega)).symm
  simp only [Bool.or_eq_false_iff, decide_eq_false_iff_not] at h
  refine x.loop (α := { i : Nat // i ≤ to.length ∧ ∀ j, j < i → RowOK to.length (to.getD j []) }) (fun y => ⟨[(0, gv to), (16, gv to), (17, vi (to.length : Int)), (18, vi (y.1 : Int))], [], 0⟩) (fun y => to.length - y.1) ⟨0, by omega, fun j hj => by omega⟩ rfl trivial ?_ (fun y => ?_)
  · exact ⟨⟨⟨rfl, fun _ => rfl, fun _ _ => rfl⟩, ⟨rfl, fun _ => rfl, fun _ _ => rfl⟩, rfl, rfl, trivial⟩, trivial, rfl⟩
  obtain ⟨i, hi, hrows⟩ := y
  change Go C _ ⟨[(0, gv to), (16, gv to), (17, vi (to.length : Int)), (18, vi (i : Int))], [], 0⟩ _
  refine x.cond rfl trivial (fun h1 => ?_) (fun h1 => ?_)
  · have hlt : i < to.length := by simpa using h1
    have hl := fit_row hf i
    obtain ⟨l, hrow⟩ : ∃ l, to.getD i [] = l := ⟨_, rfl⟩
    rw [hrow] at hl
    have hmem : l ∈ to := hrow ▸ getD_mem hlt
    refine x.loop (α := { k : Nat // k ≤ l.length ∧ Upto to.length l k ∧ (k = l.length → l = []) }) (fun y => ⟨[(0, gv to), (16, gv to), (17, vi (to.length : Int)), (18, vi (i : Int)), (4, iv l), (22, iv l), (23, vi (l.length : Int)), (24, vi (y.1 : Int)), (5, .ptr 0 0)], [(0, .arr 1 256 fun j => [.bool (seenB l y.1 j)])], 1⟩) (fun y => l.length - y.1) ⟨0, by omega, fun j hj => by omega, fun e => List.length_eq_zero_iff.1 e.symm⟩ rfl ?_ ?_ (fun y => ?_)
    · show _ ∧ _; omega
    · refine ⟨⟨veq_d rfl, veq_d rfl, rfl, rfl, veq_d (congrArg dInts hrow), veq_d (congrArg dInts hrow), ?_, rfl, ⟨rfl, rfl⟩, trivial⟩, ⟨⟨rfl, rfl, fun j hj => rfl⟩, trivial⟩, rfl⟩
      show ((to.getD i []).length : Int) = l.length
      rw [hrow]
    obtain ⟨k, hk, hup, hkl⟩ := y
    change Go C _ ⟨[(0, gv to), (16, gv to), (17, vi (to.length : Int)), (18, vi (i : Int)), (4, iv l), (22, iv l), (23, vi (l.length : Int)), (24, vi (k : Int)), (5, .ptr 0 0)], [(0, .arr 1 256 fun j => [.bool (seenB l k j)])], 1⟩ _
    have next : RowOK to.length l → ∀ j, j < i + 1 → RowOK to.length (to.getD j []) := fun hr j hj => by
      rcases Nat.lt_or_ge j i with h2 | h2
      · exact hrows j h2
      · obtain rfl : j = i := by omega
        rw [hrow]
        exact hr
    refine x.cond rfl trivial (fun h2 => ?_) (fun h2 => ?_)
    · have hlk : k < l.length := by simpa using h2
      have hkI : ((k : Int)).toNat = k := Int.toNat_natCast k
      refine x.cond rfl ?_ (fun h3 => ?_) (fun h3 => ?_)
      · simp only [AllP, Bool.or_eq_false_iff, decide_eq_false_iff_not, hkI]
        refine ⟨by omega, fun h => ?_, fun h => ?_⟩
        · show _ ∧ _ < (256 : Int); omega
        · omega
      · refine x.exit rfl trivial ?_
        refine ⟨.inr rfl, ?_, trivial, rfl⟩
        show false = decide (GOK to)
        refine (decide_eq_false fun hg => ?_).symm
        have hr := upto_row.2 (hg.2.2 l hmem) k hlk
        rw [hkI] at h3
        simp only [Bool.or_eq_true, decide_eq_true_eq] at h3
        rcases h3 with (h3 | h3) | h3
        · omega
        · omega
        · obtain ⟨m, hm, e⟩ := (seenB_iff hk).1 h3
          exact hr.2 m hm (by omega)
      · have hok : Upto to.length l (k + 1) := fun j hj => by
          rcases Nat.lt_or_ge j k with h5 | h5
          · exact hup j h5
          · obtain rfl : j = k := by omega
            rw [hkI] at h3
            simp only [Bool.or_eq_false_iff, decide_eq_false_iff_not] at h3
            refine ⟨by omega, fun m hm e => ?_⟩
            have := (seenB_iff hk).2 ⟨m, hm, (by omega : l.getD m 0 = ((l.getD j 0).toNat : Int))⟩
            rw [this] at h3
            exact absurd h3.2 (by simp)
        have hx := hok k (by omega)
        refine x.cond rfl ?_ (fun h4 => ?_) (fun h4 => ?_)
        · show inI64 _; unfold inI64; omega
        · have h4' : k + 1 = l.length := by
            simp only [decide_eq_true_eq] at h4
            omega
          rw [h4'] at hok
          refine x.back rfl (show inI64 _ by unfold inI64; omega) ⟨⟨i + 1, by omega, next (upto_row.1 hok)⟩, by show to.length - (i + 1) < to.length - i; omega, ⟨veq_d rfl, veq_d rfl, rfl, rfl, trivial⟩, trivial, rfl⟩
        · have h4' : ¬ k + 1 = l.length := by
            simp only [decide_eq_false_iff_not] at h4
            omega
          refine x.back rfl ?_ ⟨⟨k + 1, by omega, hok, fun e => absurd e h4'⟩, by show l.length - (k + 1) < l.length - k; omega, ⟨veq_d rfl, veq_d rfl, rfl, rfl, veq_d rfl, veq_d rfl, rfl, rfl, ⟨rfl, rfl⟩, trivial⟩, ⟨⟨rfl, rfl, fun j hj => ?_⟩, trivial⟩, rfl⟩
          · simp only [AllP, hkI, List.length, inI64]
            refine ⟨?_, ?_, by omega⟩
            · show _ ∧ _ < (256 : Int); omega
            · omega
          · rw [put2_bool]
            show [D.bool (if j = (l.getD (k : Int).toNat 0).toNat then true else seenB l k j)] = [D.bool (seenB l (k + 1) j)]
            rw [hkI]
            congr 2
            rw [Bool.eq_iff_iff, seenB_iff (by omega)]
            by_cases hj : j = (l.getD k 0).toNat
            · rw [if_pos hj]
              exact ⟨fun _ => ⟨k, by omega, by omega⟩, fun _ => rfl⟩
            · rw [if_neg hj, seenB_iff hk]
              constructor
              · rintro ⟨m, hm, e⟩; exact ⟨m, by omega, e⟩
              · rintro ⟨m, hm, e⟩
                refine ⟨m, ?_, e⟩
                rcases Nat.lt_or_ge m k with h6 | h6
                · exact h6
                · obtain rfl : m = k := by omega
                  exact absurd (by omega) hj
    · have hlk : l = [] := hkl (by have : ¬ (k : Int) < l.length := by simpa using h2
                                   omega)
      have hr : RowOK to.length l := by rw [hlk]; exact ⟨fun x hx => (by cases hx), List.nodup_nil⟩
      refine x.back rfl (show inI64 _ by unfold inI64; omega) ⟨⟨i + 1, by omega, next hr⟩, by show to.length - (i + 1) < to.length - i; omega, ⟨veq_d rfl, veq_d rfl, rfl, rfl, trivial⟩, trivial, rfl⟩
  · refine x.exit rfl trivial ?_
    refine ⟨.inr rfl, ?_, trivial, rfl⟩
    show true = decide (GOK to)
    have hi' : i = to.length := by have : ¬ (i : Int) < to.length := by simpa using h1
                                   omega
    refine (decide_eq_true ⟨by omega, by omega, fun l hl => ?_⟩).symm
    obtain ⟨j, hj, rfl⟩ := List.getElem_of_mem hl
    have := hrows j (by omega)
    rwa [List.getD_eq_getElem?_getD, List.getElem?_eq_getElem hj] at this

def dBools (n : Nat) (b : Nat → Bool) : D := .sl 1 n fun j => [.bool (b j)]
theorem fit_of {to : List (List Int)} (h : to.length ≤ maxLen ∧ to.length * 24 ≤ reachBytes) (z : ∀ l ∈ to, (l.length ≤ maxLen ∧ l.length * 8 ≤ reachBytes) ∧ ∀ y ∈ l, (Lit.int .i64 y).wf = true) : Fit to := ⟨h.1, fun l hl => (z l hl).1.1⟩
theorem size_of {to : List (List Int)} (z : ∀ l ∈ to, (l.length ≤ maxLen ∧ l.length * 8 ≤ reachBytes) ∧ ∀ y ∈ l, (Lit.int .i64 y).wf = true) : ∀ l ∈ to, l.length * 8 ≤ big := fun l hl => by
  have h1 := (z l hl).1.2
  have h2 := reachBytes_lt
  unfold big
  omega
end Go.Proofs.Ytniojnnbenkbpaa

/- Nodes told when they are left: the law, and the answer's own way. -/
namespace Go.Proofs.Ytniojnnbenkbpaa
open Go.Sx
set_option linter.unusedVariables false
set_option linter.unusedSimpArgs false
set_option maxRecDepth 100000


def setB (b : Nat → Bool) (i : Nat) : Nat → Bool := fun j => if j = i then true else b j
abbrev DS := (Nat → Bool) × List Int
def visit (to : List (List Int)) : Nat → Nat → DS → DS
  | 0, _, st => st
  | fu + 1, i, st =>
    let st1 := (to.getD i []).foldl (fun st k => if st.1 k.toNat then st else visit to fu k.toNat st) (setB st.1 i, st.2)
    (st1.1, st1.2 ++ [(i : Int)])
def stepV (to : List (List Int)) (fu : Nat) (st : DS) (k : Int) : DS := if st.1 k.toNat then st else visit to fu k.toNat st
def foldV (to : List (List Int)) (fu i : Nat) (st : DS) (k : Nat) : DS := ((to.getD i []).take k).foldl (stepV to fu) (setB st.1 i, st.2)
theorem visit_eq (to : List (List Int)) (fu i : Nat) (st : DS) : visit to (fu + 1) i st = ((foldV to fu i st (to.getD i []).length).1, (foldV to fu i st (to.getD i []).length).2 ++ [(i : Int)]) := by
  unfold foldV
  rw [List.take_length]
  rfl
theorem foldV_zero (to : List (List Int)) (fu i : Nat) (st : DS) : foldV to fu i st 0 = (setB st.1 i, st.2) := rfl
theorem getD_at {l : List Int} {k : Nat} (h : k < l.length) : l[k] = l.getD k 0 := by
  rw [List.getD_eq_getElem?_getD, List.getElem?_eq_getElem h]; rfl
theorem foldV_succ (to : List (List Int)) (fu i : Nat) (st : DS) {k : Nat} (hk : k < (to.getD i []).length) : foldV to fu i st (k + 1) = stepV to fu (foldV to fu i st k) ((to.getD i []).getD k 0) := by
  unfold foldV
  rw [List.take_succ_eq_append_getElem hk, List.foldl_append]
  simp only [List.foldl_cons, List.foldl_nil]
  congr 1
  exact getD_at hk

def LeB (a b : Nat → Bool) : Prop := ∀ j, a j = true → b j = true
theorem LeB.refl (a : Nat → Bool) : LeB a a := fun _ h => h
theorem LeB.trans {a b c : Nat → Bool} (h1 : LeB a b) (h2 : LeB b c) : LeB a c := fun j h => h2 j (h1 j h)
theorem leB_set (b : Nat → Bool) (i : Nat) : LeB b (setB b i) := fun j h => by unfold setB; split <;> first | rfl | exact h

/-- How many below n are not marked. -/
def freeN : Nat → (Nat → Bool) → Nat
  | 0, _ => 0
  | n + 1, b => (if b n then 0 else 1) + freeN n b
theorem freeN_le {a b : Nat → Bool} (h : LeB a b) (n : Nat) : freeN n b ≤ freeN n a := by
  induction n with
  | zero => exact Nat.le_refl _
  | succ n ih =>
    simp only [freeN]
    cases ha : a n with
    | true => rw [h n ha]; simp; exact ih
    | false => cases b n <;> simp <;> omega
theorem freeN_set {b : Nat → Bool} {n i : Nat} (hi : i < n) (hb : b i = false) : freeN n (setB b i) + 1 = freeN n b := by
  induction n with
  | zero => omega
  | succ n ih =>
    simp only [freeN]
    by_cases h : i = n
    · subst h
      have h0 : ∀ m, m ≤ i → freeN m (setB b i) = freeN m b := fun m hm => by
        induction m with
        | zero => rfl
        | succ m ih2 =>
          simp only [freeN]
          rw [ih2 (by omega)]
          have : setB b i m = b m := by unfold setB; rw [if_neg (by omega)]
          rw [this]
      rw [h0 i (Nat.le_refl _), hb]
      simp [setB]
      omega
    · have := ih (by omega)
      have h2 : setB b i n = b n := by unfold setB; rw [if_neg (fun e => h e.symm)]
      rw [h2]; omega
theorem freeN_pos {b : Nat → Bool} {n i : Nat} (hi : i < n) (hb : b i = false) : 0 < freeN n b := by
  have := freeN_set hi hb; omega
theorem freeN_no (n : Nat) : freeN n (fun _ => false) = n := by
  induction n with
  | zero => rfl
  | succ n ih => simp only [freeN, ih]; simp; omega

theorem visit_mono (to : List (List Int)) (fu : Nat) : ∀ (i : Nat) (st : DS), LeB st.1 (visit to fu i st).1 := by
  induction fu with
  | zero => exact fun i st => LeB.refl _
  | succ fu ih =>
    intro i st
    have step : ∀ k, k ≤ (to.getD i []).length → LeB (setB st.1 i) (foldV to fu i st k).1 := fun k => by
      induction k with
      | zero => exact fun _ => LeB.refl _
      | succ k ih2 =>
        intro hk
        refine (ih2 (by omega)).trans ?_
        rw [foldV_succ to fu i st (by omega)]
        unfold stepV
        split
        · exact LeB.refl _
        · exact ih _ _
    rw [visit_eq]
    exact (leB_set _ _).trans (step _ (Nat.le_refl _))
theorem stepV_mono (to : List (List Int)) (fu : Nat) (st : DS) (k : Int) : LeB st.1 (stepV to fu st k).1 := by
  unfold stepV
  split
  · exact LeB.refl _
  · exact visit_mono _ _ _ _
theorem foldV_mono (to : List (List Int)) (fu i : Nat) (st : DS) : ∀ k, k ≤ (to.getD i []).length → LeB (setB st.1 i) (foldV to fu i st k).1 := fun k => by
  induction k with
  | zero => exact fun _ => LeB.refl _
  | succ k ih2 =>
    intro hk
    refine (ih2 (by omega)).trans ?_
    rw [foldV_succ to fu i st (by omega)]
    exact stepV_mono _ _ _ _

theorem gok_row {to : List (List Int)} (hg : GOK to) {i : Nat} (hi : i < to.length) : RowOK to.length (to.getD i []) := hg.2.2 _ (getD_mem hi)
theorem gok_in {to : List (List Int)} (hg : GOK to) {i k : Nat} (hi : i < to.length) (hk : k < (to.getD i []).length) : 0 ≤ (to.getD i []).getD k 0 ∧ (to.getD i []).getD k 0 < to.length := (gok_row hg hi).1 _ (getD_in hk)

/-- What is told, and what is free, are no more than before. -/
theorem visit_sum {to : List (List Int)} (hg : GOK to) (fu : Nat) : ∀ (i : Nat) (st : DS), i < to.length → st.1 i = false → (visit to fu i st).2.length + freeN to.length (visit to fu i st).1 ≤ st.2.length + freeN to.length st.1 := by
  induction fu with
  | zero => exact fun i st _ _ => Nat.le_refl _
  | succ fu ih =>
    intro i st hi hb
    have step : ∀ k, k ≤ (to.getD i []).length → (foldV to fu i st k).2.length + freeN to.length (foldV to fu i st k).1 ≤ st.2.length + freeN to.length (setB st.1 i) := fun k => by
      induction k with
      | zero => exact fun _ => Nat.le_refl _
      | succ k ih2 =>
        intro hk
        have h1 := ih2 (by omega)
        rw [foldV_succ to fu i st (by omega)]
        unfold stepV
        split
        · exact h1
        · rename_i hno
          have h2 := gok_in hg hi (k := k) (by omega)
          exact Nat.le_trans (ih _ _ (by omega) (by simpa using hno)) h1
    rw [visit_eq]
    have h3 := step _ (Nat.le_refl _)
    have h4 := freeN_set hi hb
    simp only [List.length_append, List.length_singleton]
    omega
theorem foldV_sum {to : List (List Int)} (hg : GOK to) (fu : Nat) (i : Nat) (st : DS) (hi : i < to.length) : ∀ k, k ≤ (to.getD i []).length → (foldV to fu i st k).2.length + freeN to.length (foldV to fu i st k).1 ≤ st.2.length + freeN to.length (setB st.1 i) := fun k => by
  induction k with
  | zero => exact fun _ => Nat.le_refl _
  | succ k ih2 =>
    intro hk
    have h1 := ih2 (by omega)
    rw [foldV_succ to fu i st (by omega)]
    unfold stepV
    split
    · exact h1
    · rename_i hno
      have h2 := gok_in hg hi (k := k) (by omega)
      exact Nat.le_trans (visit_sum hg _ _ _ (by omega) (by simpa using hno)) h1

/-- A row is no longer than there are nodes. -/
theorem row_len {n : Nat} {l : List Int} (h : RowOK n l) : l.length ≤ n := by
  obtain ⟨h1, h2⟩ := h
  have h3 : (l.map Int.toNat).Nodup := by
    rw [List.nodup_iff_pairwise_ne, List.pairwise_map]
    rw [List.nodup_iff_pairwise_ne] at h2
    refine h2.imp_of_mem fun {a b} ha hb hne e => hne ?_
    have := h1 a ha
    have := h1 b hb
    omega
  have h4 : (l.map Int.toNat) ⊆ List.range n := fun y hy => by
    obtain ⟨z, hz, rfl⟩ := List.mem_map.1 hy
    have := h1 z hz
    exact List.mem_range.2 (by omega)
  have := h3.length_le_of_subset h4
  simpa using this

abbrev beenC (n : Nat) (b : Nat → Bool) : Ch := .vec 4 1 n fun j => [.bool (b j)]
abbrev outC (l : List Int) : Ch := .vec 3 1 l.length fun j => [.int .i64 (l.getD j 0)]

/-- In which order the nodes are told. -/
def post (to : List (List Int)) : List Int := (visit to (to.length + 1) 0 (fun _ => false, [])).2

end Go.Proofs.Ytniojnnbenkbpaa

/- graph.Order: the walk through a graph that tells what it leaves. -/
namespace Go.Proofs.Ytniojnnbenkbpaa
open Go.Sx
set_option linter.unusedVariables false
set_option linter.unusedSimpArgs false
set_option maxRecDepth 100000

/-! ### slices.Reverse, slices.Clip of ints -/
def revI (n i : Nat) (b : Nat → Int) : Nat → Int := fun k => if k < i ∨ n ≤ k + i then b (n - 1 - k) else b k

theorem reverseI_spec (n : Nat) (b : Nat → Int) (hn : n ≤ big) : Proc PG 45 1 [.own 0] [.vec 3 1 n fun k => [.int .i64 (b k)]] (.tup []) [.vec 3 1 n fun k => [.int .i64 (b (n - 1 - k))]] := by
  refine Proc.mk (cfgF 28 1) tysOK [0] Try.func45 rfl (by kernel_rfl) rfl rfl rfl ?_
  intro C x
  unfold big at hn
  refine x.loop (α := { i : Nat // 2 * i ≤ n + 1 }) (fun y => ⟨[(0, .own 0), (2, vi (y.1 : Int)), (3, vi ((n : Int) - 1 - (y.1 : Int)))], [(0, .vec 3 1 n fun k => [.int .i64 (revI n y.1 b k)])], 1⟩) (fun y => n - y.1) ⟨0, by omega⟩ rfl (show inI64 ((n : Int) - 1) by unfold inI64; omega) ?_ (fun y => ?_)
  · refine ⟨⟨rfl, rfl, ?_, trivial⟩, ⟨⟨rfl, rfl, rfl, fun i hi => ?_⟩, trivial⟩, rfl⟩
    · show (n : Int) - 1 = (n : Int) - 1 - 0; omega
    · show [D.int .i64 (b i)] = [D.int .i64 (revI n 0 b i)]
      rw [revI, if_neg (by omega)]
  obtain ⟨i, hi⟩ := y
  change Go C _ ⟨[(0, .own 0), (2, vi (i : Int)), (3, vi ((n : Int) - 1 - (i : Int)))], [(0, .vec 3 1 n fun k => [.int .i64 (revI n i b k)])], 1⟩ _
  refine x.cond rfl trivial (fun h => ?_) (fun h => ?_)
  · have h' : (i : Int) < (n : Int) - 1 - i := by simpa using h
    refine x.plan [0, 1, 2, 3, 4, 5, 8, 9] [6, 7, 10, 11, 12] [13, 14, 15] rfl trivial mixedP (by kernel_rfl) Ret.noPanic ?_
    refine x.qdone rfl ?_ ?_
    · simp only [AllP]; omega
    refine x.back rfl ?_ ?_
    · simp only [AllP, List.length, inI64]; omega
    refine ⟨⟨i + 1, by omega⟩, by show n - (i + 1) < n - i; omega, ⟨rfl, ?_, ?_, trivial⟩, ⟨⟨rfl, rfl, rfl, fun k hk => ?_⟩, trivial⟩, rfl⟩
    · show (i : Int) + 1 = ((i + 1 : Nat) : Int); omega
    · show (n : Int) - 1 - i - 1 = (n : Int) - 1 - ((i + 1 : Nat) : Int); omega
    · rw [put2_int, put2_int]
      show [D.int .i64 (if k = ((n : Int) - 1 - i).toNat then revI n i b (i : Int).toNat else if k = (i : Int).toNat then revI n i b ((n : Int) - 1 - i).toNat else revI n i b k)] = [D.int .i64 (revI n (i + 1) b k)]
      congr 2
      rw [show ((n : Int) - 1 - i).toNat = n - 1 - i by omega, show (i : Int).toNat = i by omega]
      have e1 : revI n i b i = b i := by rw [revI, if_neg (by omega)]
      have e2 : revI n i b (n - 1 - i) = b (n - 1 - i) := by rw [revI, if_neg (by omega)]
      rw [e1, e2]
      by_cases h1 : k = n - 1 - i
      · rw [if_pos h1, revI, if_pos (by omega), h1, show n - 1 - (n - 1 - i) = i by omega]
      · rw [if_neg h1]
        by_cases h2 : k = i
        · rw [if_pos h2, revI, if_pos (by omega), h2]
        · rw [if_neg h2, revI, revI]
          by_cases h3 : k < i ∨ n ≤ k + i
          · rw [if_pos h3, if_pos (by omega)]
          · rw [if_neg h3, if_neg (by omega)]
  · have h' : ¬ (i : Int) < (n : Int) - 1 - i := by simpa using h
    refine x.exit rfl trivial ?_
    refine ⟨.inl rfl, trivial, ⟨⟨rfl, rfl, rfl, fun k hk => ?_⟩, trivial⟩, rfl⟩
    show [D.int .i64 (revI n i b k)] = [D.int .i64 (b (n - 1 - k))]
    rw [revI]
    split
    · rfl
    · rw [show n - 1 - k = k by omega]

theorem clip_spec (l : List Int) (hl : l.length ≤ big) : Pure PG 34 [iv l] (iv l) [] := by
  refine Proc.mk (cfg 9) tysOK [] Try.func34 rfl (by kernel_rfl) rfl rfl rfl ?_
  intro C x
  unfold big at hl
  refine x.exit rfl ?_ ?_
  · simp only [AllP]; omega
  · exact ⟨.inr rfl, veq_d rfl, trivial, rfl⟩

/-! ### what the walk tells, noted down -/
theorem order1_spec (l : List Int) (i : Nat) (hl : l.length < 1000) : Proc PG 44 1 [vi (i : Int), .ptr 0 0] [.box [.own 1], outC l] (.tup []) [.box [.own 1], outC (l ++ [(i : Int)])] := by
  refine Proc.mk (cfgF 7 1) tysOK [0, 1] Try.func44 rfl (by kernel_rfl) rfl rfl rfl ?_
  intro C x
  refine x.exit rfl ?_ ?_
  · simp only [AllP, big]; omega
  · refine ⟨.inl rfl, trivial, ⟨⟨rfl, trivial⟩, ⟨rfl, rfl, ?_, fun j hj => app_list _ _ _ _ hj⟩, trivial⟩, rfl⟩
    show l.length + 1 = (l ++ [(i : Int)]).length
    simp
theorem reached1_spec (i : Nat) : Pure PG 31 [vi (i : Int)] (.tup []) [] := by
  refine Proc.mk (cfg 2) tysOK [] Try.func31 rfl (by kernel_rfl) rfl rfl rfl ?_
  intro C x
  refine x.exit rfl trivial ?_
  exact ⟨.inl rfl, trivial, trivial, rfl⟩
/-! ### the walk itself -/

abbrev tellO : V := .fn 44 [.ptr 5 0]
abbrev HO (to : List (List Int)) (st : DS) : List Ch := [.box [.own 4], .box [gv to], .box [.fn 41 [.ptr 0 0, .ptr 1 0, .ptr 2 0, .ptr 3 0]], .box [tellO], beenC to.length (st).1, .box [.own 6], outC (st).2]
def WalkO (to : List (List Int)) (fu : Nat) : Prop := ∀ (i : Nat) (st : DS), i < to.length → st.1 i = false → freeN to.length st.1 ≤ fu → st.2.length + freeN to.length st.1 ≤ to.length →
  Proc PG 41 6 [vi (i : Int), .ptr 0 0, .ptr 1 0, .ptr 2 0, .ptr 3 0] (HO to st) (.tup []) (HO to (visit to fu i st))
theorem walkO_spec {to : List (List Int)} (hg : GOK to) : ∀ fu, WalkO to fu := fun fu => by
  induction fu with
  | zero => exact fun i st hi hb hfu _ => absurd (freeN_pos hi hb) (by omega)
  | succ fu ih =>
  intro i st hi hb hfu hsum
  refine Proc.mk (cfgF 32 6) tysOK [0, 1, 2, 3, 4, 5, 6] Try.func41 rfl (by kernel_rfl) rfl rfl rfl ?_
  intro C x
  have hn := hg.2.1
  obtain ⟨row, hrow⟩ : ∃ l, to.getD i [] = l := ⟨_, rfl⟩
  have hro : RowOK to.length row := hrow ▸ gok_row hg hi
  have hrl : row.length ≤ 256 := Nat.le_trans (row_len hro) hn
  have hiI : ((i : Int)).toNat = i := Int.toNat_natCast i
  refine x.loop (α := { k : Nat // k ≤ row.length }) (fun y => ⟨[(0, vi (i : Int)), (1, .ptr 0 0), (2, .ptr 1 0), (3, .ptr 2 0), (4, .ptr 3 0), (14, iv row), (15, vi (row.length : Int)), (16, vi (y.1 : Int))], [(0, .box [.own 4]), (1, .box [gv to]), (2, .box [.fn 41 [.ptr 0 0, .ptr 1 0, .ptr 2 0, .ptr 3 0]]), (3, .box [tellO]), (4, beenC to.length (foldV to fu i st y.1).1), (5, .box [.own 6]), (6, outC (foldV to fu i st y.1).2)], 7⟩) (fun y => row.length - y.1) ⟨0, by omega⟩ rfl ?_ ?_ (fun y => ?_)
  · simp only [AllP, hiI, List.length]; omega
  · refine ⟨⟨rfl, ⟨rfl, rfl⟩, ⟨rfl, rfl⟩, ⟨rfl, rfl⟩, ⟨rfl, rfl⟩, veq_d ?_, ?_, rfl, trivial⟩, ⟨⟨rfl, trivial⟩, ⟨veq0_d rfl, trivial⟩, ⟨rfl, trivial⟩, ⟨rfl, trivial⟩, ⟨rfl, rfl, rfl, fun j hj => ?_⟩, ⟨rfl, trivial⟩, ⟨rfl, rfl, rfl, fun _ _ => rfl⟩, trivial⟩, rfl⟩
    · show dInts (to.getD i []) = _
      rw [hrow]
    · show ((to.getD i []).length : Int) = _
      rw [hrow]
    · rw [put2_bool]; rfl
  obtain ⟨k, hk⟩ := y
  change Go C _ ⟨[(0, vi (i : Int)), (1, .ptr 0 0), (2, .ptr 1 0), (3, .ptr 2 0), (4, .ptr 3 0), (14, iv row), (15, vi (row.length : Int)), (16, vi (k : Int))], [(0, .box [.own 4]), (1, .box [gv to]), (2, .box [.fn 41 [.ptr 0 0, .ptr 1 0, .ptr 2 0, .ptr 3 0]]), (3, .box [tellO]), (4, beenC to.length (foldV to fu i st k).1), (5, .box [.own 6]), (6, outC (foldV to fu i st k).2)], 7⟩ _
  obtain ⟨st2, hst2⟩ : ∃ st2, foldV to fu i st k = st2 := ⟨_, rfl⟩
  rw [hst2]
  have hs2 := foldV_sum hg fu i st hi k (by rw [hrow]; exact hk)
  have hm2 := freeN_le (foldV_mono to fu i st k (by rw [hrow]; exact hk)) to.length
  have hf2 := freeN_set hi hb
  rw [hst2] at hs2 hm2
  refine x.cond rfl trivial (fun h1 => ?_) (fun h1 => ?_)
  · have h1 : k < row.length := by have := of_decide_eq_true h1; omega
    have hin := hro.1 _ (getD_in h1)
    refine x.cond rfl ?_ (fun h2 => ?_) (fun h2 => ?_)
    · simp only [AllP]
      simp only [show ((k : Int)).toNat = k from rfl]
      omega
    · have hfree : st2.1 (row.getD k 0).toNat = false := by
        have : (!st2.1 (row.getD k 0).toNat) = true := h2
        simpa using this
      refine x.call [0, 1, 2, 3, 4, 5, 6] rfl trivial rfl (ih (row.getD k 0).toNat st2 (by omega) hfree (by omega) (by omega)) rfl ?_ ?_ ?_
      · refine ⟨?_, ⟨rfl, rfl⟩, ⟨rfl, rfl⟩, ⟨rfl, rfl⟩, ⟨rfl, rfl⟩, trivial⟩
        show row.getD k 0 = (((row.getD k 0).toNat : Nat) : Int)
        omega
      · exact ⟨⟨rfl, trivial⟩, ⟨veq0_d rfl, trivial⟩, ⟨rfl, trivial⟩, ⟨rfl, trivial⟩, ⟨rfl, rfl, rfl, fun _ _ => rfl⟩, ⟨rfl, trivial⟩, ⟨rfl, rfl, rfl, fun _ _ => rfl⟩, trivial⟩
      · refine x.back rfl (show inI64 _ by unfold inI64; omega) ⟨⟨k + 1, by omega⟩, by show row.length - (k + 1) < row.length - k; omega, ?_⟩
        have e : foldV to fu i st (k + 1) = visit to fu (row.getD k 0).toNat st2 := by
          rw [foldV_succ to fu i st (by rw [hrow]; exact h1), hst2, hrow, stepV, if_neg (by rw [hfree]; simp)]
        rw [e]
        exact ⟨⟨rfl, ⟨rfl, rfl⟩, ⟨rfl, rfl⟩, ⟨rfl, rfl⟩, ⟨rfl, rfl⟩, veq_d rfl, rfl, rfl, trivial⟩, ⟨⟨rfl, trivial⟩, ⟨veq0_d rfl, trivial⟩, ⟨rfl, trivial⟩, ⟨rfl, trivial⟩, ⟨rfl, rfl, rfl, fun _ _ => rfl⟩, ⟨rfl, trivial⟩, ⟨rfl, rfl, rfl, fun _ _ => rfl⟩, trivial⟩, rfl⟩
    · have hfree : st2.1 (row.getD k 0).toNat = true := by
        have : (!st2.1 (row.getD k 0).toNat) = false := h2
        simpa using this
      refine x.back rfl (show inI64 _ by unfold inI64; omega) ⟨⟨k + 1, by omega⟩, by show row.length - (k + 1) < row.length - k; omega, ?_⟩
      have e : foldV to fu i st (k + 1) = st2 := by
        rw [foldV_succ to fu i st (by rw [hrow]; exact h1), hst2, hrow, stepV, if_pos hfree]
      rw [e]
      exact ⟨⟨rfl, ⟨rfl, rfl⟩, ⟨rfl, rfl⟩, ⟨rfl, rfl⟩, ⟨rfl, rfl⟩, veq_d rfl, rfl, rfl, trivial⟩, ⟨⟨rfl, trivial⟩, ⟨veq0_d rfl, trivial⟩, ⟨rfl, trivial⟩, ⟨rfl, trivial⟩, ⟨rfl, rfl, rfl, fun _ _ => rfl⟩, ⟨rfl, trivial⟩, ⟨rfl, rfl, rfl, fun _ _ => rfl⟩, trivial⟩, rfl⟩
  · have hkl : k = row.length := by
      have := of_decide_eq_false h1
      omega
    have e : visit to (fu + 1) i st = (st2.1, st2.2 ++ [(i : Int)]) := by
      rw [visit_eq, hrow, ← hkl, hst2]
    rw [e]
    refine x.call [5, 6] rfl trivial rfl (order1_spec st2.2 i (by omega)) rfl ⟨rfl, ⟨rfl, rfl⟩, trivial⟩ ⟨⟨rfl, trivial⟩, ⟨rfl, rfl, rfl, fun _ _ => rfl⟩, trivial⟩ ?_
    refine x.exit rfl trivial ?_
    exact ⟨.inl rfl, trivial, ⟨⟨rfl, trivial⟩, ⟨veq0_d rfl, trivial⟩, ⟨rfl, trivial⟩, ⟨rfl, trivial⟩, ⟨rfl, rfl, rfl, fun _ _ => rfl⟩, ⟨rfl, trivial⟩, ⟨rfl, rfl, rfl, fun _ _ => rfl⟩, trivial⟩, rfl⟩

abbrev tellR : V := .fn 31 []
abbrev HR (to : List (List Int)) (st : DS) : List Ch := [.box [.own 4], .box [gv to], .box [.fn 41 [.ptr 0 0, .ptr 1 0, .ptr 2 0, .ptr 3 0]], .box [tellR], beenC to.length (st).1]
def WalkR (to : List (List Int)) (fu : Nat) : Prop := ∀ (i : Nat) (st : DS), i < to.length → st.1 i = false → freeN to.length st.1 ≤ fu → st.2.length + freeN to.length st.1 ≤ to.length →
  Proc PG 41 5 [vi (i : Int), .ptr 0 0, .ptr 1 0, .ptr 2 0, .ptr 3 0] (HR to st) (.tup []) (HR to (visit to fu i st))
theorem walkR_spec {to : List (List Int)} (hg : GOK to) : ∀ fu, WalkR to fu := fun fu => by
  induction fu with
  | zero => exact fun i st hi hb hfu _ => absurd (freeN_pos hi hb) (by omega)
  | succ fu ih =>
  intro i st hi hb hfu hsum
  refine Proc.mk (cfgF 32 5) tysOK [0, 1, 2, 3, 4] Try.func41 rfl (by kernel_rfl) rfl rfl rfl ?_
  intro C x
  have hn := hg.2.1
  obtain ⟨row, hrow⟩ : ∃ l, to.getD i [] = l := ⟨_, rfl⟩
  have hro : RowOK to.length row := hrow ▸ gok_row hg hi
  have hrl : row.length ≤ 256 := Nat.le_trans (row_len hro) hn
  have hiI : ((i : Int)).toNat = i := Int.toNat_natCast i
  refine x.loop (α := { k : Nat // k ≤ row.length }) (fun y => ⟨[(0, vi (i : Int)), (1, .ptr 0 0), (2, .ptr 1 0), (3, .ptr 2 0), (4, .ptr 3 0), (14, iv row), (15, vi (row.length : Int)), (16, vi (y.1 : Int))], [(0, .box [.own 4]), (1, .box [gv to]), (2, .box [.fn 41 [.ptr 0 0, .ptr 1 0, .ptr 2 0, .ptr 3 0]]), (3, .box [tellR]), (4, beenC to.length (foldV to fu i st y.1).1)], 5⟩) (fun y => row.length - y.1) ⟨0, by omega⟩ rfl ?_ ?_ (fun y => ?_)
  · simp only [AllP, hiI, List.length]; omega
  · refine ⟨⟨rfl, ⟨rfl, rfl⟩, ⟨rfl, rfl⟩, ⟨rfl, rfl⟩, ⟨rfl, rfl⟩, veq_d ?_, ?_, rfl, trivial⟩, ⟨⟨rfl, trivial⟩, ⟨veq0_d rfl, trivial⟩, ⟨rfl, trivial⟩, ⟨rfl, trivial⟩, ⟨rfl, rfl, rfl, fun j hj => ?_⟩, trivial⟩, rfl⟩
    · show dInts (to.getD i []) = _
      rw [hrow]
    · show ((to.getD i []).length : Int) = _
      rw [hrow]
    · rw [put2_bool]; rfl
  obtain ⟨k, hk⟩ := y
  change Go C _ ⟨[(0, vi (i : Int)), (1, .ptr 0 0), (2, .ptr 1 0), (3, .ptr 2 0), (4, .ptr 3 0), (14, iv row), (15, vi (row.length : Int)), (16, vi (k : Int))], [(0, .box [.own 4]), (1, .box [gv to]), (2, .box [.fn 41 [.ptr 0 0, .ptr 1 0, .ptr 2 0, .ptr 3 0]]), (3, .box [tellR]), (4, beenC to.length (foldV to fu i st k).1)], 5⟩ _
  obtain ⟨st2, hst2⟩ : ∃ st2, foldV to fu i st k = st2 := ⟨_, rfl⟩
  rw [hst2]
  have hs2 := foldV_sum hg fu i st hi k (by rw [hrow]; exact hk)
  have hm2 := freeN_le (foldV_mono to fu i st k (by rw [hrow]; exact hk)) to.length
  have hf2 := freeN_set hi hb
  rw [hst2] at hs2 hm2
  refine x.cond rfl trivial (fun h1 => ?_) (fun h1 => ?_)
  · have h1 : k < row.length := by have := of_decide_eq_true h1; omega
    have hin := hro.1 _ (getD_in h1)
    refine x.cond rfl ?_ (fun h2 => ?_) (fun h2 => ?_)
    · simp only [AllP]
      simp only [show ((k : Int)).toNat = k from rfl]
      omega
    · have hfree : st2.1 (row.getD k 0).toNat = false := by
        have : (!st2.1 (row.getD k 0).toNat) = true := h2
        simpa using this
      refine x.call [0, 1, 2, 3, 4] rfl trivial rfl (ih (row.getD k 0).toNat st2 (by omega) hfree (by omega) (by omega)) rfl ?_ ?_ ?_
      · refine ⟨?_, ⟨rfl, rfl⟩, ⟨rfl, rfl⟩, ⟨rfl, rfl⟩, ⟨rfl, rfl⟩, trivial⟩
        show row.getD k 0 = (((row.getD k 0).toNat : Nat) : Int)
        omega
      · exact ⟨⟨rfl, trivial⟩, ⟨veq0_d rfl, trivial⟩, ⟨rfl, trivial⟩, ⟨rfl, trivial⟩, ⟨rfl, rfl, rfl, fun _ _ => rfl⟩, trivial⟩
      · refine x.back rfl (show inI64 _ by unfold inI64; omega) ⟨⟨k + 1, by omega⟩, by show row.length - (k + 1) < row.length - k; omega, ?_⟩
        have e : foldV to fu i st (k + 1) = visit to fu (row.getD k 0).toNat st2 := by
          rw [foldV_succ to fu i st (by rw [hrow]; exact h1), hst2, hrow, stepV, if_neg (by rw [hfree]; simp)]
        rw [e]
        exact ⟨⟨rfl, ⟨rfl, rfl⟩, ⟨rfl, rfl⟩, ⟨rfl, rfl⟩, ⟨rfl, rfl⟩, veq_d rfl, rfl, rfl, trivial⟩, ⟨⟨rfl, trivial⟩, ⟨veq0_d rfl, trivial⟩, ⟨rfl, trivial⟩, ⟨rfl, trivial⟩, ⟨rfl, rfl, rfl, fun _ _ => rfl⟩, trivial⟩, rfl⟩
    · have hfree : st2.1 (row.getD k 0).toNat = true := by
        have : (!st2.1 (row.getD k 0).toNat) = false := h2
        simpa using this
      refine x.back rfl (show inI64 _ by unfold inI64; omega) ⟨⟨k + 1, by omega⟩, by show row.length - (k + 1) < row.length - k; omega, ?_⟩
      have e : foldV to fu i st (k + 1) = st2 := by
        rw [foldV_succ to fu i st (by rw [hrow]; exact h1), hst2, hrow, stepV, if_pos hfree]
      rw [e]
      exact ⟨⟨rfl, ⟨rfl, rfl⟩, ⟨rfl, rfl⟩, ⟨rfl, rfl⟩, ⟨rfl, rfl⟩, veq_d rfl, rfl, rfl, trivial⟩, ⟨⟨rfl, trivial⟩, ⟨veq0_d rfl, trivial⟩, ⟨rfl, trivial⟩, ⟨rfl, trivial⟩, ⟨rfl, rfl, rfl, fun _ _ => rfl⟩, trivial⟩, rfl⟩
  · have hkl : k = row.length := by
      have := of_decide_eq_false h1
      omega
    have e : visit to (fu + 1) i st = (st2.1, st2.2 ++ [(i : Int)]) := by
      rw [visit_eq, hrow, ← hkl, hst2]
    rw [e]
    refine x.pure rfl trivial rfl (reached1_spec i) ⟨rfl, trivial⟩ ?_
    refine x.exit rfl trivial ?_
    exact ⟨.inl rfl, trivial, ⟨⟨rfl, trivial⟩, ⟨veq0_d rfl, trivial⟩, ⟨rfl, trivial⟩, ⟨rfl, trivial⟩, ⟨rfl, rfl, rfl, fun _ _ => rfl⟩, trivial⟩, rfl⟩
end Go.Proofs.Ytniojnnbenkbpaa

/- graph.walk, graph.Order, graph.Reached. -/
namespace Go.Proofs.Ytniojnnbenkbpaa
open Go.Sx
set_option linter.unusedVariables false
set_option linter.unusedSimpArgs false
set_option maxRecDepth 100000

/-- What is reached from a node. -/
def seen (to : List (List Int)) (i : Nat) : Nat → Bool := (visit to (to.length + 1) i (fun _ => false, [])).1

theorem walkF_O {to : List (List Int)} (hg : GOK to) (i : Nat) (hi : i < to.length) : Proc PG 30 1 [gv to, vi (i : Int), .fn 44 [.ptr 0 0]] [.box [.own 1], outC []] (.own 2) [.box [.own 1], outC (visit to (to.length + 1) i (fun _ => false, [])).2, beenC to.length (visit to (to.length + 1) i (fun _ => false, [])).1] := by
  refine Proc.mk (cfgF 17 1) tysOK [0, 1, 4] Try.func30 rfl (by kernel_rfl) rfl rfl rfl ?_
  intro C x
  have hn := hg.2.1
  refine x.call [5, 2, 6, 3, 4, 0, 1] rfl ?_ rfl (walkO_spec hg (to.length + 1) i (fun _ => false, []) hi rfl (by rw [freeN_no]; omega) (by rw [freeN_no]; simp)) rfl ⟨rfl, ⟨rfl, rfl⟩, ⟨rfl, rfl⟩, ⟨rfl, rfl⟩, ⟨rfl, rfl⟩, trivial⟩ ?_ ?_
  · simp only [AllP, big, Int.toNat_natCast]; omega
  · exact ⟨⟨rfl, trivial⟩, ⟨veq0_d rfl, trivial⟩, ⟨rfl, trivial⟩, ⟨rfl, trivial⟩, ⟨rfl, rfl, rfl, fun _ _ => rfl⟩, ⟨rfl, trivial⟩, ⟨rfl, rfl, rfl, fun _ _ => rfl⟩, trivial⟩
  refine x.exit rfl trivial ?_
  exact ⟨.inr rfl, rfl, ⟨⟨rfl, trivial⟩, ⟨rfl, rfl, rfl, fun _ _ => rfl⟩, ⟨rfl, rfl, rfl, fun _ _ => rfl⟩, trivial⟩, rfl⟩

theorem walkF_R {to : List (List Int)} (hg : GOK to) (i : Nat) (hi : i < to.length) : Pure PG 30 [gv to, vi (i : Int), .fn 31 []] (.own 0) [beenC to.length (seen to i)] := by
  refine Proc.mk (cfg 17) tysOK [2] Try.func30 rfl (by kernel_rfl) rfl rfl rfl ?_
  intro C x
  have hn := hg.2.1
  refine x.call [3, 0, 4, 1, 2] rfl ?_ rfl (walkR_spec hg (to.length + 1) i (fun _ => false, []) hi rfl (by rw [freeN_no]; omega) (by rw [freeN_no]; simp)) rfl ⟨rfl, ⟨rfl, rfl⟩, ⟨rfl, rfl⟩, ⟨rfl, rfl⟩, ⟨rfl, rfl⟩, trivial⟩ ?_ ?_
  · simp only [AllP, big, Int.toNat_natCast]; omega
  · exact ⟨⟨rfl, trivial⟩, ⟨veq0_d rfl, trivial⟩, ⟨rfl, trivial⟩, ⟨rfl, trivial⟩, ⟨rfl, rfl, rfl, fun _ _ => rfl⟩, trivial⟩
  refine x.exit rfl trivial ?_
  exact ⟨.inr rfl, rfl, ⟨⟨rfl, rfl, rfl, fun _ _ => rfl⟩, trivial⟩, rfl⟩

/-! ### graph.Order -/
def orderL (to : List (List Int)) : List Int := if GOK to then (post to).reverse else []

theorem post_len {to : List (List Int)} (hg : GOK to) : (post to).length ≤ to.length := by
  have := visit_sum hg (to.length + 1) 0 (fun _ => false, []) hg.1 rfl
  rw [freeN_no] at this
  simp only [List.length_nil] at this
  unfold post
  omega

theorem order_spec (to : List (List Int)) (hf : Fit to) : Pure PG 35 [gv to] (iv (orderL to)) [] := by
  refine Proc.mk (cfg 14) tysOK [] Try.func35 rfl (by kernel_rfl) rfl rfl rfl ?_
  intro C x
  refine x.pure rfl trivial rfl (right_spec to hf) ⟨veq_d rfl, trivial⟩ ?_
  refine x.cond rfl trivial (fun h => ?_) (fun h => ?_)
  · have hg : ¬ GOK to := by simpa using h
    refine x.exit rfl trivial ?_
    refine ⟨.inr rfl, ?_, trivial, rfl⟩
    show (orderL to).length = 0
    rw [orderL, if_neg hg]; rfl
  have hg : GOK to := by simpa using h
  have hn := hg.2.1
  have hlen := post_len hg
  refine x.op rfl trivial ?_
  refine Go.ownBox 0 0 3 1 (fun j => [.int .i64 (([] : List Int).getD j 0)]) rfl rfl rfl ?_
  refine x.call [0, 1] rfl trivial rfl (walkF_O hg 0 hg.1) rfl ⟨veq_d rfl, rfl, rfl, trivial⟩ ?_ ?_
  · exact ⟨⟨rfl, trivial⟩, ⟨rfl, rfl, rfl, fun _ _ => rfl⟩, trivial⟩
  have hp : (visit to (to.length + 1) 0 (fun _ => false, [])).2 = post to := rfl
  rw [hp]
  generalize (visit to (to.length + 1) 0 (fun _ => false, [])).1 = b
  rw [orderL, if_pos hg]
  obtain ⟨P, hP⟩ : ∃ P, post to = P := ⟨_, rfl⟩
  rw [hP] at hlen ⊢
  refine x.call [1] rfl trivial rfl (reverseI_spec P.length (fun k => P.getD k 0) (by unfold big; omega)) rfl ⟨rfl, trivial⟩ ⟨⟨rfl, rfl, rfl, fun _ _ => rfl⟩, trivial⟩ ?_
  refine x.le (s' := ⟨[(3, .ptr 0 0)], [(0, .box [.own 1]), (1, outC P.reverse)], 3⟩) ?_ ?_
  · refine ⟨⟨⟨rfl, rfl⟩, trivial⟩, ⟨⟨rfl, trivial⟩, ⟨rfl, rfl, ?_, fun j hj => ?_⟩, trivial⟩, rfl⟩
    · show P.length = P.reverse.length; simp
    · show [D.int .i64 (P.getD (P.length - 1 - j) 0)] = [D.int .i64 (P.reverse.getD j 0)]
      have hj : j < P.length := hj
      rw [← getD_at (l := P.reverse) (by simpa using hj), List.getElem_reverse, getD_at]
  refine x.op rfl trivial ?_
  refine Sx.Go.freeze 1 ?_
  refine x.pure rfl trivial rfl (clip_spec P.reverse (by unfold big; simp; omega)) ⟨veq_d rfl, trivial⟩ ?_
  refine x.exit rfl trivial ?_
  exact ⟨.inr rfl, veq_d rfl, trivial, rfl⟩
end Go.Proofs.Ytniojnnbenkbpaa

/- The answer's Right, Copy, Ints. -/
namespace Go.Proofs.Ytniojnnbenkbpaa
open Go.Sx
set_option linter.unusedVariables false
set_option linter.unusedSimpArgs false
set_option maxRecDepth 100000

theorem ints_spec (l r : List Int) (hl : l.length ≤ 9223372036854775807) (hr : r.length ≤ 9223372036854775807) : Pure PG 9 [iv l, iv r] (vb (decide (l = r))) [] := by
  refine Proc.mk (cfg 26) tysOK [] Try.func9 rfl (by kernel_rfl) rfl rfl rfl ?_
  intro C x
  refine x.cond rfl trivial (fun h => ?_) (fun h => ?_)
  · refine x.exit rfl trivial ?_
    refine ⟨.inr rfl, ?_, trivial, rfl⟩
    have h : ¬ ((l.length : Int) = r.length) := by simpa using h
    show false = decide (l = r)
    refine (decide_eq_false fun e => h ?_).symm
    rw [e]
  have h : l.length = r.length := by
    have : (l.length : Int) = r.length := by simpa using h
    omega
  refine x.loop (α := { i : Nat // i ≤ l.length ∧ ∀ j, j < i → l.getD j 0 = r.getD j 0 }) (fun y => ⟨[(0, iv l), (1, iv r), (5, vi (y.1 : Int))], [], 0⟩) (fun y => l.length - y.1) ⟨0, by omega, fun j hj => by omega⟩ rfl trivial ⟨⟨veq_d rfl, veq_d rfl, rfl, trivial⟩, trivial, rfl⟩ (fun y => ?_)
  obtain ⟨i, hi, hup⟩ := y
  change Go C _ ⟨[(0, iv l), (1, iv r), (5, vi (i : Int))], [], 0⟩ _
  refine x.cond rfl trivial (fun h1 => ?_) (fun h1 => ?_)
  · have h1 : i < l.length := by have := of_decide_eq_true h1; omega
    refine x.quiet rfl trivial mixedP (by kernel_rfl) ?_
    refine x.qdone rfl ?_ ?_
    · simp only [AllP]; omega
    refine x.cond rfl trivial (fun h2 => ?_) (fun h2 => ?_)
    · refine x.exit rfl trivial ?_
      refine ⟨.inr rfl, ?_, trivial, rfl⟩
      show false = decide (l = r)
      have h2 : ¬ l.getD i 0 = r.getD i 0 := by
        have : (!decide (l.getD i 0 = r.getD i 0)) = true := h2
        simpa only [Bool.not_eq_true', decide_eq_false_iff_not] using this
      refine (decide_eq_false fun e => h2 ?_).symm
      rw [e]
    · have h2 : l.getD i 0 = r.getD i 0 := by
        have : (!decide (l.getD i 0 = r.getD i 0)) = false := h2
        simpa only [Bool.not_eq_false', decide_eq_true_eq] using this
      refine x.back rfl (show inI64 _ by unfold inI64; omega) ⟨⟨i + 1, by omega, fun j hj => ?_⟩, by show l.length - (i + 1) < l.length - i; omega, ⟨veq_d rfl, veq_d rfl, rfl, trivial⟩, trivial, rfl⟩
      rcases Nat.lt_or_ge j i with h3 | h3
      · exact hup j h3
      · obtain rfl : j = i := by omega
        exact h2
  · have h1 : i = l.length := by have := of_decide_eq_false h1; omega
    refine x.exit rfl trivial ?_
    refine ⟨.inr rfl, ?_, trivial, rfl⟩
    show true = decide (l = r)
    refine (decide_eq_true (List.ext_getElem h fun j hj hj' => ?_)).symm
    rw [getD_at, getD_at]
    exact hup j (by omega)

/-! ### Copy -/
theorem copy_spec (to : List (List Int)) (hn : to.length ≤ 64) (hf : ∀ l ∈ to, l.length * 8 ≤ big) : Pure PG 11 [gv to] (gv to) [] := by
  refine Proc.mk (cfg 21) tysOK [] Try.func11 rfl (by kernel_rfl) rfl rfl rfl ?_
  intro C x
  refine x.toLoop rfl trivial ?_
  refine Go.own 3 24 1 (fun j => [dInts (to.getD j [])]) rfl ?_
  refine x.loop (α := { i : Nat // i ≤ to.length }) (fun y => ⟨[(0, gv to), (3, .own 0), (4, vi (y.1 : Int))], [(0, .vec 24 1 y.1 fun j => [dInts (to.getD j [])])], 1⟩) (fun y => to.length - y.1) ⟨0, by omega⟩ rfl trivial ⟨⟨veq_d rfl, rfl, rfl, trivial⟩, ⟨⟨rfl, rfl, rfl, fun _ _ => rfl⟩, trivial⟩, rfl⟩ (fun y => ?_)
  obtain ⟨i, hi⟩ := y
  change Go C _ ⟨[(0, gv to), (3, .own 0), (4, vi (i : Int))], [(0, .vec 24 1 i fun j => [dInts (to.getD j [])])], 1⟩ _
  refine x.cond rfl trivial (fun h1 => ?_) (fun h1 => ?_)
  · have h1 : i < to.length := by have := of_decide_eq_true h1; omega
    obtain ⟨l, hrow⟩ : ∃ l, to.getD i [] = l := ⟨_, rfl⟩
    have hl : l.length * 8 ≤ big := hf l (hrow ▸ getD_mem h1)
    refine x.op rfl ?_ ?_
    · simp only [AllP]
      simp only [show ((i : Int)).toNat = i from rfl, hrow]
      unfold big at hl ⊢
      omega
    refine x.le (s' := ⟨[(0, gv to), (4, vi (i : Int)), (11, .own 0), (17, .own 1)], [(0, .vec 24 1 i fun j => [dInts (to.getD j [])]), (1, outC l)], 2⟩) ?_ ?_
    · refine ⟨⟨veq_d rfl, rfl, rfl, rfl, trivial⟩, ⟨⟨rfl, rfl, rfl, fun _ _ => rfl⟩, ⟨rfl, rfl, ?_, fun j hj => ?_⟩, trivial⟩, rfl⟩
      · show 0 + (to.getD i []).length = l.length
        rw [hrow]; omega
      · have hj : j < l.length := by
          have : j < 0 + (to.getD i []).length := hj
          rw [hrow] at this; omega
        refine (congrFun (app_int .i64 0 (fun _ => 0) fun j => (to.getD i []).getD j 0) j).trans ?_
        dsimp only
        rw [if_neg (by omega), hrow]; rfl
    refine Sx.Go.freeze 1 ?_
    refine x.back rfl ?_ ⟨⟨i + 1, by omega⟩, by show to.length - (i + 1) < to.length - i; omega, ⟨veq_d rfl, rfl, rfl, trivial⟩, ⟨⟨rfl, rfl, rfl, fun j hj => ?_⟩, trivial⟩, rfl⟩
    · simp only [AllP, inI64, big]; omega
    · show zipIte (j < i) [dInts (to.getD j [])] [dInts l] = [dInts (to.getD j [])]
      by_cases hji : j < i
      · rw [zipIte_pos hji]
      · rw [zipIte_neg hji, ← hrow, show j = i by omega]
  · have h1 : i = to.length := by have := of_decide_eq_false h1; omega
    subst h1
    refine Sx.Go.freeze 0 ?_
    refine x.exit rfl trivial ?_
    exact ⟨.inr rfl, veq_d rfl, trivial, rfl⟩

/-! ### the answer's Right -/
theorem refright_spec (to : List (List Int)) (hf : Fit to) : Pure PG 37 [gv to] (vb (decide (GOK to))) [] := by
  refine Proc.mk (cfg 75) tysOK [] Try.func37 rfl (by kernel_rfl) rfl rfl rfl ?_
  intro C x
  refine x.cond rfl trivial (fun h => ?_) (fun h => ?_)
  · refine x.exit rfl trivial ?_
    refine ⟨.inr rfl, ?_, trivial, rfl⟩
    show false = decide (GOK to)
    refine (decide_eq_false fun hg => ?_).symm
    have := hg.1
    have := hg.2.1
    simp only [Bool.or_eq_true, decide_eq_true_eq] at h
    omega
  have hn : 1 ≤ to.length ∧ to.length ≤ 256 := by
    simp only [Bool.or_eq_false_iff, decide_eq_false_iff_not] at h
    omega
  refine x.loop (α := { i : Nat // i ≤ to.length ∧ ∀ j, j < i → RowOK to.length (to.getD j []) }) (fun y => ⟨[(0, gv to), (3, vi (y.1 : Int))], [], 0⟩) (fun y => to.length - y.1) ⟨0, by omega, fun j hj => by omega⟩ rfl trivial ⟨⟨veq_d rfl, rfl, trivial⟩, trivial, rfl⟩ (fun y => ?_)
  obtain ⟨i, hi, hrows⟩ := y
  change Go C _ ⟨[(0, gv to), (3, vi (i : Int))], [], 0⟩ _
  refine x.cond rfl trivial (fun h1 => ?_) (fun h1 => ?_)
  · have h1 : i < to.length := by have := of_decide_eq_true h1; omega
    obtain ⟨l, hrow⟩ : ∃ l, to.getD i [] = l := ⟨_, rfl⟩
    have hmem : l ∈ to := hrow ▸ getD_mem h1
    refine x.cond rfl (show _ ∧ _ by omega) (fun h2 => ?_) (fun h2 => ?_)
    · refine x.exit rfl trivial ?_
      refine ⟨.inr rfl, ?_, trivial, rfl⟩
      show false = decide (GOK to)
      refine (decide_eq_false fun hg => ?_).symm
      have h2 : ((to.getD i []).length : Int) > 256 := of_decide_eq_true h2
      rw [hrow] at h2
      have := row_len (hg.2.2 l hmem)
      omega
    have hl : l.length ≤ 256 := by
      have h2 : ¬ ((to.getD i []).length : Int) > 256 := of_decide_eq_false h2
      rw [hrow] at h2
      omega
    refine x.loop (α := { k : Nat // k ≤ l.length ∧ Upto to.length l k }) (fun y => ⟨[(0, gv to), (3, vi (i : Int)), (4, vi (y.1 : Int))], [], 0⟩) (fun y => l.length - y.1) ⟨0, by omega, fun j hj => by omega⟩ rfl trivial ⟨⟨veq_d rfl, rfl, rfl, trivial⟩, trivial, rfl⟩ (fun y => ?_)
    obtain ⟨k, hk, hup⟩ := y
    change Go C _ ⟨[(0, gv to), (3, vi (i : Int)), (4, vi (k : Int))], [], 0⟩ _
    refine x.cond rfl (show _ ∧ _ by omega) (fun h3 => ?_) (fun h3 => ?_)
    · have h3 : k < l.length := by
        have h3 : (k : Int) < ((to.getD i []).length : Int) := of_decide_eq_true h3
        rw [hrow] at h3
        omega
      refine x.cond rfl ?_ (fun h4 => ?_) (fun h4 => ?_)
      · simp only [AllP]
        simp only [show ((i : Int)).toNat = i from rfl, hrow]
        refine ⟨by omega, by omega, fun _ => by omega, fun _ => by omega⟩
      · refine x.exit rfl trivial ?_
        refine ⟨.inr rfl, ?_, trivial, rfl⟩
        show false = decide (GOK to)
        refine (decide_eq_false fun hg => ?_).symm
        have h4 : (decide ((to.getD i []).getD k 0 < 0) || decide ((to.length : Int) ≤ (to.getD i []).getD k 0)) = true := h4
        rw [hrow] at h4
        simp only [Bool.or_eq_true, decide_eq_true_eq] at h4
        have := (hg.2.2 l hmem).1 _ (getD_in h3)
        omega
      have h4 : 0 ≤ l.getD k 0 ∧ l.getD k 0 < to.length := by
        have h4 : (decide ((to.getD i []).getD k 0 < 0) || decide ((to.length : Int) ≤ (to.getD i []).getD k 0)) = false := h4
        rw [hrow] at h4
        simp only [Bool.or_eq_false_iff, decide_eq_false_iff_not] at h4
        omega
      refine x.loop (α := { m : Nat // m ≤ k ∧ ∀ j, j < m → l.getD j 0 ≠ l.getD k 0 }) (fun y => ⟨[(0, gv to), (3, vi (i : Int)), (4, vi (k : Int)), (5, vi (y.1 : Int))], [], 0⟩) (fun y => k - y.1) ⟨0, by omega, fun j hj => by omega⟩ rfl trivial ⟨⟨veq_d rfl, rfl, rfl, rfl, trivial⟩, trivial, rfl⟩ (fun y => ?_)
      obtain ⟨m, hm, hne⟩ := y
      change Go C _ ⟨[(0, gv to), (3, vi (i : Int)), (4, vi (k : Int)), (5, vi (m : Int))], [], 0⟩ _
      refine x.cond rfl trivial (fun h5 => ?_) (fun h5 => ?_)
      · have h5 : m < k := by have := of_decide_eq_true h5; omega
        refine x.quiet rfl trivial mixedP (by kernel_rfl) ?_
        refine x.qdone rfl ?_ ?_
        · simp only [AllP]
          simp only [show ((i : Int)).toNat = i from rfl, hrow]
          omega
        refine x.cond rfl trivial (fun h6 => ?_) (fun h6 => ?_)
        · refine x.exit rfl trivial ?_
          refine ⟨.inr rfl, ?_, trivial, rfl⟩
          show false = decide (GOK to)
          refine (decide_eq_false fun hg => ?_).symm
          have h6 : (to.getD i []).getD m 0 = (to.getD i []).getD k 0 := of_decide_eq_true h6
          rw [hrow] at h6
          exact (upto_row.2 (hg.2.2 l hmem) k h3).2 m h5 h6
        · have h6 : ¬ (to.getD i []).getD m 0 = (to.getD i []).getD k 0 := of_decide_eq_false h6
          rw [hrow] at h6
          refine x.back rfl (show inI64 _ by unfold inI64; omega) ⟨⟨m + 1, by omega, fun j hj => ?_⟩, by show k - (m + 1) < k - m; omega, ⟨veq_d rfl, rfl, rfl, rfl, trivial⟩, trivial, rfl⟩
          rcases Nat.lt_or_ge j m with h7 | h7
          · exact hne j h7
          · obtain rfl : j = m := by omega
            exact h6
      · have h5 : m = k := by have := of_decide_eq_false h5; omega
        subst h5
        refine x.back rfl (show inI64 _ by unfold inI64; omega) ⟨⟨m + 1, by omega, fun j hj => ?_⟩, by show l.length - (m + 1) < l.length - m; omega, ⟨veq_d rfl, rfl, rfl, trivial⟩, trivial, rfl⟩
        rcases Nat.lt_or_ge j m with h7 | h7
        · exact hup j h7
        · obtain rfl : j = m := by omega
          exact ⟨h4, hne⟩
    · have h3 : k = l.length := by
        have h3 : ¬ (k : Int) < ((to.getD i []).length : Int) := of_decide_eq_false h3
        rw [hrow] at h3
        omega
      subst h3
      refine x.back rfl (show inI64 _ by unfold inI64; omega) ⟨⟨i + 1, by omega, fun j hj => ?_⟩, by show to.length - (i + 1) < to.length - i; omega, ⟨veq_d rfl, rfl, trivial⟩, trivial, rfl⟩
      rcases Nat.lt_or_ge j i with h5 | h5
      · exact hrows j h5
      · obtain rfl : j = i := by omega
        rw [hrow]
        exact upto_row.1 hup
  · have h1 : i = to.length := by have := of_decide_eq_false h1; omega
    refine x.exit rfl trivial ?_
    refine ⟨.inr rfl, ?_, trivial, rfl⟩
    show true = decide (GOK to)
    refine (decide_eq_true ⟨by omega, by omega, fun l hl => ?_⟩).symm
    obtain ⟨j, hj, rfl⟩ := List.getElem_of_mem hl
    have := hrows j (by omega)
    rwa [List.getD_eq_getElem?_getD, List.getElem?_eq_getElem hj] at this
end Go.Proofs.Ytniojnnbenkbpaa

/- graph.Back: the graph turned round. -/
namespace Go.Proofs.Ytniojnnbenkbpaa
open Go.Sx
set_option linter.unusedVariables false
set_option linter.unusedSimpArgs false
set_option maxRecDepth 100000

/-- Who, among the first i, leads to v. -/
def into (to : List (List Int)) (i : Nat) (v : Nat) : List Int := List.map (fun j : Nat => (j : Int)) ((List.range i).filter fun j => (to.getD j []).contains (v : Int))
/-- The same, and of row i the first k. -/
def intoK (to : List (List Int)) (i k : Nat) (v : Nat) : List Int := into to i v ++ if ((to.getD i []).take k).contains (v : Int) then [(i : Int)] else []
def backL (to : List (List Int)) : List (List Int) := (List.range to.length).map (into to to.length)
def backG (to : List (List Int)) : List (List Int) := if GOK to then backL to else []

theorem into_len (to : List (List Int)) (i v : Nat) : (into to i v).length ≤ i := by
  unfold into
  rw [List.length_map]
  exact Nat.le_trans (List.length_filter_le _ _) (by rw [List.length_range]; exact Nat.le_refl _)
theorem intoK_len (to : List (List Int)) (i k v : Nat) : (intoK to i k v).length ≤ i + 1 := by
  unfold intoK
  have := into_len to i v
  split <;> simp <;> omega
theorem into_succ (to : List (List Int)) (i v : Nat) : into to (i + 1) v = intoK to i (to.getD i []).length v := by
  unfold into intoK into
  rw [List.range_succ, List.filter_append, List.map_append, List.take_length]
  congr 1
  simp only [List.filter_cons, List.filter_nil]
  split <;> simp
theorem intoK_zero (to : List (List Int)) (i v : Nat) : intoK to i 0 v = into to i v := by
  unfold intoK
  simp
theorem take_contains {l : List Int} {k : Nat} (hk : k < l.length) (v : Int) : (l.take (k + 1)).contains v = ((l.take k).contains v || (v == l.getD k 0)) := by
  rw [List.take_succ_eq_append_getElem hk, List.contains_append, getD_at]
  rw [Bool.eq_iff_iff]
  simp
theorem intoK_succ {to : List (List Int)} (hg : GOK to) {i k : Nat} (hi : i < to.length) (hk : k < (to.getD i []).length) (v : Nat) :
    intoK to i (k + 1) v = if v = ((to.getD i []).getD k 0).toNat then intoK to i k v ++ [(i : Int)] else intoK to i k v := by
  have hin := gok_in hg hi hk
  unfold intoK
  rw [take_contains hk]
  by_cases h : v = ((to.getD i []).getD k 0).toNat
  · have hno : ((to.getD i []).take k).contains (v : Int) = false := by
      rw [Bool.eq_false_iff]
      intro hc
      rw [show (v : Int) = (to.getD i []).getD k 0 by omega] at hc
      obtain ⟨j, hj, e⟩ := List.getElem_of_mem (List.contains_iff_mem.1 hc)
      simp only [List.length_take] at hj
      rw [List.getElem_take, getD_at] at e
      exact ((upto_row.2 (gok_row hg hi)) k hk).2 j (by omega) e
    have hyes : ((v : Int) == (to.getD i []).getD k 0) = true := by
      rw [beq_iff_eq]; omega
    rw [hno, hyes, if_pos h]
    simp
  · have hno : ((v : Int) == (to.getD i []).getD k 0) = false := by
      rw [beq_eq_false_iff_ne]; omega
    rw [hno, if_neg h, Bool.or_false]

abbrev rowsC (n : Nat) (hs : Nat → Value) (R : Nat → List Int) : Ch := .rows 24 3 1 n none hs (fun v => (R v).length) fun v j => [.int .i64 ((R v).getD j 0)]

theorem back_spec (to : List (List Int)) (hf : Fit to) : Pure PG 24 [gv to] (gv (backG to)) [] := by
  refine Proc.mk (cfg 55) tysOK [] Try.func24 rfl (by kernel_rfl) rfl rfl rfl ?_
  intro C x
  refine x.pure rfl trivial rfl (right_spec to hf) ⟨veq_d rfl, trivial⟩ ?_
  refine x.cond rfl trivial (fun h => ?_) (fun h => ?_)
  · have hg : ¬ GOK to := by simpa using h
    refine x.exit rfl trivial ?_
    refine ⟨.inr rfl, ?_, trivial, rfl⟩
    show (backG to).length = 0
    rw [backG, if_neg hg]; rfl
  have hg : GOK to := by simpa using h
  have hn := hg.2.1
  refine x.loop (α := { i : Nat // i ≤ to.length } × (Nat → Value)) (fun y => ⟨[(3, .own 0), (15, gv to), (16, vi (to.length : Int)), (17, vi (y.1.1 : Int))], [(0, rowsC to.length y.2 (into to y.1.1))], 1⟩) (fun y => to.length - y.1.1) (⟨0, by omega⟩, fun _ => .slice none 0 0) rfl ?_ ?_ (fun y => ?_)
  · simp only [AllP, big, Int.toNat_natCast]; omega
  · exact ⟨⟨rfl, veq_d rfl, rfl, rfl, trivial⟩, ⟨⟨rfl, rfl, rfl, rfl, rfl, fun i hi => ⟨rfl, rfl, fun j hj => absurd hj (Nat.not_lt_zero _)⟩⟩, trivial⟩, rfl⟩
  obtain ⟨⟨i, hi⟩, hs⟩ := y
  change Go C _ ⟨[(3, .own 0), (15, gv to), (16, vi (to.length : Int)), (17, vi (i : Int))], [(0, rowsC to.length hs (into to i))], 1⟩ _
  refine x.cond rfl trivial (fun h1 => ?_) (fun h1 => ?_)
  · have h1 : i < to.length := by have := of_decide_eq_true h1; omega
    obtain ⟨row, hrow⟩ : ∃ l, to.getD i [] = l := ⟨_, rfl⟩
    have hro : RowOK to.length row := hrow ▸ gok_row hg h1
    have hrl : row.length ≤ 256 := Nat.le_trans (row_len hro) hn
    refine x.loop (α := { k : Nat // k ≤ row.length } × (Nat → Value)) (fun y => ⟨[(3, .own 0), (15, gv to), (16, vi (to.length : Int)), (17, vi (i : Int)), (4, vi (i : Int)), (22, iv row), (23, vi (row.length : Int)), (24, vi (y.1.1 : Int))], [(0, rowsC to.length y.2 (intoK to i y.1.1))], 1⟩) (fun y => row.length - y.1.1) (⟨0, by omega⟩, hs) rfl ?_ ?_ (fun y => ?_)
    · show _ ∧ _; omega
    · refine ⟨⟨rfl, veq_d rfl, rfl, rfl, rfl, veq_d ?_, ?_, rfl, trivial⟩, ⟨⟨rfl, rfl, rfl, rfl, rfl, fun v hv => ⟨rfl, ?_, fun j hj => ?_⟩⟩, trivial⟩, rfl⟩
      · show dInts (to.getD i []) = _
        rw [hrow]
      · show ((to.getD i []).length : Int) = _
        rw [hrow]
      · show (into to i v).length = (intoK to i 0 v).length
        rw [intoK_zero]
      · show [D.int .i64 ((into to i v).getD j 0)] = [D.int .i64 ((intoK to i 0 v).getD j 0)]
        rw [intoK_zero]
    obtain ⟨⟨k, hk⟩, hs⟩ := y
    change Go C _ ⟨[(3, .own 0), (15, gv to), (16, vi (to.length : Int)), (17, vi (i : Int)), (4, vi (i : Int)), (22, iv row), (23, vi (row.length : Int)), (24, vi (k : Int))], [(0, rowsC to.length hs (intoK to i k))], 1⟩ _
    refine x.cond rfl trivial (fun h2 => ?_) (fun h2 => ?_)
    · have h2 : k < row.length := by have := of_decide_eq_true h2; omega
      have hin := hro.1 _ (getD_in h2)
      refine x.loadRow rfl ?_ rfl ?_ ?_
      · simp only [AllP]
        simp only [show ((k : Int)).toNat = k from rfl]
        omega
      · show (row.getD k 0).toNat < to.length
        omega
      refine x.storeRow rfl ?_ rfl ?_ (fun val => ?_)
      · have := intoK_len to i k (row.getD k 0).toNat
        simp only [AllP]
        simp only [show ((k : Int)).toNat = k from rfl]
        unfold big
        omega
      · exact ⟨rfl, by show (row.getD k 0).toNat < to.length; omega⟩
      · refine x.back rfl (show inI64 _ by unfold inI64; omega) ⟨(⟨k + 1, by omega⟩, _), by show row.length - (k + 1) < row.length - k; omega, ⟨rfl, veq_d rfl, rfl, rfl, rfl, veq_d rfl, rfl, rfl, trivial⟩, ⟨⟨rfl, rfl, rfl, rfl, rfl, fun v hv => ⟨rfl, ?_, fun j hj => ?_⟩⟩, trivial⟩, rfl⟩
        · have e := intoK_succ hg h1 (k := k) (by rw [hrow]; exact h2) v
          rw [hrow] at e
          show (if v = (row.getD k 0).toNat then (intoK to i k (row.getD k 0).toNat).length + 1 else (intoK to i k v).length) = (intoK to i (k + 1) v).length
          rw [e]
          by_cases hvt : v = (row.getD k 0).toNat
          · rw [if_pos hvt, if_pos hvt, ← hvt]; simp
          · rw [if_neg hvt, if_neg hvt]
        · have e := intoK_succ hg h1 (k := k) (by rw [hrow]; exact h2) v
          rw [hrow] at e
          have hj : j < (if v = (row.getD k 0).toNat then (intoK to i k (row.getD k 0).toNat).length + 1 else (intoK to i k v).length) := hj
          show (if v = (row.getD k 0).toNat then app (intoK to i k (row.getD k 0).toNat).length (fun j => [D.int .i64 ((intoK to i k (row.getD k 0).toNat).getD j 0)]) (fun _ => [D.int .i64 (i : Int)]) else fun j => [D.int .i64 ((intoK to i k v).getD j 0)]) j = [D.int .i64 ((intoK to i (k + 1) v).getD j 0)]
          rw [e]
          by_cases hvt : v = (row.getD k 0).toNat
          · rw [if_pos hvt] at hj
            rw [if_pos hvt, if_pos hvt]
            rw [← hvt] at hj ⊢
            exact app_list _ _ _ _ hj
          · rw [if_neg hvt, if_neg hvt]
    · have h2 : k = row.length := by have := of_decide_eq_false h2; omega
      subst h2
      refine x.back rfl (show inI64 _ by unfold inI64; omega) ⟨(⟨i + 1, by omega⟩, hs), by show to.length - (i + 1) < to.length - i; omega, ⟨rfl, veq_d rfl, rfl, rfl, trivial⟩, ⟨⟨rfl, rfl, rfl, rfl, rfl, fun v hv => ⟨rfl, ?_, fun j hj => ?_⟩⟩, trivial⟩, rfl⟩
      · show (intoK to i row.length v).length = (into to (i + 1) v).length
        rw [into_succ, hrow]
      · show [D.int .i64 ((intoK to i row.length v).getD j 0)] = [D.int .i64 ((into to (i + 1) v).getD j 0)]
        rw [into_succ, hrow]
  · have h1 : i = to.length := by have := of_decide_eq_false h1; omega
    subst h1
    refine x.toLoop rfl trivial ?_
    refine Sx.Go.close 0 ?_
    refine x.loop (α := { i : Nat // i ≤ to.length }) (fun y => ⟨[(3, .own 0), (41, vi (to.length : Int)), (42, vi (y.1 : Int))], [(0, .vec 24 1 to.length fun v => [dInts (into to to.length v)])], 1⟩) (fun y => to.length - y.1) ⟨0, by omega⟩ rfl trivial ⟨⟨rfl, rfl, rfl, trivial⟩, ⟨⟨rfl, rfl, rfl, fun _ _ => rfl⟩, trivial⟩, rfl⟩ (fun y => ?_)
    obtain ⟨i, hi⟩ := y
    change Go C _ ⟨[(3, .own 0), (41, vi (to.length : Int)), (42, vi (i : Int))], [(0, .vec 24 1 to.length fun v => [dInts (into to to.length v)])], 1⟩ _
    refine x.cond rfl trivial (fun h1 => ?_) (fun h1 => ?_)
    · have h1 : i < to.length := by have := of_decide_eq_true h1; omega
      refine x.pure rfl ?_ rfl (clip_spec (into to to.length i) (by have := into_len to to.length i; unfold big; omega)) ⟨veq_d rfl, trivial⟩ ?_
      · simp only [AllP]; omega
      refine x.back rfl ?_ ⟨⟨i + 1, by omega⟩, by show to.length - (i + 1) < to.length - i; omega, ⟨rfl, rfl, rfl, trivial⟩, ⟨⟨rfl, rfl, rfl, fun v hv => ?_⟩, trivial⟩, rfl⟩
      · simp only [AllP, inI64, List.length]
        exact ⟨by omega, ⟨by omega, Nat.le_refl _⟩, by omega⟩
      · show zipIte (v = i) [dInts (into to to.length i)] [dInts (into to to.length v)] = [dInts (into to to.length v)]
        by_cases hvi : v = i
        · rw [zipIte_pos hvi, hvi]
        · rw [zipIte_neg hvi]
    · refine Sx.Go.freeze 0 ?_
      refine x.exit rfl trivial ?_
      refine ⟨.inr rfl, ⟨?_, fun _ => rfl, fun v hv => ?_⟩, trivial, rfl⟩
      · show to.length = (backG to).length
        rw [backG, if_pos hg]; simp [backL]
      · show [dInts (into to to.length v)] = [dInts ((backG to).getD v [])]
        have hv : v < to.length := hv
        rw [backG, if_pos hg, backL, List.getD_eq_getElem?_getD, List.getElem?_map, List.getElem?_range hv]; rfl
end Go.Proofs.Ytniojnnbenkbpaa

/- What the walk reaches: the nodes to which ways lead. -/
namespace Go.Proofs.Ytniojnnbenkbpaa
open Go.Sx
set_option linter.unusedVariables false
set_option linter.unusedSimpArgs false
set_option maxRecDepth 100000

/-- A way that comes to no node 'no'. -/
inductive Way (to : List (List Int)) (no : Int) (i : Nat) : Nat → Prop
  | here (h : (i : Int) ≠ no) : Way to no i i
  | step {j : Nat} {k : Int} (h : Way to no i j) (hk : k ∈ to.getD j []) (hn : k ≠ no) : Way to no i k.toNat

theorem Way.lt {to : List (List Int)} (hg : GOK to) {no : Int} {i j : Nat} (hi : i < to.length) (h : Way to no i j) : j < to.length := by
  induction h with
  | here => exact hi
  | step _ hk _ ih =>
    have := (gok_row hg ih).1 _ hk
    omega
theorem Way.trans {to : List (List Int)} {no : Int} {i j k : Nat} (h1 : Way to no i j) (h2 : Way to no j k) : Way to no i k := by
  induction h2 with
  | here => exact h1
  | step _ hk hn ih => exact .step ih hk hn
theorem Way.start {to : List (List Int)} {no : Int} {i j : Nat} (h : Way to no i j) : (i : Int) ≠ no := by
  induction h with
  | here h => exact h
  | step _ _ _ ih => exact ih

/-- What is marked anew is led to. -/
theorem visit_way {to : List (List Int)} (hg : GOK to) (fu : Nat) : ∀ (i : Nat) (st : DS), i < to.length → ∀ v, (visit to fu i st).1 v = true → st.1 v = true ∨ Way to (-1) i v := by
  induction fu with
  | zero => exact fun i st _ v h => .inl h
  | succ fu ih =>
    intro i st hi v h
    have step : ∀ k, k ≤ (to.getD i []).length → ∀ v, (foldV to fu i st k).1 v = true → st.1 v = true ∨ Way to (-1) i v := fun k => by
      induction k with
      | zero =>
        intro _ v hv
        rw [foldV_zero] at hv
        have hv : (if v = i then true else st.1 v) = true := hv
        by_cases e : v = i
        · subst e; exact .inr (.here (by omega))
        · rw [if_neg e] at hv; exact .inl hv
      | succ k ih2 =>
        intro hk v hv
        rw [foldV_succ to fu i st (by omega)] at hv
        unfold stepV at hv
        split at hv
        · exact ih2 (by omega) v hv
        · have h2 := gok_in hg hi (k := k) (by omega)
          rcases ih _ _ (by omega) v hv with h3 | h3
          · exact ih2 (by omega) v h3
          · exact .inr (Way.trans (.step (.here (by omega)) (getD_in (by omega : k < (to.getD i []).length)) (by omega)) h3)
    rw [visit_eq] at h
    exact step _ (Nat.le_refl _) v h

/-- What is marked anew leads to what is marked. -/
theorem visit_closed {to : List (List Int)} (hg : GOK to) (fu : Nat) : ∀ (i : Nat) (st : DS), i < to.length → st.1 i = false → freeN to.length st.1 ≤ fu →
    (visit to fu i st).1 i = true ∧ ∀ v, (visit to fu i st).1 v = true → st.1 v = false → ∀ k ∈ to.getD v [], (visit to fu i st).1 k.toNat = true := by
  induction fu with
  | zero => exact fun i st hi hb hf => absurd (freeN_pos hi hb) (by omega)
  | succ fu ih =>
    intro i st hi hb hf
    have hf2 := freeN_set hi hb
    have step : ∀ k, k ≤ (to.getD i []).length → (∀ v, (foldV to fu i st k).1 v = true → setB st.1 i v = false → ∀ y ∈ to.getD v [], (foldV to fu i st k).1 y.toNat = true) ∧ ∀ j, j < k → (foldV to fu i st k).1 ((to.getD i []).getD j 0).toNat = true := fun k => by
      induction k with
      | zero =>
        intro _
        refine ⟨fun v hv hno => ?_, fun j hj => absurd hj (Nat.not_lt_zero _)⟩
        rw [foldV_zero] at hv
        rw [show setB st.1 i v = true from hv] at hno
        cases hno
      | succ k ih2 =>
        intro hk
        obtain ⟨h1, h2⟩ := ih2 (by omega)
        rw [foldV_succ to fu i st (by omega)]
        unfold stepV
        split
        · rename_i hy
          refine ⟨h1, fun j hj => ?_⟩
          rcases Nat.lt_or_ge j k with h3 | h3
          · exact h2 j h3
          · obtain rfl : j = k := by omega
            exact hy
        · rename_i hy
          have hin := gok_in hg hi (k := k) (by omega)
          have hm := freeN_le (foldV_mono to fu i st k (by omega)) to.length
          obtain ⟨h3, h4⟩ := ih ((to.getD i []).getD k 0).toNat (foldV to fu i st k) (by omega) (by simpa using hy) (by omega)
          have hmono := visit_mono to fu ((to.getD i []).getD k 0).toNat (foldV to fu i st k)
          refine ⟨fun v hv hno y hyy => ?_, fun j hj => ?_⟩
          · by_cases hold : (foldV to fu i st k).1 v = true
            · exact hmono _ (h1 v hold hno y hyy)
            · exact h4 v hv (by simpa using hold) y hyy
          · rcases Nat.lt_or_ge j k with h5 | h5
            · exact hmono _ (h2 j h5)
            · obtain rfl : j = k := by omega
              exact h3
    obtain ⟨h1, h2⟩ := step _ (Nat.le_refl _)
    rw [visit_eq]
    refine ⟨foldV_mono to fu i st _ (Nat.le_refl _) _ (by simp [setB]), fun v hv hno k hk => ?_⟩
    by_cases hvi : v = i
    · subst hvi
      obtain ⟨j, hj, rfl⟩ := List.getElem_of_mem hk
      rw [getD_at hj]
      exact h2 j hj
    · exact h1 v hv (by simp [setB, hvi, hno]) k hk

theorem seen_iff {to : List (List Int)} (hg : GOK to) {i : Nat} (hi : i < to.length) (j : Nat) : seen to i j = true ↔ Way to (-1) i j := by
  obtain ⟨h1, h2⟩ := visit_closed hg (to.length + 1) i (fun _ => false, []) hi rfl (by rw [freeN_no]; omega)
  constructor
  · intro h
    rcases visit_way hg _ i (fun _ => false, []) hi j h with h | h
    · cases h
    · exact h
  · intro h
    induction h with
    | here => exact h1
    | step _ hk _ ih => exact h2 _ ih rfl _ hk

/-! ### a graph that leads as another -/
def reachN (to : List (List Int)) (i : Int) : Nat := if GOK to ∧ 0 ≤ i ∧ i < to.length then to.length else 0

theorem reached_spec (to : List (List Int)) (i : Int) (hf : Fit to) : Pure PG 22 [gv to, vi i] (.d (dBools (reachN to i) (seen to i.toNat))) [] := by
  refine Proc.mk (cfg 21) tysOK [] Try.func22 rfl (by kernel_rfl) rfl rfl rfl ?_
  intro C x
  refine x.pure rfl trivial rfl (right_spec to hf) ⟨veq_d rfl, trivial⟩ ?_
  refine x.cond rfl trivial (fun h => ?_) (fun h => ?_)
  · have e : reachN to i = 0 := by
      simp only [Bool.or_eq_true, Bool.not_eq_true', decide_eq_true_eq, decide_eq_false_iff_not] at h
      unfold reachN
      rw [if_neg]
      rintro ⟨h1, h2, h3⟩
      rcases h with (h | h) | h
      · exact h h1
      · omega
      · omega
    rw [e]
    refine x.exit rfl trivial ?_
    exact ⟨.inr rfl, rfl, trivial, rfl⟩
  · simp only [Bool.or_eq_false_iff, Bool.not_eq_false', decide_eq_true_eq, decide_eq_false_iff_not] at h
    have hg := h.1.1
    have e : reachN to i = to.length := by
      unfold reachN
      rw [if_pos ⟨hg, by omega, by omega⟩]
    rw [e]
    refine x.call [] rfl trivial rfl (walkF_R hg i.toNat (by omega)) rfl ⟨veq_d rfl, ?_, rfl, trivial⟩ trivial ?_
    · show i = ((i.toNat : Nat) : Int); omega
    refine Sx.Go.freeze 0 ?_
    refine x.exit rfl trivial ?_
    exact ⟨.inr rfl, veq_d rfl, trivial, rfl⟩
end Go.Proofs.Ytniojnnbenkbpaa

/- The answer's Same, Without; the law GraphRights. -/
namespace Go.Proofs.Ytniojnnbenkbpaa
open Go.Sx
set_option linter.unusedVariables false
set_option linter.unusedSimpArgs false
set_option maxRecDepth 100000

/-! ### the answer's Without -/
noncomputable def wayB (to : List (List Int)) (no : Int) (i j : Nat) : Bool := @decide (Way to no i j) (Classical.propDecidable _)
theorem wayB_iff {to : List (List Int)} {no : Int} {i j : Nat} : wayB to no i j = true ↔ Way to no i j := @decide_eq_true_iff _ (Classical.propDecidable _)

/-- In a round: what is marked (b), whether anything was marked in it (ag), up to the k-th that v leads to. -/
structure WI (to : List (List Int)) (no : Int) (i : Nat) (b0 b : Nat → Bool) (ag : Bool) (v k : Nat) : Prop where
  here : b i = true
  way : ∀ u, b u = true → Way to no i u
  le : LeB b0 b
  more : ag = true → freeN to.length b < freeN to.length b0
  clo : ag = false → ∀ u, u < v → b u = true → ∀ y ∈ to.getD u [], y ≠ no → b y.toNat = true
  part : ag = false → ∀ m, m < k → (to.getD v []).getD m 0 ≠ no → b ((to.getD v []).getD m 0).toNat = true
theorem WI.row {to : List (List Int)} {no : Int} {i v : Nat} {b0 b : Nat → Bool} {ag : Bool} (h : WI to no i b0 b ag v 0) : WI to no i b0 b ag v 0 := h
theorem WI.next {to : List (List Int)} {no : Int} {i v k : Nat} {b0 b : Nat → Bool} {ag : Bool} (h : WI to no i b0 b ag v k) (hk : (to.getD v []).length ≤ k ∨ b v = false) : WI to no i b0 b ag (v + 1) 0 where
  here := h.here
  way := h.way
  le := h.le
  more := h.more
  clo ha u hu hb y hy hn := by
    rcases Nat.lt_or_ge u v with h1 | h1
    · exact h.clo ha u h1 hb y hy hn
    · obtain rfl : u = v := by omega
      rcases hk with hk | hk
      · obtain ⟨m, hm, rfl⟩ := List.getElem_of_mem hy
        rw [getD_at hm] at hn ⊢
        exact h.part ha m (by omega) hn
      · rw [hk] at hb; cases hb
  part _ m hm := absurd hm (Nat.not_lt_zero _)
theorem WI.skip {to : List (List Int)} {no : Int} {i v k : Nat} {b0 b : Nat → Bool} {ag : Bool} (h : WI to no i b0 b ag v k) (hs : (to.getD v []).getD k 0 = no ∨ b ((to.getD v []).getD k 0).toNat = true) : WI to no i b0 b ag v (k + 1) where
  here := h.here
  way := h.way
  le := h.le
  more := h.more
  clo := h.clo
  part ha m hm hn := by
    rcases Nat.lt_or_ge m k with h1 | h1
    · exact h.part ha m h1 hn
    · obtain rfl : m = k := by omega
      rcases hs with hs | hs
      · exact absurd hs hn
      · exact hs
theorem WI.mark {to : List (List Int)} (hg : GOK to) {no : Int} {i v k : Nat} {b0 b : Nat → Bool} {ag : Bool} (h : WI to no i b0 b ag v k) (hv : v < to.length) (hb : b v = true) (hk : k < (to.getD v []).length) (hn : (to.getD v []).getD k 0 ≠ no)
    (hno : b ((to.getD v []).getD k 0).toNat = false) : WI to no i b0 (setB b ((to.getD v []).getD k 0).toNat) true v (k + 1) where
  here := leB_set _ _ _ h.here
  way u hu := by
    have hu : (if u = ((to.getD v []).getD k 0).toNat then true else b u) = true := hu
    by_cases e : u = ((to.getD v []).getD k 0).toNat
    · rw [e]; exact .step (h.way v hb) (getD_in hk) hn
    · rw [if_neg e] at hu; exact h.way u hu
  le := h.le.trans (leB_set _ _)
  more _ := by
    have hin := gok_in hg hv hk
    have h1 := freeN_set (n := to.length) (by omega : ((to.getD v []).getD k 0).toNat < to.length) hno
    have h2 := freeN_le h.le to.length
    omega
  clo ha := by cases ha
  part ha := by cases ha

theorem without_spec (to : List (List Int)) (hg : GOK to) (i : Nat) (no : Int) (hi : i < to.length) : Pure PG 29 [gv to, vi (i : Int), vi no] (.d (dBools to.length (wayB to no i))) [] := by
  refine Proc.mk (cfg 64) tysOK [] Try.func29 rfl (by kernel_rfl) rfl rfl rfl ?_
  intro C x
  have hn := hg.2.1
  refine x.cond rfl ?_ (fun h => ?_) (fun h => ?_)
  · simp only [AllP, big, Int.toNat_natCast]; omega
  · have h : (i : Int) = no := of_decide_eq_true h
    refine Sx.Go.freeze 0 ?_
    refine x.exit rfl trivial ?_
    refine ⟨.inr rfl, ⟨rfl, fun _ => rfl, fun j hj => ?_⟩, trivial, rfl⟩
    show [D.bool false] = [D.bool (wayB to no i j)]
    have : wayB to no i j = false := by
      rw [Bool.eq_false_iff]
      intro hw
      exact (wayB_iff.1 hw).start h
    rw [this]
  have hne : (i : Int) ≠ no := of_decide_eq_false h
  refine x.loop (α := { y : Bool × (Nat → Bool) // y.2 i = true ∧ (∀ u, y.2 u = true → Way to no i u) ∧ (y.1 = false → ∀ u, u < to.length → y.2 u = true → ∀ k ∈ to.getD u [], k ≠ no → y.2 k.toNat = true) }) (fun y => ⟨[(0, gv to), (1, vi (i : Int)), (2, vi no), (7, .own 0), (8, vb y.1.1)], [(0, beenC to.length y.1.2)], 1⟩) (fun y => 2 * freeN to.length y.1.2 + if y.1.1 then 1 else 0) ⟨(true, setB (fun _ => false) i), by simp [setB], fun u hu => ?_, fun h => by cases h⟩ rfl ?_ ?_ (fun y => ?_)
  · have hu : (if u = i then true else false) = true := hu
    by_cases e : u = i
    · rw [e]; exact .here hne
    · rw [if_neg e] at hu; cases hu
  · simp only [AllP, List.length, Int.toNat_natCast]; omega
  · refine ⟨⟨veq_d rfl, rfl, rfl, rfl, rfl, trivial⟩, ⟨⟨rfl, rfl, rfl, fun j hj => ?_⟩, trivial⟩, rfl⟩
    exact congrFun (put2_bool (fun _ => false) i true) j
  obtain ⟨⟨ag, b⟩, hb1, hb2, hb3⟩ := y
  change Go C _ ⟨[(0, gv to), (1, vi (i : Int)), (2, vi no), (7, .own 0), (8, vb ag)], [(0, beenC to.length b)], 1⟩ _
  dsimp only at hb1 hb2 hb3
  refine x.cond rfl trivial (fun h1 => ?_) (fun h1 => ?_)
  · obtain rfl : ag = true := h1
    refine x.loop (α := { y : Nat × Bool × (Nat → Bool) // y.1 ≤ to.length ∧ WI to no i b y.2.2 y.2.1 y.1 0 }) (fun y => ⟨[(0, gv to), (1, vi (i : Int)), (2, vi no), (7, .own 0), (8, vb y.1.2.1), (9, vi (y.1.1 : Int))], [(0, beenC to.length y.1.2.2)], 1⟩) (fun y => to.length - y.1.1) ⟨(0, false, b), Nat.zero_le _, hb1, hb2, LeB.refl _, fun h => (by cases h), fun _ u hu => absurd hu (Nat.not_lt_zero _), fun _ m hm => absurd hm (Nat.not_lt_zero _)⟩ rfl trivial ?_ (fun y => ?_)
    · exact ⟨⟨veq_d rfl, rfl, rfl, rfl, rfl, rfl, trivial⟩, ⟨⟨rfl, rfl, rfl, fun j hj => rfl⟩, trivial⟩, rfl⟩
    obtain ⟨⟨v, ag, c⟩, hv, hw⟩ := y
    change Go C _ ⟨[(0, gv to), (1, vi (i : Int)), (2, vi no), (7, .own 0), (8, vb ag), (9, vi (v : Int))], [(0, beenC to.length c)], 1⟩ _
    dsimp only at hv hw
    refine x.cond rfl trivial (fun h2 => ?_) (fun h2 => ?_)
    · have h2 : v < to.length := by have := of_decide_eq_true h2; omega
      refine x.cond rfl (by simp only [AllP]; omega) (fun h3 => ?_) (fun h3 => ?_)
      · have h3 : c v = false := by
          have h3 : (!c v) = true := h3
          simpa using h3
        exact x.back rfl (show inI64 _ by unfold inI64; omega) ⟨⟨(v + 1, ag, c), by show v + 1 ≤ _; omega, hw.next (.inr h3)⟩, by show to.length - (v + 1) < to.length - v; omega, ⟨veq_d rfl, rfl, rfl, rfl, rfl, rfl, trivial⟩, ⟨⟨rfl, rfl, rfl, fun j hj => rfl⟩, trivial⟩, rfl⟩
      have h3 : c v = true := by
        have h3 : (!c v) = false := h3
        simpa using h3
      obtain ⟨row, hrow⟩ : ∃ l, to.getD v [] = l := ⟨_, rfl⟩
      have hrl : row.length ≤ 256 := by rw [← hrow]; exact Nat.le_trans (row_len (gok_row hg h2)) hn
      refine x.loop (α := { y : Nat × Bool × (Nat → Bool) // y.1 ≤ row.length ∧ y.2.2 v = true ∧ WI to no i b y.2.2 y.2.1 v y.1 }) (fun y => ⟨[(0, gv to), (1, vi (i : Int)), (2, vi no), (7, .own 0), (8, vb y.1.2.1), (9, vi (v : Int)), (10, vi (y.1.1 : Int))], [(0, beenC to.length y.1.2.2)], 1⟩) (fun y => row.length - y.1.1) ⟨(0, ag, c), Nat.zero_le _, h3, hw⟩ rfl trivial ?_ (fun y => ?_)
      · exact ⟨⟨veq_d rfl, rfl, rfl, rfl, rfl, rfl, rfl, trivial⟩, ⟨⟨rfl, rfl, rfl, fun j hj => rfl⟩, trivial⟩, rfl⟩
      obtain ⟨⟨k, ag, c⟩, hk, hcv, hw⟩ := y
      change Go C _ ⟨[(0, gv to), (1, vi (i : Int)), (2, vi no), (7, .own 0), (8, vb ag), (9, vi (v : Int)), (10, vi (k : Int))], [(0, beenC to.length c)], 1⟩ _
      dsimp only at hk hcv hw
      refine x.cond rfl (show _ ∧ _ by omega) (fun h4 => ?_) (fun h4 => ?_)
      · have h4 : k < row.length := by
          have h4 : (k : Int) < ((to.getD v []).length : Int) := of_decide_eq_true h4
          rw [hrow] at h4
          omega
        have hin := gok_in hg h2 (k := k) (by rw [hrow]; exact h4)
        refine x.cond rfl ?_ (fun h5 => ?_) (fun h5 => ?_)
        · simp only [AllP]
          simp only [show ((v : Int)).toNat = v from rfl, show ((k : Int)).toNat = k from rfl, hrow]
          rw [hrow] at hin
          exact ⟨by omega, by omega, fun _ => by omega, fun _ => by omega⟩
        · have h5 : (!decide ((to.getD v []).getD k 0 = no) && !c ((to.getD v []).getD k 0).toNat) = true := h5
          simp only [Bool.and_eq_true, Bool.not_eq_true', decide_eq_false_iff_not] at h5
          have hm := hw.mark hg h2 hcv (by rw [hrow]; exact h4) h5.1 h5.2
          have hput : ∀ j, put2 (fun j => [D.bool (c j)]) ((to.getD v []).getD k 0).toNat 0 [.bool true] j = [D.bool (setB c ((to.getD v []).getD k 0).toNat j)] := fun j => congrFun (put2_bool c _ true) j
          refine x.back rfl ?_ ⟨⟨(k + 1, true, setB c ((to.getD v []).getD k 0).toNat), by show k + 1 ≤ _; omega, leB_set _ _ _ hcv, hm⟩, by show row.length - (k + 1) < row.length - k; omega, ⟨veq_d rfl, rfl, rfl, rfl, rfl, rfl, rfl, trivial⟩, ⟨⟨rfl, rfl, rfl, fun j hj => hput j⟩, trivial⟩, rfl⟩
          simp only [AllP, List.length, inI64]
          simp only [show ((v : Int)).toNat = v from rfl, show ((k : Int)).toNat = k from rfl]
          exact ⟨by omega, ⟨by omega, Nat.le_refl _⟩, by omega⟩
        · have h5 : (!decide ((to.getD v []).getD k 0 = no) && !c ((to.getD v []).getD k 0).toNat) = false := h5
          have hs : (to.getD v []).getD k 0 = no ∨ c ((to.getD v []).getD k 0).toNat = true := by
            simp only [Bool.and_eq_false_iff, Bool.not_eq_false', decide_eq_true_eq] at h5
            exact h5
          exact x.back rfl (show inI64 _ by unfold inI64; omega) ⟨⟨(k + 1, ag, c), by show k + 1 ≤ _; omega, hcv, hw.skip hs⟩, by show row.length - (k + 1) < row.length - k; omega, ⟨veq_d rfl, rfl, rfl, rfl, rfl, rfl, rfl, trivial⟩, ⟨⟨rfl, rfl, rfl, fun j hj => rfl⟩, trivial⟩, rfl⟩
      · have h4 : row.length ≤ k := by
          have h4 : ¬ (k : Int) < ((to.getD v []).length : Int) := of_decide_eq_false h4
          rw [hrow] at h4
          omega
        exact x.back rfl (show inI64 _ by unfold inI64; omega) ⟨⟨(v + 1, ag, c), by show v + 1 ≤ _; omega, hw.next (.inl (by rw [hrow]; exact h4))⟩, by show to.length - (v + 1) < to.length - v; omega, ⟨veq_d rfl, rfl, rfl, rfl, rfl, rfl, trivial⟩, ⟨⟨rfl, rfl, rfl, fun j hj => rfl⟩, trivial⟩, rfl⟩
    · have h2 : v = to.length := by have := of_decide_eq_false h2; omega
      subst h2
      refine x.back rfl trivial ⟨⟨(ag, c), hw.here, hw.way, fun ha => hw.clo ha⟩, ?_, ⟨veq_d rfl, rfl, rfl, rfl, rfl, trivial⟩, ⟨⟨rfl, rfl, rfl, fun j hj => rfl⟩, trivial⟩, rfl⟩
      show 2 * freeN to.length c + (if ag = true then 1 else 0) < 2 * freeN to.length b + 1
      have := freeN_le hw.le to.length
      cases hag : ag with
      | true => have := hw.more hag; simp; omega
      | false => simp; omega
  · obtain rfl : ag = false := h1
    refine Sx.Go.freeze 0 ?_
    refine x.exit rfl trivial ?_
    refine ⟨.inr rfl, ⟨rfl, fun _ => rfl, fun j hj => ?_⟩, trivial, rfl⟩
    show [D.bool (b j)] = [D.bool (wayB to no i j)]
    have : b j = wayB to no i j := by
      rw [Bool.eq_iff_iff, wayB_iff]
      refine ⟨hb2 j, fun hw => ?_⟩
      clear hj
      induction hw with
      | here => exact hb1
      | step hw hk hno ih => exact hb3 rfl _ (hw.lt hg hi) ih _ hk hno
    rw [this]

theorem backL_fit (to : List (List Int)) (hg : GOK to) : Fit (backL to) := by
  have hn := hg.2.1
  refine ⟨by simp [backL]; omega, fun l hl => ?_⟩
  obtain ⟨v, hv, rfl⟩ := List.mem_map.1 hl
  have := into_len to to.length v
  omega
theorem backG_fit (to : List (List Int)) : Fit (backG to) := by
  unfold backG
  split
  · rename_i hg
    exact backL_fit to hg
  · exact ⟨by simp, by simp⟩

end Go.Proofs.Ytniojnnbenkbpaa

/- A graph turned round twice. -/
namespace Go.Proofs.Ytniojnnbenkbpaa
open Go.Sx
set_option linter.unusedVariables false
set_option linter.unusedSimpArgs false
set_option maxRecDepth 100000

theorem mem_into {to : List (List Int)} {i v : Nat} {y : Int} : y ∈ into to i v ↔ ∃ j : Nat, j < i ∧ (j : Int) = y ∧ (v : Int) ∈ to.getD j [] := by
  unfold into
  simp only [List.mem_map, List.mem_filter, List.mem_range, List.contains_iff_mem]
  constructor
  · rintro ⟨j, ⟨h1, h2⟩, h3⟩; exact ⟨j, h1, h3, h2⟩
  · rintro ⟨j, h1, h3, h2⟩; exact ⟨j, ⟨h1, h2⟩, h3⟩
theorem into_sorted (to : List (List Int)) (i v : Nat) : (into to i v).Pairwise (· < ·) := by
  unfold into
  rw [List.pairwise_map]
  exact ((List.pairwise_lt_range (n := i)).filter _).imp fun h => by omega
theorem into_nodup (to : List (List Int)) (i v : Nat) : (into to i v).Nodup := by
  rw [List.nodup_iff_pairwise_ne]
  exact (into_sorted to i v).imp fun h => by omega
theorem backL_len (to : List (List Int)) : (backL to).length = to.length := by simp [backL]
theorem backL_row (to : List (List Int)) {v : Nat} (hv : v < to.length) : (backL to).getD v [] = into to to.length v := by
  rw [backL, List.getD_eq_getElem?_getD, List.getElem?_map, List.getElem?_range hv]; rfl
theorem backL_gok {to : List (List Int)} (hg : GOK to) : GOK (backL to) := by
  refine ⟨by rw [backL_len]; exact hg.1, by rw [backL_len]; exact hg.2.1, fun l hl => ?_⟩
  rw [backL_len]
  obtain ⟨v, hv, rfl⟩ := List.mem_map.1 hl
  refine ⟨fun y hy => ?_, into_nodup _ _ _⟩
  obtain ⟨j, h1, rfl, _⟩ := mem_into.1 hy
  omega
/-- Turned round: j leads to v just if v leads to j there. -/
theorem mem_backL {to : List (List Int)} (hg : GOK to) {j v : Nat} (hv : v < to.length) : (j : Int) ∈ (backL to).getD v [] ↔ j < to.length ∧ (v : Int) ∈ to.getD j [] := by
  rw [backL_row to hv, mem_into]
  constructor
  · rintro ⟨k, h1, h2, h3⟩
    obtain rfl : k = j := by omega
    exact ⟨h1, h3⟩
  · rintro ⟨h1, h2⟩
    exact ⟨j, h1, rfl, h2⟩
/-- Turned round twice, a row is the first one, in order. -/
theorem back2_mem {to : List (List Int)} (hg : GOK to) {i : Nat} (hi : i < to.length) (y : Int) : y ∈ (backL (backL to)).getD i [] ↔ y ∈ to.getD i [] := by
  have hg2 := backL_gok hg
  have hi2 : i < (backL to).length := by rw [backL_len]; exact hi
  constructor
  · intro h
    have hy := (gok_row (backL_gok hg2) (by rw [backL_len]; exact hi2)).1 y h
    rw [show y = ((y.toNat : Nat) : Int) by omega] at h ⊢
    have h1 := (mem_backL hg2 hi2).1 h
    rw [backL_len] at h1
    exact ((mem_backL hg h1.1).1 h1.2).2
  · intro h
    have hy := (gok_row hg hi).1 y h
    rw [show y = ((y.toNat : Nat) : Int) by omega] at h ⊢
    exact (mem_backL hg2 hi2).2 ⟨by rw [backL_len]; omega, (mem_backL hg (by omega)).2 ⟨hi, h⟩⟩
theorem back2_len {to : List (List Int)} (hg : GOK to) {i : Nat} (hi : i < to.length) : ((backL (backL to)).getD i []).length = (to.getD i []).length := by
  have hg2 := backL_gok (backL_gok hg)
  have h1 := (gok_row hg hi).2
  have h2 := (gok_row hg2 (by rw [backL_len, backL_len]; exact hi)).2
  exact Nat.le_antisymm (h2.length_le_of_subset fun y hy => (back2_mem hg hi y).1 hy) (h1.length_le_of_subset fun y hy => (back2_mem hg hi y).2 hy)

theorem way_back {to : List (List Int)} (hg : GOK to) {i j : Nat} (hi : i < to.length) (h : Way to (-1) i j) : Way (backL to) (-1) j i := by
  induction h with
  | here h => exact .here h
  | step hw hk hn ih =>
    rename_i j k
    have hj := hw.lt hg hi
    have hin := (gok_row hg hj).1 _ hk
    have h1 : (j : Int) ∈ (backL to).getD k.toNat [] := (mem_backL hg (by omega)).2 ⟨hj, by rw [show ((k.toNat : Nat) : Int) = k by omega]; exact hk⟩
    have h2 : Way (backL to) (-1) k.toNat j := Way.step (k := (j : Int)) (.here (by omega)) h1 (by omega)
    exact h2.trans ih
theorem Way.mono {A B : List (List Int)} (hg : GOK A) {no : Int} (hs : ∀ v, v < A.length → ∀ y ∈ A.getD v [], y ∈ B.getD v []) {i j : Nat} (hi : i < A.length) (h : Way A no i j) : Way B no i j := by
  induction h with
  | here h => exact .here h
  | step hw hk hn ih => exact .step ih (hs _ (hw.lt hg hi) _ hk) hn
theorem way_back_iff {to : List (List Int)} (hg : GOK to) {i j : Nat} (hi : i < to.length) (hj : j < to.length) : Way (backL to) (-1) j i ↔ Way to (-1) i j := by
  refine ⟨fun h => ?_, way_back hg hi⟩
  have h2 := way_back (backL_gok hg) (by rw [backL_len]; exact hj) h
  exact h2.mono (backL_gok (backL_gok hg)) (fun v hv y hy => (back2_mem hg (by rw [backL_len, backL_len] at hv; exact hv) y).1 hy) (by rw [backL_len, backL_len]; exact hi)

end Go.Proofs.Ytniojnnbenkbpaa

/- The first node that is not reached; the first that does not end. -/
namespace Go.Proofs.Ytniojnnbenkbpaa
open Go.Sx
set_option linter.unusedVariables false
set_option linter.unusedSimpArgs false
set_option maxRecDepth 100000

/-- The first of n flags that is v, or none. -/
def fstB (b : Nat → Bool) (v : Bool) (n : Nat) : Int := match (List.range n).find? fun j => b j == v with
  | some j => j
  | none => -1
theorem fstB_found {b : Nat → Bool} {v : Bool} {n i : Nat} (hi : i < n) (hb : b i = v) (hno : ∀ j, j < i → b j ≠ v) : fstB b v n = i := by
  unfold fstB
  have : (List.range n).find? (fun j => b j == v) = some i := by
    rw [List.find?_range_eq_some]
    exact ⟨by simp [hb], by simp [hi], fun j hj => by simpa using hno j hj⟩
  rw [this]
theorem fstB_none {b : Nat → Bool} {v : Bool} {n : Nat} (hno : ∀ j, j < n → b j ≠ v) : fstB b v n = -1 := by
  unfold fstB
  have : (List.range n).find? (fun j => b j == v) = none := by
    rw [List.find?_range_eq_none]
    exact fun j hj => by simpa using hno j hj
  rw [this]
theorem fstB_congr {b c : Nat → Bool} {v : Bool} {n : Nat} (h : ∀ j, j < n → b j = c j) : fstB b v n = fstB c v n := by
  by_cases hx : ∃ i, i < n ∧ c i = v
  · have hd : ∀ m, (∃ i, i < m ∧ i < n ∧ c i = v) → ∃ i, i < n ∧ c i = v ∧ ∀ j, j < i → c j ≠ v := fun m => by
      induction m with
      | zero => rintro ⟨i, h, _⟩; omega
      | succ m ih =>
        intro h0
        by_cases h1 : ∃ i, i < m ∧ i < n ∧ c i = v
        · exact ih h1
        · obtain ⟨i, h2, h3, h4⟩ := h0
          exact ⟨i, h3, h4, fun j hj e => h1 ⟨j, by omega, by omega, e⟩⟩
    obtain ⟨i, hi, hc⟩ := hx
    obtain ⟨i, h1, h2, h3⟩ := hd (i + 1) ⟨i, by omega, hi, hc⟩
    rw [fstB_found h1 h2 h3, fstB_found h1 ((h i h1).trans h2) fun j hj => by rw [h j (by omega)]; exact h3 j hj]
  · rw [fstB_none fun j hj e => hx ⟨j, hj, e⟩, fstB_none fun j hj e => hx ⟨j, hj, by rw [← h j hj]; exact e⟩]
theorem fstB_bound (b : Nat → Bool) (v : Bool) (n : Nat) : -1 ≤ fstB b v n ∧ fstB b v n < max n 1 := by
  unfold fstB
  split
  · rename_i j hj
    have := List.mem_range.1 (List.mem_of_find?_eq_some hj)
    omega
  · omega

theorem index_spec (n : Nat) (b : Nat → Bool) (v : Bool) (hn : n ≤ 9223372036854775807) : Pure PG 47 [.d (dBools n b), vb v] (vi (fstB b v n)) [] := by
  refine Proc.mk (cfg 19) tysOK [] Try.func47 rfl (by kernel_rfl) rfl rfl rfl ?_
  intro C x
  refine x.loop (α := { i : Nat // i ≤ n ∧ ∀ j, j < i → b j ≠ v }) (fun y => ⟨[(0, .d (dBools n b)), (1, vb v), (7, vi (n : Int)), (8, vi (y.1 : Int))], [], 0⟩) (fun y => n - y.1) ⟨0, by omega, fun j hj => by omega⟩ rfl trivial ⟨⟨veq_d rfl, rfl, rfl, rfl, trivial⟩, trivial, rfl⟩ (fun y => ?_)
  obtain ⟨i, hi, hup⟩ := y
  change Go C _ ⟨[(0, .d (dBools n b)), (1, vb v), (7, vi (n : Int)), (8, vi (i : Int))], [], 0⟩ _
  refine x.cond rfl trivial (fun h1 => ?_) (fun h1 => ?_)
  · have h1 : i < n := by have := of_decide_eq_true h1; omega
    refine x.cond rfl (by simp only [AllP]; omega) (fun h2 => ?_) (fun h2 => ?_)
    · have h2 : (v == b i) = true := h2
      refine x.exit rfl trivial ?_
      refine ⟨.inr rfl, ?_, trivial, rfl⟩
      show (i : Int) = fstB b v n
      exact (fstB_found h1 (by simpa using Eq.symm (eq_of_beq h2)) hup).symm
    · have h2 : (v == b i) = false := h2
      refine x.back rfl (show inI64 _ by unfold inI64; omega) ⟨⟨i + 1, by omega, fun j hj => ?_⟩, by show n - (i + 1) < n - i; omega, ⟨veq_d rfl, rfl, rfl, rfl, trivial⟩, trivial, rfl⟩
      rcases Nat.lt_or_ge j i with h3 | h3
      · exact hup j h3
      · obtain rfl : j = i := by omega
        intro e
        rw [e] at h2
        simp at h2
  · have h1 : i = n := by have := of_decide_eq_false h1; omega
    subst h1
    refine x.exit rfl trivial ?_
    refine ⟨.inr rfl, ?_, trivial, rfl⟩
    show (-1 : Int) = fstB b v i
    exact (fstB_none hup).symm

/-- At least 0. -/
def mx0 (a : Int) : Int := if 0 > a then 0 else a
theorem first_spec (n : Nat) (b : Nat → Bool) (hn : n ≤ 9223372036854775807) : Pure PG 42 [.d (dBools n b)] (.tup [vi (mx0 (fstB b false n)), vb (decide (0 ≤ fstB b false n))]) [] := by
  refine Proc.mk (cfg 11) tysOK [] Try.func42 rfl (by kernel_rfl) rfl rfl rfl ?_
  intro C x
  refine x.pure rfl trivial rfl (index_spec n b false hn) ⟨veq_d rfl, rfl, trivial⟩ ?_
  refine x.exit rfl trivial ?_
  exact ⟨.inr rfl, ⟨rfl, rfl, trivial⟩, trivial, rfl⟩

/-! ### Lost -/
def lostN (to : List (List Int)) : Int := if GOK to then fstB (seen to 0) false to.length else -1
theorem lost_spec (to : List (List Int)) (hf : Fit to) : Pure PG 32 [gv to] (.tup [vi (mx0 (lostN to)), vb (decide (0 ≤ lostN to))]) [] := by
  refine Proc.mk (cfg 12) tysOK [] Try.func32 rfl (by kernel_rfl) rfl rfl rfl ?_
  intro C x
  refine x.pure rfl trivial rfl (right_spec to hf) ⟨veq_d rfl, trivial⟩ ?_
  refine x.cond rfl trivial (fun h => ?_) (fun h => ?_)
  · have hg : ¬ GOK to := by simpa using h
    have e : lostN to = -1 := by rw [lostN, if_neg hg]
    rw [e]
    refine x.exit rfl trivial ?_
    exact ⟨.inr rfl, ⟨rfl, rfl, trivial⟩, trivial, rfl⟩
  have hg : GOK to := by simpa using h
  have hn := hg.2.1
  have e : lostN to = fstB (seen to 0) false to.length := by rw [lostN, if_pos hg]
  rw [e]
  refine x.pure rfl trivial rfl (reached_spec to 0 hf) ⟨veq_d rfl, rfl, trivial⟩ ?_
  have r1 : reachN to 0 = to.length := by
    unfold reachN
    rw [if_pos ⟨hg, by omega, by have := hg.1; omega⟩]
  rw [r1]
  refine x.pure rfl trivial rfl (first_spec to.length (seen to 0) (by omega)) ⟨veq_d rfl, trivial⟩ ?_
  refine x.exit rfl trivial ?_
  exact ⟨.inr rfl, ⟨rfl, rfl, trivial⟩, trivial, rfl⟩

theorem reflost_spec (to : List (List Int)) (hg : GOK to) : Pure PG 38 [gv to] (vi (fstB (wayB to (-1) 0) false to.length)) [] := by
  refine Proc.mk (cfg 19) tysOK [] Try.func38 rfl (by kernel_rfl) rfl rfl rfl ?_
  intro C x
  have hn := hg.2.1
  refine x.pure rfl trivial rfl (without_spec to hg 0 (-1) hg.1) ⟨veq_d rfl, rfl, rfl, trivial⟩ ?_
  obtain ⟨b, hb⟩ : ∃ b, wayB to (-1) 0 = b := ⟨_, rfl⟩
  rw [hb]
  refine x.loop (α := { i : Nat // i ≤ to.length ∧ ∀ j, j < i → b j ≠ false }) (fun y => ⟨[(0, gv to), (3, .d (dBools to.length b)), (4, vi (y.1 : Int))], [], 0⟩) (fun y => to.length - y.1) ⟨0, by omega, fun j hj => by omega⟩ rfl trivial ⟨⟨veq_d rfl, veq_d rfl, rfl, trivial⟩, trivial, rfl⟩ (fun y => ?_)
  obtain ⟨i, hi, hup⟩ := y
  change Go C _ ⟨[(0, gv to), (3, .d (dBools to.length b)), (4, vi (i : Int))], [], 0⟩ _
  refine x.cond rfl trivial (fun h1 => ?_) (fun h1 => ?_)
  · have h1 : i < to.length := by have := of_decide_eq_true h1; omega
    refine x.cond rfl (by simp only [AllP]; omega) (fun h2 => ?_) (fun h2 => ?_)
    · have h2 : b i = false := by
        have h2 : (!b i) = true := h2
        simpa using h2
      refine x.exit rfl trivial ?_
      refine ⟨.inr rfl, ?_, trivial, rfl⟩
      show (i : Int) = fstB b false to.length
      exact (fstB_found h1 h2 hup).symm
    · have h2 : b i = true := by
        have h2 : (!b i) = false := h2
        simpa using h2
      refine x.back rfl (show inI64 _ by unfold inI64; omega) ⟨⟨i + 1, by omega, fun j hj => ?_⟩, by show to.length - (i + 1) < to.length - i; omega, ⟨veq_d rfl, veq_d rfl, rfl, trivial⟩, trivial, rfl⟩
      rcases Nat.lt_or_ge j i with h3 | h3
      · exact hup j h3
      · obtain rfl : j = i := by omega
        rw [h2]; simp
  · have h1 : i = to.length := by have := of_decide_eq_false h1; omega
    refine x.exit rfl trivial ?_
    refine ⟨.inr rfl, ?_, trivial, rfl⟩
    show (-1 : Int) = fstB b false to.length
    exact (fstB_none fun j hj => hup j (by omega)).symm
end Go.Proofs.Ytniojnnbenkbpaa

/- The order in which nodes are told: each that is reached once; what leads to one that is told later lies in a circle. -/
namespace Go.Proofs.Ytniojnnbenkbpaa
open Go.Sx
set_option linter.unusedVariables false
set_option linter.unusedSimpArgs false
set_option maxRecDepth 100000

/-- What a visit tells: each node that it marks, once; and what each of these leads to is told ahead of it, or leads back to it. -/
structure Told (to : List (List Int)) (st st' : DS) (new : List Int) : Prop where
  app : st'.2 = st.2 ++ new
  nodup : new.Nodup
  mem : ∀ v : Nat, (v : Int) ∈ new ↔ (st'.1 v = true ∧ st.1 v = false)
  pos : ∀ y ∈ new, 0 ≤ y

theorem Told.nil (to : List (List Int)) (st : DS) : Told to st st [] :=
  ⟨by simp, List.nodup_nil, fun v => ⟨fun h => (by cases h), fun h => by rw [h.1] at h; cases h.2⟩, fun y h => by cases h⟩
theorem Told.trans {to : List (List Int)} {a b c : DS} {l m : List Int} (hab : LeB a.1 b.1) (hbc : LeB b.1 c.1) (h1 : Told to a b l) (h2 : Told to b c m) : Told to a c (l ++ m) where
  app := by rw [h2.app, h1.app, List.append_assoc]
  nodup := by
    rw [List.nodup_append]
    refine ⟨h1.nodup, h2.nodup, fun x hx y hy e => ?_⟩
    subst e
    have hp := h1.pos x hx
    rw [show x = ((x.toNat : Nat) : Int) by omega] at hx hy
    have e1 := ((h1.mem _).1 hx).1
    have e2 := ((h2.mem _).1 hy).2
    rw [e1] at e2; cases e2
  mem v := by
    rw [List.mem_append, h1.mem, h2.mem]
    constructor
    · rintro (⟨e1, e2⟩ | ⟨e1, e2⟩)
      · exact ⟨hbc _ e1, e2⟩
      · refine ⟨e1, ?_⟩
        cases h : a.1 v with
        | false => rfl
        | true => rw [hab v h] at e2; cases e2
    · rintro ⟨e1, e2⟩
      cases h : b.1 v with
      | true => exact .inl ⟨rfl, e2⟩
      | false => exact .inr ⟨e1, rfl⟩
  pos y hy := by
    rcases List.mem_append.1 hy with hy | hy
    · exact h1.pos y hy
    · exact h2.pos y hy

theorem visit_told {to : List (List Int)} (hg : GOK to) (fu : Nat) : ∀ (i : Nat) (st : DS), i < to.length → st.1 i = false → freeN to.length st.1 ≤ fu → ∃ new, Told to st (visit to fu i st) new ∧ ∃ l, new = l ++ [(i : Int)] := by
  induction fu with
  | zero => exact fun i st hi hb hf => absurd (freeN_pos hi hb) (by omega)
  | succ fu ih =>
    intro i st hi hb hf
    have hf2 := freeN_set hi hb
    have step : ∀ k, k ≤ (to.getD i []).length → ∃ new, Told to (setB st.1 i, st.2) (foldV to fu i st k) new := fun k => by
      induction k with
      | zero => exact fun _ => ⟨[], Told.nil _ _⟩
      | succ k ih2 =>
        intro hk
        obtain ⟨l, hl⟩ := ih2 (by omega)
        rw [foldV_succ to fu i st (by omega)]
        unfold stepV
        split
        · exact ⟨l, hl⟩
        · rename_i hy
          have hin := gok_in hg hi (k := k) (by omega)
          have hm := freeN_le (foldV_mono to fu i st k (by omega)) to.length
          obtain ⟨m, hm2, _⟩ := ih ((to.getD i []).getD k 0).toNat (foldV to fu i st k) (by omega) (by simpa using hy) (by omega)
          exact ⟨l ++ m, hl.trans (foldV_mono to fu i st k (by omega)) (visit_mono _ _ _ _) hm2⟩
    obtain ⟨l, hl⟩ := step _ (Nat.le_refl _)
    refine ⟨l ++ [(i : Int)], ?_, l, rfl⟩
    rw [visit_eq]
    have hii : (foldV to fu i st (to.getD i []).length).1 i = true := foldV_mono to fu i st _ (Nat.le_refl _) i (by simp [setB])
    have hno : (i : Int) ∉ l := fun h => by
      have := ((hl.mem i).1 h).2
      simp [setB] at this
    refine ⟨by show (foldV to fu i st (to.getD i []).length).2 ++ [(i : Int)] = st.2 ++ (l ++ [(i : Int)]); rw [hl.app, List.append_assoc], ?_, fun v => ?_, fun y hy => ?_⟩
    · rw [List.nodup_append]
      exact ⟨hl.nodup, by simp, fun x hx y hy e => by simp at hy; subst hy; subst e; exact hno hx⟩
    · rw [List.mem_append, hl.mem, List.mem_singleton]
      constructor
      · rintro (⟨e1, e2⟩ | e1)
        · refine ⟨e1, ?_⟩
          have e2 : (if v = i then true else st.1 v) = false := e2
          by_cases hv : v = i
          · rw [if_pos hv] at e2; cases e2
          · rw [if_neg hv] at e2; exact e2
        · obtain rfl : v = i := by omega
          exact ⟨hii, hb⟩
      · rintro ⟨e1, e2⟩
        by_cases hv : v = i
        · exact .inr (by omega)
        · exact .inl ⟨e1, by simp [setB, hv, e2]⟩
    · rcases List.mem_append.1 hy with hy | hy
      · exact hl.pos y hy
      · rw [List.mem_singleton.1 hy]; omega

theorem foldV_marked {to : List (List Int)} (hg : GOK to) (fu : Nat) {i : Nat} {st : DS} (hi : i < to.length) (hb : st.1 i = false) (hf : freeN to.length st.1 ≤ fu + 1) : ∀ k, k ≤ (to.getD i []).length → ∀ j, j < k → (foldV to fu i st k).1 ((to.getD i []).getD j 0).toNat = true := fun k => by
  have hf2 := freeN_set hi hb
  induction k with
  | zero => exact fun _ j hj => absurd hj (Nat.not_lt_zero _)
  | succ k ih =>
    intro hk j hj
    rw [foldV_succ to fu i st (by omega)]
    have hin := gok_in hg hi (k := k) (by omega)
    have hm := freeN_le (foldV_mono to fu i st k (by omega)) to.length
    rcases Nat.lt_or_ge j k with h1 | h1
    · exact stepV_mono _ _ _ _ _ (ih (by omega) j h1)
    · obtain rfl : j = k := by omega
      unfold stepV
      split
      · assumption
      · rename_i hy
        exact (visit_closed hg fu ((to.getD i []).getD j 0).toNat (foldV to fu i st j) (by omega) (by simpa using hy) (by omega)).1
theorem foldV_told {to : List (List Int)} (hg : GOK to) (fu : Nat) {i : Nat} {st : DS} (hi : i < to.length) (hb : st.1 i = false) (hf : freeN to.length st.1 ≤ fu + 1) : ∀ k, k ≤ (to.getD i []).length → ∃ new, Told to (setB st.1 i, st.2) (foldV to fu i st k) new := fun k => by
  have hf2 := freeN_set hi hb
  induction k with
  | zero => exact fun _ => ⟨[], Told.nil _ _⟩
  | succ k ih2 =>
    intro hk
    obtain ⟨l, hl⟩ := ih2 (by omega)
    rw [foldV_succ to fu i st (by omega)]
    unfold stepV
    split
    · exact ⟨l, hl⟩
    · rename_i hy
      have hin := gok_in hg hi (k := k) (by omega)
      have hm := freeN_le (foldV_mono to fu i st k (by omega)) to.length
      obtain ⟨m, hm2, _⟩ := visit_told hg fu ((to.getD i []).getD k 0).toNat (foldV to fu i st k) (by omega) (by simpa using hy) (by omega)
      exact ⟨l ++ m, hl.trans (foldV_mono to fu i st k (by omega)) (visit_mono _ _ _ _) hm2⟩

/-- Whoever is marked and not told leads to i. -/
def Gray (to : List (List Int)) (st : DS) (i : Nat) : Prop := ∀ v : Nat, st.1 v = true → (v : Int) ∉ st.2 → Way to (-1) v i
/-- What a node that is told leads to was told ahead of it, or leads back. -/
def Ahead (to : List (List Int)) (n : Nat) (out : List Int) : Prop := ∀ p, n ≤ p → p < out.length → ∀ v ∈ to.getD (out.getD p 0).toNat [], (∃ q, q < p ∧ out.getD q 0 = v) ∨ Way to (-1) v.toNat (out.getD p 0).toNat

theorem getD_app {l m : List Int} {p : Nat} (h : p < l.length) : (l ++ m).getD p 0 = l.getD p 0 := by
  rw [List.getD_eq_getElem?_getD, List.getElem?_append_left h, ← List.getD_eq_getElem?_getD]
theorem Ahead.trans {to : List (List Int)} {n : Nat} {l m : List Int} (h1 : Ahead to n l) (h2 : Ahead to l.length (l ++ m)) : Ahead to n (l ++ m) := by
  intro p hp hpl v hv
  rcases Nat.lt_or_ge p l.length with h | h
  · rw [getD_app h] at hv ⊢
    rcases h1 p hp h v hv with ⟨q, hq, e⟩ | hw
    · exact .inl ⟨q, hq, by rw [getD_app (by omega)]; exact e⟩
    · exact .inr hw
  · exact h2 p h hpl v hv

theorem visit_ahead {to : List (List Int)} (hg : GOK to) (fu : Nat) : ∀ (i : Nat) (st : DS), i < to.length → st.1 i = false → freeN to.length st.1 ≤ fu → Gray to st i → (∀ v : Nat, (v : Int) ∈ st.2 → st.1 v = true) → Ahead to st.2.length (visit to fu i st).2 := by
  induction fu with
  | zero => exact fun i st hi hb hf => absurd (freeN_pos hi hb) (by omega)
  | succ fu ih =>
    intro i st hi hb hf hgr hsub
    have hf2 := freeN_set hi hb
    -- whoever is marked and not told, on the way
    have gray : ∀ k, k ≤ (to.getD i []).length → Gray to (foldV to fu i st k) i := fun k hk v hv hno => by
      obtain ⟨l, hl⟩ := foldV_told hg fu hi hb hf k hk
      rw [hl.app, List.mem_append] at hno
      cases h : setB st.1 i v with
      | false => exact absurd (.inr ((hl.mem v).2 ⟨hv, h⟩)) hno
      | true =>
        have h : (if v = i then true else st.1 v) = true := h
        by_cases hvi : v = i
        · subst hvi; exact .here (by omega)
        · rw [if_neg hvi] at h
          exact hgr v h (fun hm => hno (.inl hm))
    have step : ∀ k, k ≤ (to.getD i []).length → Ahead to st.2.length (foldV to fu i st k).2 := fun k => by
      induction k with
      | zero => exact fun _ p hp hpl => absurd hpl (by rw [foldV_zero]; show ¬ p < st.2.length; omega)
      | succ k ih2 =>
        intro hk
        have h1 := ih2 (by omega)
        have hgk := gray k (by omega)
        rw [foldV_succ to fu i st (by omega)]
        unfold stepV
        split
        · exact h1
        · rename_i hy
          have hin := gok_in hg hi (k := k) (by omega)
          have hm := freeN_le (foldV_mono to fu i st k (by omega)) to.length
          obtain ⟨m, hm2, _⟩ := visit_told hg fu ((to.getD i []).getD k 0).toNat (foldV to fu i st k) (by omega) (by simpa using hy) (by omega)
          have h2 := ih ((to.getD i []).getD k 0).toNat (foldV to fu i st k) (by omega) (by simpa using hy) (by omega) (fun v hv hno => (hgk v hv hno).trans (.step (.here (by omega)) (getD_in (by omega : k < (to.getD i []).length)) (by omega))) (fun v hv => by
            obtain ⟨l, hl⟩ := foldV_told hg fu hi hb hf k (by omega)
            rw [hl.app, List.mem_append] at hv
            rcases hv with hv | hv
            · exact foldV_mono to fu i st k (by omega) v (leB_set _ _ _ (hsub v hv))
            · exact ((hl.mem v).1 hv).1)
          rw [hm2.app] at h2 ⊢
          exact h1.trans h2
    have h1 := step _ (Nat.le_refl _)
    rw [visit_eq]
    refine h1.trans fun p hp hpl v hv => ?_
    have hp : p = (foldV to fu i st (to.getD i []).length).2.length := by
      simp only [List.length_append, List.length_singleton] at hpl
      omega
    have hu : ((foldV to fu i st (to.getD i []).length).2 ++ [(i : Int)]).getD p 0 = i := by
      rw [hp, List.getD_eq_getElem?_getD, List.getElem?_append_right (Nat.le_refl _)]; simp
    rw [hu, Int.toNat_natCast] at hv ⊢
    obtain ⟨j, hj, rfl⟩ := List.getElem_of_mem hv
    rw [getD_at hj]
    have hmk := foldV_marked hg fu hi hb hf _ (Nat.le_refl _) j hj
    have hij := gok_in hg hi hj
    by_cases hmem : (to.getD i []).getD j 0 ∈ (foldV to fu i st (to.getD i []).length).2
    · obtain ⟨q, hq, e⟩ := List.getElem_of_mem hmem
      exact .inl ⟨q, by omega, by rw [getD_app hq, ← getD_at hq]; exact e⟩
    · refine .inr (gray _ (Nat.le_refl _) _ hmk ?_)
      rwa [show ((((to.getD i []).getD j 0).toNat : Nat) : Int) = (to.getD i []).getD j 0 by omega]

/-! ### what the whole order is -/
theorem post_facts {to : List (List Int)} (hg : GOK to) : (post to).Nodup ∧ (∀ v : Nat, (v : Int) ∈ post to ↔ seen to 0 v = true) ∧ (∀ y ∈ post to, 0 ≤ y ∧ y < to.length) ∧ (∃ l, post to = l ++ [0]) ∧ Ahead to 0 (post to) := by
  have hf : freeN to.length (fun _ => false) ≤ to.length + 1 := by rw [freeN_no]; omega
  obtain ⟨new, ht, l, hl⟩ := visit_told hg (to.length + 1) 0 (fun _ => false, []) hg.1 rfl hf
  have e : post to = new := by
    have := ht.app
    unfold post
    rw [this]; rfl
  rw [e]
  have hm : ∀ v : Nat, (v : Int) ∈ new ↔ seen to 0 v = true := fun v => by
    rw [ht.mem v]
    exact ⟨fun h => h.1, fun h => ⟨h, rfl⟩⟩
  refine ⟨ht.nodup, hm, fun y hy => ?_, ⟨l, hl⟩, ?_⟩
  · have hp := ht.pos y hy
    rw [show y = ((y.toNat : Nat) : Int) by omega] at hy
    have := ((seen_iff hg hg.1 _).1 ((hm _).1 hy)).lt hg hg.1
    omega
  · have := visit_ahead hg (to.length + 1) 0 (fun _ => false, []) hg.1 rfl hf (fun v hv => by cases hv) (fun v hv => by cases hv)
    rw [ht.app] at this
    exact this
end Go.Proofs.Ytniojnnbenkbpaa

/- The law GraphAhead. -/
namespace Go.Proofs.Ytniojnnbenkbpaa
open Go.Sx
set_option linter.unusedVariables false
set_option linter.unusedSimpArgs false
set_option maxRecDepth 100000

/-- Where the nodes stand, of the first k of an order. -/
def pl (O : List Int) : Nat → Nat → Int
  | 0, _ => -1
  | k + 1, v => if v = (O.getD k 0).toNat then (k : Int) else pl O k v
theorem pl_cases (O : List Int) (k v : Nat) : pl O k v = -1 ∨ ∃ j : Nat, j < k ∧ pl O k v = j ∧ (O.getD j 0).toNat = v := by
  induction k with
  | zero => exact .inl rfl
  | succ k ih =>
    simp only [pl]
    by_cases h : v = (O.getD k 0).toNat
    · rw [if_pos h]; exact .inr ⟨k, by omega, rfl, h.symm⟩
    · rw [if_neg h]
      rcases ih with ih | ⟨j, h1, h2, h3⟩
      · exact .inl ih
      · exact .inr ⟨j, by omega, h2, h3⟩
theorem pl_bound (O : List Int) (k v : Nat) : -1 ≤ pl O k v ∧ pl O k v < k := by
  rcases pl_cases O k v with h | ⟨j, h1, h2, _⟩
  · omega
  · omega

/-- What an order of a graph's nodes must be. -/
structure OrderOf (to : List (List Int)) (O : List Int) : Prop where
  nodup : O.Nodup
  mem : ∀ v : Nat, (v : Int) ∈ O ↔ seen to 0 v = true
  lt : ∀ y ∈ O, 0 ≤ y ∧ y < to.length
  first : O.getD 0 0 = 0 ∧ 0 < O.length
  ahead : ∀ p q : Nat, p < O.length → q < O.length → O.getD q 0 ∈ to.getD (O.getD p 0).toNat [] → q ≤ p → Way to (-1) (O.getD q 0).toNat (O.getD p 0).toNat

theorem getD_rev (l : List Int) {p : Nat} (hp : p < l.length) : l.reverse.getD p 0 = l.getD (l.length - 1 - p) 0 := by
  rw [← getD_at (l := l.reverse) (by simpa using hp), List.getElem_reverse, getD_at]
theorem nodup_idx {l : List Int} (h : l.Nodup) {i j : Nat} (hi : i < l.length) (hj : j < l.length) (e : l.getD i 0 = l.getD j 0) : i = j := by
  rw [List.nodup_iff_pairwise_ne, List.pairwise_iff_getElem] at h
  rcases Nat.lt_trichotomy i j with h1 | h1 | h1
  · exact absurd (by rw [getD_at, getD_at]; exact e) (h i j hi hj h1)
  · exact h1
  · exact absurd (by rw [getD_at, getD_at]; exact e.symm) (h j i hj hi h1)
theorem order_of {to : List (List Int)} (hg : GOK to) : OrderOf to (orderL to) := by
  obtain ⟨h1, h2, h3, ⟨l, h4⟩, h5⟩ := post_facts hg
  have e : orderL to = (post to).reverse := by rw [orderL, if_pos hg]
  rw [e]
  refine ⟨?_, fun v => by rw [List.mem_reverse]; exact h2 v, fun y hy => h3 y (List.mem_reverse.1 hy), ?_, fun p q hp hq hm hqp => ?_⟩
  · rw [List.nodup_iff_pairwise_ne] at h1 ⊢
    rw [List.pairwise_reverse]
    exact h1.imp fun h => h.symm
  · rw [h4]; simp
  · rw [List.length_reverse] at hp hq
    rw [getD_rev _ hp, getD_rev _ hq] at *
    rcases h5 ((post to).length - 1 - p) (Nat.zero_le _) (by omega) _ hm with ⟨r, hr, e2⟩ | hw
    · have := nodup_idx h1 (by omega) (by omega) e2
      omega
    · exact hw

/-- How many of the first i are marked. -/
def cntB (b : Nat → Bool) : Nat → Nat
  | 0 => 0
  | i + 1 => cntB b i + if b i then 1 else 0
theorem cntB_filter (b : Nat → Bool) (n : Nat) : cntB b n = ((List.range n).filter b).length := by
  induction n with
  | zero => rfl
  | succ n ih =>
    rw [List.range_succ, List.filter_append, List.length_append, ← ih, cntB]
    simp only [List.filter_cons, List.filter_nil]
    split <;> simp
theorem cntB_order {to : List (List Int)} (hg : GOK to) {O : List Int} (h : OrderOf to O) : cntB (seen to 0) to.length = O.length := by
  rw [cntB_filter]
  let A := ((List.range to.length).filter (seen to 0)).map fun v : Nat => (v : Int)
  have hA : A.length = ((List.range to.length).filter (seen to 0)).length := List.length_map _
  rw [← hA]
  have hAn : A.Nodup := by
    show (List.map _ _).Nodup
    rw [List.nodup_iff_pairwise_ne, List.pairwise_map]
    exact ((List.pairwise_lt_range (n := to.length)).filter _).imp fun h => by omega
  have hm : ∀ y : Int, y ∈ A ↔ y ∈ O := fun y => by
    show y ∈ List.map _ _ ↔ _
    simp only [List.mem_map, List.mem_filter, List.mem_range]
    constructor
    · rintro ⟨v, ⟨h1, h2⟩, rfl⟩; exact (h.mem v).2 h2
    · intro hy
      have := h.lt y hy
      refine ⟨y.toNat, ⟨by omega, (h.mem _).1 (by rw [show ((y.toNat : Nat) : Int) = y by omega]; exact hy)⟩, by omega⟩
  exact Nat.le_antisymm (hAn.length_le_of_subset fun y hy => (hm y).1 hy) (h.nodup.length_le_of_subset fun y hy => (hm y).2 hy)
theorem cntB_le (b : Nat → Bool) (n : Nat) : cntB b n ≤ n := by
  induction n with
  | zero => exact Nat.le_refl _
  | succ n ih => simp only [cntB]; split <;> omega

theorem pl_free {to : List (List Int)} {O : List Int} (h : OrderOf to O) {k : Nat} (hk : k < O.length) : pl O k (O.getD k 0).toNat = -1 := by
  rcases pl_cases O k (O.getD k 0).toNat with h1 | ⟨j, h1, h2, h3⟩
  · exact h1
  · have e1 := h.lt _ (getD_in hk)
    have e2 := h.lt _ (getD_in (by omega : j < O.length))
    have := nodup_idx h.nodup (by omega) hk (by omega : O.getD j 0 = O.getD k 0)
    omega
/-- One that a node leads to, and that does not stand behind it, leads back. -/
theorem back_way {to : List (List Int)} (hg : GOK to) {O : List Int} (h : OrderOf to O) {i : Nat} (hi : i < to.length) (hs : seen to 0 i = true) {y : Int} (hy : y ∈ to.getD i []) (hle : pl O O.length y.toNat ≤ pl O O.length i) : Way to (-1) y.toNat i := by
  have hin := (gok_row hg hi).1 y hy
  have find : ∀ v : Nat, seen to 0 v = true → ∃ j : Nat, j < O.length ∧ pl O O.length v = j ∧ O.getD j 0 = v := fun v hv => by
    have hmem := (h.mem v).2 hv
    obtain ⟨j, hj, e⟩ := List.getElem_of_mem hmem
    rw [getD_at] at e
    have up : ∀ k, j < k → k ≤ O.length → pl O k v = j := fun k => by
      induction k with
      | zero => exact fun h => absurd h (Nat.not_lt_zero _)
      | succ k ih =>
        intro h1 h2
        simp only [pl]
        by_cases hjk : j = k
        · subst hjk
          rw [if_pos (by omega)]
        · rw [if_neg ?_]
          · exact ih (by omega) (by omega)
          · intro e2
            have e3 := h.lt _ (getD_in (by omega : k < O.length))
            exact hjk (nodup_idx h.nodup hj (by omega) (by omega))
    exact ⟨j, hj, up _ hj (Nat.le_refl _), e⟩
  have hsy : seen to 0 y.toNat = true := by
    rw [seen_iff hg hg.1] at hs ⊢
    exact .step hs hy (by omega)
  obtain ⟨p, p1, p2, p3⟩ := find i hs
  obtain ⟨q, q1, q2, q3⟩ := find y.toNat hsy
  have := h.ahead p q p1 q1 (by rw [p3, q3, Int.toNat_natCast, show ((y.toNat : Nat) : Int) = y by omega]; exact hy) (by omega)
  rwa [p3, q3, Int.toNat_natCast, Int.toNat_natCast] at this
end Go.Proofs.Ytniojnnbenkbpaa

/- The answer's Ends, Stuck. -/
namespace Go.Proofs.Ytniojnnbenkbpaa
open Go.Sx
set_option linter.unusedVariables false
set_option linter.unusedSimpArgs false
set_option maxRecDepth 100000

/-! ### the answer's Ends, Stuck -/
noncomputable def endsB (to : List (List Int)) (i : Nat) : Bool := (List.range to.length).any fun v => wayB to (-1) i v && decide ((to.getD v []).length = 0)
theorem endsB_iff (to : List (List Int)) (i : Nat) : endsB to i = true ↔ ∃ v, v < to.length ∧ wayB to (-1) i v = true ∧ (to.getD v []).length = 0 := by
  unfold endsB
  simp only [List.any_eq_true, List.mem_range, Bool.and_eq_true, decide_eq_true_eq]
theorem refends_spec (to : List (List Int)) (hg : GOK to) (i : Nat) (hi : i < to.length) : Pure PG 46 [gv to, vi (i : Int)] (vb (endsB to i)) [] := by
  refine Proc.mk (cfg 28) tysOK [] Try.func46 rfl (by kernel_rfl) rfl rfl rfl ?_
  intro C x
  have hn := hg.2.1
  refine x.pure rfl trivial rfl (without_spec to hg i (-1) hi) ⟨veq_d rfl, rfl, rfl, trivial⟩ ?_
  refine x.loop (α := { k : Nat // k ≤ to.length ∧ ∀ j, j < k → ¬ (wayB to (-1) i j = true ∧ (to.getD j []).length = 0) }) (fun y => ⟨[(0, gv to), (5, .d (dBools to.length (wayB to (-1) i))), (6, vi (y.1 : Int))], [], 0⟩) (fun y => to.length - y.1) ⟨0, by omega, fun j hj => by omega⟩ rfl trivial ⟨⟨veq_d rfl, veq_d rfl, rfl, trivial⟩, trivial, rfl⟩ (fun y => ?_)
  obtain ⟨k, hk, hup⟩ := y
  change Go C _ ⟨[(0, gv to), (5, .d (dBools to.length (wayB to (-1) i))), (6, vi (k : Int))], [], 0⟩ _
  refine x.cond rfl trivial (fun h1 => ?_) (fun h1 => ?_)
  · have h1 : k < to.length := by have := of_decide_eq_true h1; omega
    refine x.cond rfl ?_ (fun h2 => ?_) (fun h2 => ?_)
    · simp only [AllP]
      exact ⟨by omega, fun _ => by omega⟩
    · have h2 : (wayB to (-1) i k && decide (((to.getD k []).length : Int) = 0)) = true := h2
      simp only [Bool.and_eq_true, decide_eq_true_eq] at h2
      refine x.exit rfl trivial ?_
      refine ⟨.inr rfl, ?_, trivial, rfl⟩
      show true = endsB to i
      exact ((endsB_iff to i).2 ⟨k, h1, h2.1, by omega⟩).symm
    · have h2 : (wayB to (-1) i k && decide (((to.getD k []).length : Int) = 0)) = false := h2
      refine x.back rfl (show inI64 _ by unfold inI64; omega) ⟨⟨k + 1, by omega, fun j hj => ?_⟩, by show to.length - (k + 1) < to.length - k; omega, ⟨veq_d rfl, veq_d rfl, rfl, trivial⟩, trivial, rfl⟩
      rcases Nat.lt_or_ge j k with h3 | h3
      · exact hup j h3
      · obtain rfl : j = k := by omega
        rintro ⟨e1, e2⟩
        rw [e1, e2] at h2
        simp at h2
  · have h1 : k = to.length := by have := of_decide_eq_false h1; omega
    refine x.exit rfl trivial ?_
    refine ⟨.inr rfl, ?_, trivial, rfl⟩
    show false = endsB to i
    rw [eq_comm, Bool.eq_false_iff]
    intro h
    obtain ⟨v, e1, e2, e3⟩ := (endsB_iff to i).1 h
    exact hup v (by omega) ⟨e2, e3⟩
theorem refstuck_spec (to : List (List Int)) (hg : GOK to) : Pure PG 39 [gv to] (vi (fstB (endsB to) false to.length)) [] := by
  refine Proc.mk (cfg 15) tysOK [] Try.func39 rfl (by kernel_rfl) rfl rfl rfl ?_
  intro C x
  have hn := hg.2.1
  refine x.loop (α := { i : Nat // i ≤ to.length ∧ ∀ j, j < i → endsB to j ≠ false }) (fun y => ⟨[(0, gv to), (3, vi (y.1 : Int))], [], 0⟩) (fun y => to.length - y.1) ⟨0, by omega, fun j hj => by omega⟩ rfl trivial ⟨⟨veq_d rfl, rfl, trivial⟩, trivial, rfl⟩ (fun y => ?_)
  obtain ⟨i, hi, hup⟩ := y
  change Go C _ ⟨[(0, gv to), (3, vi (i : Int))], [], 0⟩ _
  refine x.cond rfl trivial (fun h1 => ?_) (fun h1 => ?_)
  · have h1 : i < to.length := by have := of_decide_eq_true h1; omega
    refine x.pure rfl trivial rfl (refends_spec to hg i h1) ⟨veq_d rfl, rfl, trivial⟩ ?_
    refine x.cond rfl trivial (fun h2 => ?_) (fun h2 => ?_)
    · have h2 : endsB to i = false := by
        have h2 : (!endsB to i) = true := h2
        simpa using h2
      refine x.exit rfl trivial ?_
      refine ⟨.inr rfl, ?_, trivial, rfl⟩
      show (i : Int) = fstB (endsB to) false to.length
      exact (fstB_found h1 h2 hup).symm
    · have h2 : endsB to i = true := by
        have h2 : (!endsB to i) = false := h2
        simpa using h2
      refine x.back rfl (show inI64 _ by unfold inI64; omega) ⟨⟨i + 1, by omega, fun j hj => ?_⟩, by show to.length - (i + 1) < to.length - i; omega, ⟨veq_d rfl, rfl, trivial⟩, trivial, rfl⟩
      rcases Nat.lt_or_ge j i with h3 | h3
      · exact hup j h3
      · obtain rfl : j = i := by omega
        rw [h2]; simp
  · have h1 : i = to.length := by have := of_decide_eq_false h1; omega
    refine x.exit rfl trivial ?_
    refine ⟨.inr rfl, ?_, trivial, rfl⟩
    show (-1 : Int) = fstB (endsB to) false to.length
    exact (fstB_none fun j hj => hup j (by omega)).symm
end Go.Proofs.Ytniojnnbenkbpaa

/- The walk that tells nothing (Stuck). -/
namespace Go.Proofs.Ytniojnnbenkbpaa
open Go.Sx
set_option linter.unusedVariables false
set_option linter.unusedSimpArgs false
set_option maxRecDepth 100000

theorem stuck1_spec (i : Nat) : Pure PG 43 [vi (i : Int)] (.tup []) [] := by
  refine Proc.mk (cfg 2) tysOK [] Try.func43 rfl (by kernel_rfl) rfl rfl rfl ?_
  intro C x
  refine x.exit rfl trivial ?_
  exact ⟨.inl rfl, trivial, trivial, rfl⟩
abbrev tellS : V := .fn 43 []
abbrev HS (to : List (List Int)) (st : DS) : List Ch := [.box [.own 4], .box [gv to], .box [.fn 41 [.ptr 0 0, .ptr 1 0, .ptr 2 0, .ptr 3 0]], .box [tellS], beenC to.length (st).1]
def WalkS (to : List (List Int)) (fu : Nat) : Prop := ∀ (i : Nat) (st : DS), i < to.length → st.1 i = false → freeN to.length st.1 ≤ fu → st.2.length + freeN to.length st.1 ≤ to.length →
  Proc PG 41 5 [vi (i : Int), .ptr 0 0, .ptr 1 0, .ptr 2 0, .ptr 3 0] (HS to st) (.tup []) (HS to (visit to fu i st))
theorem walkS_spec {to : List (List Int)} (hg : GOK to) : ∀ fu, WalkS to fu := fun fu => by
  induction fu with
  | zero => exact fun i st hi hb hfu _ => absurd (freeN_pos hi hb) (by omega)
  | succ fu ih =>
  intro i st hi hb hfu hsum
  refine Proc.mk (cfgF 32 5) tysOK [0, 1, 2, 3, 4] Try.func41 rfl (by kernel_rfl) rfl rfl rfl ?_
  intro C x
  have hn := hg.2.1
  obtain ⟨row, hrow⟩ : ∃ l, to.getD i [] = l := ⟨_, rfl⟩
  have hro : RowOK to.length row := hrow ▸ gok_row hg hi
  have hrl : row.length ≤ 256 := Nat.le_trans (row_len hro) hn
  have hiI : ((i : Int)).toNat = i := Int.toNat_natCast i
  refine x.loop (α := { k : Nat // k ≤ row.length }) (fun y => ⟨[(0, vi (i : Int)), (1, .ptr 0 0), (2, .ptr 1 0), (3, .ptr 2 0), (4, .ptr 3 0), (14, iv row), (15, vi (row.length : Int)), (16, vi (y.1 : Int))], [(0, .box [.own 4]), (1, .box [gv to]), (2, .box [.fn 41 [.ptr 0 0, .ptr 1 0, .ptr 2 0, .ptr 3 0]]), (3, .box [tellS]), (4, beenC to.length (foldV to fu i st y.1).1)], 5⟩) (fun y => row.length - y.1) ⟨0, by omega⟩ rfl ?_ ?_ (fun y => ?_)
  · simp only [AllP, hiI, List.length]; omega
  · refine ⟨⟨rfl, ⟨rfl, rfl⟩, ⟨rfl, rfl⟩, ⟨rfl, rfl⟩, ⟨rfl, rfl⟩, veq_d ?_, ?_, rfl, trivial⟩, ⟨⟨rfl, trivial⟩, ⟨veq0_d rfl, trivial⟩, ⟨rfl, trivial⟩, ⟨rfl, trivial⟩, ⟨rfl, rfl, rfl, fun j hj => ?_⟩, trivial⟩, rfl⟩
    · show dInts (to.getD i []) = _
      rw [hrow]
    · show ((to.getD i []).length : Int) = _
      rw [hrow]
    · rw [put2_bool]; rfl
  obtain ⟨k, hk⟩ := y
  change Go C _ ⟨[(0, vi (i : Int)), (1, .ptr 0 0), (2, .ptr 1 0), (3, .ptr 2 0), (4, .ptr 3 0), (14, iv row), (15, vi (row.length : Int)), (16, vi (k : Int))], [(0, .box [.own 4]), (1, .box [gv to]), (2, .box [.fn 41 [.ptr 0 0, .ptr 1 0, .ptr 2 0, .ptr 3 0]]), (3, .box [tellS]), (4, beenC to.length (foldV to fu i st k).1)], 5⟩ _
  obtain ⟨st2, hst2⟩ : ∃ st2, foldV to fu i st k = st2 := ⟨_, rfl⟩
  rw [hst2]
  have hs2 := foldV_sum hg fu i st hi k (by rw [hrow]; exact hk)
  have hm2 := freeN_le (foldV_mono to fu i st k (by rw [hrow]; exact hk)) to.length
  have hf2 := freeN_set hi hb
  rw [hst2] at hs2 hm2
  refine x.cond rfl trivial (fun h1 => ?_) (fun h1 => ?_)
  · have h1 : k < row.length := by have := of_decide_eq_true h1; omega
    have hin := hro.1 _ (getD_in h1)
    refine x.cond rfl ?_ (fun h2 => ?_) (fun h2 => ?_)
    · simp only [AllP]
      simp only [show ((k : Int)).toNat = k from rfl]
      omega
    · have hfree : st2.1 (row.getD k 0).toNat = false := by
        have : (!st2.1 (row.getD k 0).toNat) = true := h2
        simpa using this
      refine x.call [0, 1, 2, 3, 4] rfl trivial rfl (ih (row.getD k 0).toNat st2 (by omega) hfree (by omega) (by omega)) rfl ?_ ?_ ?_
      · refine ⟨?_, ⟨rfl, rfl⟩, ⟨rfl, rfl⟩, ⟨rfl, rfl⟩, ⟨rfl, rfl⟩, trivial⟩
        show row.getD k 0 = (((row.getD k 0).toNat : Nat) : Int)
        omega
      · exact ⟨⟨rfl, trivial⟩, ⟨veq0_d rfl, trivial⟩, ⟨rfl, trivial⟩, ⟨rfl, trivial⟩, ⟨rfl, rfl, rfl, fun _ _ => rfl⟩, trivial⟩
      · refine x.back rfl (show inI64 _ by unfold inI64; omega) ⟨⟨k + 1, by omega⟩, by show row.length - (k + 1) < row.length - k; omega, ?_⟩
        have e : foldV to fu i st (k + 1) = visit to fu (row.getD k 0).toNat st2 := by
          rw [foldV_succ to fu i st (by rw [hrow]; exact h1), hst2, hrow, stepV, if_neg (by rw [hfree]; simp)]
        rw [e]
        exact ⟨⟨rfl, ⟨rfl, rfl⟩, ⟨rfl, rfl⟩, ⟨rfl, rfl⟩, ⟨rfl, rfl⟩, veq_d rfl, rfl, rfl, trivial⟩, ⟨⟨rfl, trivial⟩, ⟨veq0_d rfl, trivial⟩, ⟨rfl, trivial⟩, ⟨rfl, trivial⟩, ⟨rfl, rfl, rfl, fun _ _ => rfl⟩, trivial⟩, rfl⟩
    · have hfree : st2.1 (row.getD k 0).toNat = true := by
        have : (!st2.1 (row.getD k 0).toNat) = false := h2
        simpa using this
      refine x.back rfl (show inI64 _ by unfold inI64; omega) ⟨⟨k + 1, by omega⟩, by show row.length - (k + 1) < row.length - k; omega, ?_⟩
      have e : foldV to fu i st (k + 1) = st2 := by
        rw [foldV_succ to fu i st (by rw [hrow]; exact h1), hst2, hrow, stepV, if_pos hfree]
      rw [e]
      exact ⟨⟨rfl, ⟨rfl, rfl⟩, ⟨rfl, rfl⟩, ⟨rfl, rfl⟩, ⟨rfl, rfl⟩, veq_d rfl, rfl, rfl, trivial⟩, ⟨⟨rfl, trivial⟩, ⟨veq0_d rfl, trivial⟩, ⟨rfl, trivial⟩, ⟨rfl, trivial⟩, ⟨rfl, rfl, rfl, fun _ _ => rfl⟩, trivial⟩, rfl⟩
  · have hkl : k = row.length := by
      have := of_decide_eq_false h1
      omega
    have e : visit to (fu + 1) i st = (st2.1, st2.2 ++ [(i : Int)]) := by
      rw [visit_eq, hrow, ← hkl, hst2]
    rw [e]
    refine x.pure rfl trivial rfl (stuck1_spec i) ⟨rfl, trivial⟩ ?_
    refine x.exit rfl trivial ?_
    exact ⟨.inl rfl, trivial, ⟨⟨rfl, trivial⟩, ⟨veq0_d rfl, trivial⟩, ⟨rfl, trivial⟩, ⟨rfl, trivial⟩, ⟨rfl, rfl, rfl, fun _ _ => rfl⟩, trivial⟩, rfl⟩
end Go.Proofs.Ytniojnnbenkbpaa
