/-
  Sx, part 32: instructions, blocks, bodies: as data.
-/
import Derived.Test.YtdgopbgckdnncaaSx31
set_option linter.unusedVariables false
set_option linter.unusedSimpArgs false
namespace Go.Sx

theorem conf_bool {x : D} (h : Conf1 .bool x) : ∃ b, x = .bool b := by
  cases h with
  | bool b => exact ⟨b, rfl⟩
theorem conf_str {x : D} (h : Conf1 .str x) : ∃ s, x = .str s ∧ s.size ≤ maxLen ∧ s.size ≤ reachBytes := by
  cases h with
  | str s h1 h2 => exact ⟨s, rfl, h1, h2⟩

/-- An instruction: kind, sort, where to, what of, what else, arguments, an array, a number, a place. -/
structure OpV where
  k : Int
  s : Int
  a : Int
  b : Int
  c : Int
  l : List Int
  m : List Int
  v : Int
  e : Int
instance : Inhabited OpV := ⟨⟨0, 0, 0, 0, 0, [], [], 0, 0⟩⟩
def dOp (o : OpV) : List D := [.int .u8 o.k, .int .u8 o.s, .int .i64 o.a, .int .i64 o.b, .int .i64 o.c, dInts o.l, dInts o.m, .int .i64 o.v, .int .i64 o.e]
def dOps (l : List OpV) : D := .sl 9 l.length fun j => dOp (l.getD j default)
def dBlocks (bs : List (List OpV)) : D := .sl 1 bs.length fun i => [dOps (bs.getD i [])]
def opTy (b b' : Nat) : List DTy := [.int .u8, .int .u8, .int .i64, .int .i64, .int .i64, .sl b [.int .i64], .sl b' [.int .i64], .int .i64, .int .i64]
/-- An instruction whose numbers fit. -/
structure OpV.Fits (o : OpV) : Prop where
  k : (Lit.int .u8 o.k).wf = true
  s : (Lit.int .u8 o.s).wf = true
  a : (Lit.int .i64 o.a).wf = true
  b : (Lit.int .i64 o.b).wf = true
  c : (Lit.int .i64 o.c).wf = true
  v : (Lit.int .i64 o.v).wf = true
  e : (Lit.int .i64 o.e).wf = true
  l : o.l.length ≤ maxLen ∧ ∀ y ∈ o.l, (Lit.int .i64 y).wf = true
  m : o.m.length ≤ maxLen ∧ ∀ y ∈ o.m, (Lit.int .i64 y).wf = true

theorem conf_op {b b' : Nat} {ds : List D} (h : Conf (opTy b b') ds) : ∃ o : OpV, o.Fits ∧ ds.length = 9 ∧ ∀ (j : Nat) (d d' : D), ds[j]? = some d → (dOp o)[j]? = some d' → DQ d d' := by
  obtain ⟨hl, hc⟩ := h
  match ds, hl with
  | [d0, d1, d2, d3, d4, d5, d6, d7, d8], _ =>
    obtain ⟨n0, rfl, w0⟩ := conf_int (hc 0 _ _ rfl rfl)
    obtain ⟨n1, rfl, w1⟩ := conf_int (hc 1 _ _ rfl rfl)
    obtain ⟨n2, rfl, w2⟩ := conf_int (hc 2 _ _ rfl rfl)
    obtain ⟨n3, rfl, w3⟩ := conf_int (hc 3 _ _ rfl rfl)
    obtain ⟨n4, rfl, w4⟩ := conf_int (hc 4 _ _ rfl rfl)
    obtain ⟨l5, q5, w5, z5⟩ := conf_ints (hc 5 _ _ rfl rfl)
    obtain ⟨l6, q6, w6, z6⟩ := conf_ints (hc 6 _ _ rfl rfl)
    obtain ⟨n7, rfl, w7⟩ := conf_int (hc 7 _ _ rfl rfl)
    obtain ⟨n8, rfl, w8⟩ := conf_int (hc 8 _ _ rfl rfl)
    refine ⟨⟨n0, n1, n2, n3, n4, l5, l6, n7, n8⟩, ⟨w0, w1, w2, w3, w4, w7, w8, ⟨w5.1, z5⟩, ⟨w6.1, z6⟩⟩, rfl, fun j d d' hd hd' => ?_⟩
    match j with
    | 0 => simp [dOp] at hd hd'; subst hd hd'; exact .refl _
    | 1 => simp [dOp] at hd hd'; subst hd hd'; exact .refl _
    | 2 => simp [dOp] at hd hd'; subst hd hd'; exact .refl _
    | 3 => simp [dOp] at hd hd'; subst hd hd'; exact .refl _
    | 4 => simp [dOp] at hd hd'; subst hd hd'; exact .refl _
    | 5 => simp [dOp] at hd hd'; subst hd hd'; exact q5
    | 6 => simp [dOp] at hd hd'; subst hd hd'; exact q6
    | 7 => simp [dOp] at hd hd'; subst hd hd'; exact .refl _
    | 8 => simp [dOp] at hd hd'; subst hd hd'; exact .refl _
    | j + 9 => simp at hd

theorem getD_map_range {α : Type} {n i : Nat} (f : Nat → α) (d : α) (h : i < n) : ((List.range n).map f).getD i d = f i := by
  rw [List.getD_eq_getElem?_getD, List.getElem?_map, List.getElem?_range h]; rfl

theorem conf_ops {z b b' : Nat} {x : D} (h : Conf1 (.sl z (opTy b b')) x) : ∃ l : List OpV, DQ x (dOps l) ∧ (l.length ≤ maxLen ∧ l.length * z ≤ reachBytes) ∧ ∀ o ∈ l, o.Fits := by
  cases h with
  | sl _ _ n f hn hz hl hc =>
    have each : ∀ i, i < n → ∃ o : OpV, o.Fits ∧ (f i).length = 9 ∧ ∀ (j : Nat) (d d' : D), (f i)[j]? = some d → (dOp o)[j]? = some d' → DQ d d' := fun i hi =>
      conf_op ⟨hl i hi, fun j t d ht hd => hc i j t d hi ht hd⟩
    let g : Nat → OpV := fun i => if h : i < n then Classical.choose (each i h) else default
    have hg : ∀ i, i < n → (g i).Fits ∧ (f i).length = 9 ∧ ∀ (j : Nat) (d d' : D), (f i)[j]? = some d → (dOp (g i))[j]? = some d' → DQ d d' := fun i hi => by
      have e : g i = Classical.choose (each i hi) := by simp only [g, hi, dite_true]
      rw [e]
      exact Classical.choose_spec (each i hi)
    refine ⟨(List.range n).map g, ?_, by simpa using ⟨hn, hz⟩, fun o ho => ?_⟩
    · unfold dOps
      rw [show ((List.range n).map g).length = n by simp]
      refine .sl 9 n _ _ (fun i hi => (hg i hi).2.1) fun i j d d' hi hd hd' => ?_
      rw [getD_map_range g default hi] at hd'
      exact (hg i hi).2.2 j d d' hd hd'
    · obtain ⟨i, hi, rfl⟩ := List.mem_map.1 ho
      exact (hg i (List.mem_range.1 hi)).1

theorem conf_blocks {y z b b' : Nat} {x : D} (h : Conf1 (.sl y [.sl z (opTy b b')]) x) : ∃ bs : List (List OpV), DQ x (dBlocks bs) ∧ (bs.length ≤ maxLen ∧ bs.length * y ≤ reachBytes) ∧ ∀ l ∈ bs, (l.length ≤ maxLen ∧ l.length * z ≤ reachBytes) ∧ ∀ o ∈ l, o.Fits := by
  obtain ⟨n, g, hq, hn, hg⟩ := conf_one h
  let row : Nat → List OpV := fun i => if h : i < n then Classical.choose (conf_ops (hg i h)) else []
  have hrow : ∀ i, i < n → DQ (g i) (dOps (row i)) ∧ ((row i).length ≤ maxLen ∧ (row i).length * z ≤ reachBytes) ∧ ∀ o ∈ row i, o.Fits := fun i hi => by
    have e : row i = Classical.choose (conf_ops (hg i hi)) := by simp only [row, hi, dite_true]
    rw [e]
    exact Classical.choose_spec (conf_ops (hg i hi))
  refine ⟨(List.range n).map row, hq.trans ?_, by simpa using hn, fun l hl => ?_⟩
  · unfold dBlocks
    rw [show ((List.range n).map row).length = n by simp]
    refine .sl 1 n _ _ (fun i hi => rfl) fun i j d d' hi hd hd' => ?_
    match j with
    | 0 =>
      simp only [List.getElem?_cons_zero, Option.some.injEq] at hd hd'
      subst hd hd'
      rw [getD_map_range row [] hi]
      exact (hrow i hi).1
    | j + 1 => simp at hd
  · obtain ⟨i, hi, rfl⟩ := List.mem_map.1 hl
    exact (hrow i (List.mem_range.1 hi)).2

/-- A body: two numbers, and its blocks. -/
theorem conf_body {F : Nat → Prop} {w : World} {ρ : Nat → Value} {y z b b' : Nat} {ds : List D} {cs : List Value} (h : Conf [.int .i64, .int .i64, .sl y [.sl z (opTy b b')]] ds) (hr : All2 (RD F w) ds cs) :
    ∃ (p q : Int) (bs : List (List OpV)), ((Lit.int .i64 p).wf = true ∧ (Lit.int .i64 q).wf = true ∧ (bs.length ≤ maxLen ∧ bs.length * y ≤ reachBytes) ∧ ∀ l ∈ bs, (l.length ≤ maxLen ∧ l.length * z ≤ reachBytes) ∧ ∀ o ∈ l, o.Fits) ∧
      R3 ρ F w (.agg [vi p, vi q, .d (dBlocks bs)]) (.agg cs.toArray) := by
  obtain ⟨hl, hc⟩ := h
  match ds, hl, cs, hr with
  | [d0, d1, d2], _, [c0, c1, c2], ⟨r0, r1, r2, _⟩ =>
    obtain ⟨p, rfl, w0⟩ := conf_int (hc 0 _ _ rfl rfl)
    obtain ⟨q, rfl, w1⟩ := conf_int (hc 1 _ _ rfl rfl)
    obtain ⟨bs, hq, w2, w3⟩ := conf_blocks (hc 2 _ _ rfl rfl)
    exact ⟨p, q, bs, ⟨w0, w1, w2, w3⟩, ⟨_, rfl, r0, r1, hq.sound r2, trivial⟩⟩
end Go.Sx
