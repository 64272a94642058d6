/- Texts put together: T06G, T06H. -/
import Derived.Test.YtcdfjaaipbjpnaaDoorMB
import Derived.Test.YtcdfjaaipbjpnaaDoorSxG
import Derived.Test.YtcdfjaaipbjpnaaDoorMA
import Derived.Test.YtcdfjaaipbjpnaaDoorSxF
import Derived.Handed
import Derived.Shelf.Vars

/- Policies: the answer's Copy, Level and Channel; the examples; the law PolicyFinds. -/
namespace Go.Proofs.YtcdfjaaipbjpnaaDoor
open Go.Sx
set_option linter.unusedVariables false
set_option linter.unusedSimpArgs false
set_option maxRecDepth 100000

structure PolSz (p : Pol) : Prop where
  lev : p.lev.length * 16 ≤ 140737488355328
  up : p.up.length * 8 ≤ 140737488355328
  ins : p.ins.length * 24 ≤ 140737488355328
  outs : p.outs.length * 24 ≤ 140737488355328
theorem sl_app0 {z z' n : Nat} {us : List D} {f : Nat → List D} (hz : z = z') (h : ∀ i, app 0 (tab (List.replicate 0 us)) f i = f i) : D.sl z (0 + n) (app 0 (tab (List.replicate 0 us)) f) = .sl z' n f := by
  subst hz
  rw [Nat.zero_add, show app 0 (tab (List.replicate 0 us)) f = f from funext h]
theorem app0_1 {u : D} (d : Nat → D) (i : Nat) : app 0 (tab (List.replicate 0 [u])) (fun i => [d i]) i = [d i] := by
  show (if i < 0 then [] else [d (i - 0)]) = _
  rw [if_neg (by omega)]; rfl
theorem app0_2 {u v : D} (d e : Nat → D) (i : Nat) : app 0 (tab (List.replicate 0 [u, v])) (fun i => [d i, e i]) i = [d i, e i] := by
  show (if i < 0 then [] else [d (i - 0), e (i - 0)]) = _
  rw [if_neg (by omega)]; rfl
theorem copy6_spec (p : Pol) (h : PolSz p) : Pure PG 13 [vPol p] (vPol p) [] := by
  obtain ⟨h1, h2, h3, h4⟩ := h
  refine Proc.mk (cfg 24) tysOK [] Tryd.func13 rfl (by kernel_rfl) rfl rfl rfl ?_
  intro C x
  refine Go.atExit [2, 3, 4, 5] ?_
  refine x.exit rfl (by simp only [AllP, big]; omega) ?_
  exact ⟨.inr rfl, ⟨veq0_d (sl_app0 rfl (app0_1 _)), veq0_d (sl_app0 rfl (app0_1 _)), veq0_d (sl_app0 rfl (app0_2 _ _)), veq0_d (sl_app0 rfl (app0_2 _ _)), rfl, trivial⟩, trivial, rfl⟩
theorem lev6_spec (l : List ByteArray) (s : ByteArray) (hl : inI64 (l.length : Int)) : Pure PG 17 [.agg [vSs l, .dead, .dead, .dead, .dead], vs s] (vi (idxS l s)) [] := by
  refine Proc.mk (cfg 21) tysOK [] Tryd.func17 rfl (by kernel_rfl) rfl rfl rfl ?_
  intro C x
  unfold inI64 at hl
  refine x.loop (α := { i : Nat // i ≤ l.length ∧ idxF (fun i => decide ((l.getD i .empty).data.toList = s.data.toList)) (l.length - i) i = idxS l s }) (fun y => ⟨[(1, vs s), (2, .ptr 0 0), (5, vi (y.1 : Int))], [(0, .box [vSs l, .dead, .dead, .dead, .dead])], 1⟩) (fun y => l.length - y.1) ⟨0, by omega, rfl⟩ rfl trivial ?_ (fun y => ?_)
  · exact ⟨⟨rfl, ⟨rfl, rfl⟩, rfl, trivial⟩, ⟨⟨veq0_d rfl, rfl, rfl, rfl, rfl, trivial⟩, trivial⟩, rfl⟩
  obtain ⟨i, hi, hsame⟩ := y
  change Go C _ ⟨[(1, vs s), (2, .ptr 0 0), (5, vi (i : Int))], [(0, .box [vSs l, .dead, .dead, .dead, .dead])], 1⟩ _
  refine x.cond rfl trivial (fun h1 => ?_) (fun h1 => ?_)
  · have h1 : i < l.length := by have := of_decide_eq_true h1; omega
    rw [show l.length - i = (l.length - (i + 1)) + 1 by omega, idxF] at hsame
    refine x.cond rfl (by simp only [AllP]; omega) (fun h2 => ?_) (fun h2 => ?_)
    · have h2 : decide ((l.getD i .empty).data.toList = s.data.toList) = true := h2
      rw [if_pos h2] at hsame
      refine x.exit rfl trivial ⟨.inr rfl, ?_, trivial, rfl⟩
      show VEq0 (vi (i : Int)) (vi (idxS l s))
      rw [hsame]; exact rfl
    · have h2 : decide ((l.getD i .empty).data.toList = s.data.toList) = false := h2
      rw [if_neg (by rw [h2]; simp)] at hsame
      refine x.back rfl ?_ ⟨⟨i + 1, by omega, hsame⟩, by show l.length - (i + 1) < l.length - i; omega, ⟨rfl, ⟨rfl, rfl⟩, (show VEq0 (vi ((i : Int) + 1)) (vi ((i + 1 : Nat) : Int)) by rw [Int.natCast_add]; rfl), trivial⟩, ⟨⟨veq0_d rfl, rfl, rfl, rfl, rfl, trivial⟩, trivial⟩, rfl⟩
      simp only [AllP, inI64]; omega
  · have h1 : i = l.length := by have := of_decide_eq_false h1; omega
    refine x.exit rfl trivial ⟨.inr rfl, ?_, trivial, rfl⟩
    show VEq0 (vi (-1)) (vi (idxS l s))
    rw [← hsame, show l.length - i = 0 by omega]; exact rfl
theorem chn6_spec (l : List Chan) (s : ByteArray) (hl : inI64 (l.length : Int)) : Pure PG 18 [vChs l, vs s] (vi (idxC l s)) [] := by
  refine Proc.mk (cfg 20) tysOK [] Tryd.func18 rfl (by kernel_rfl) rfl rfl rfl ?_
  intro C x
  unfold inI64 at hl
  refine x.loop (α := { i : Nat // i ≤ l.length ∧ idxF (fun i => decide ((l.getD i chan0).1.data.toList = s.data.toList)) (l.length - i) i = idxC l s }) (fun y => ⟨[(0, vChs l), (1, vs s), (5, vi (y.1 : Int))], [], 0⟩) (fun y => l.length - y.1) ⟨0, by omega, rfl⟩ rfl trivial ?_ (fun y => ?_)
  · exact ⟨⟨veq_d rfl, rfl, rfl, trivial⟩, trivial, rfl⟩
  obtain ⟨i, hi, hsame⟩ := y
  change Go C _ ⟨[(0, vChs l), (1, vs s), (5, vi (i : Int))], [], 0⟩ _
  refine x.cond rfl trivial (fun h1 => ?_) (fun h1 => ?_)
  · have h1 : i < l.length := by have := of_decide_eq_true h1; omega
    rw [show l.length - i = (l.length - (i + 1)) + 1 by omega, idxF] at hsame
    refine x.cond rfl (by simp only [AllP]; omega) (fun h2 => ?_) (fun h2 => ?_)
    · have h2 : decide ((l.getD i chan0).1.data.toList = s.data.toList) = true := h2
      rw [if_pos h2] at hsame
      refine x.exit rfl trivial ⟨.inr rfl, ?_, trivial, rfl⟩
      show VEq0 (vi (i : Int)) (vi (idxC l s))
      rw [hsame]; exact rfl
    · have h2 : decide ((l.getD i chan0).1.data.toList = s.data.toList) = false := h2
      rw [if_neg (by rw [h2]; simp)] at hsame
      refine x.back rfl ?_ ⟨⟨i + 1, by omega, hsame⟩, by show l.length - (i + 1) < l.length - i; omega, ⟨veq_d rfl, rfl, (show VEq0 (vi ((i : Int) + 1)) (vi ((i + 1 : Nat) : Int)) by rw [Int.natCast_add]; rfl), trivial⟩, trivial, rfl⟩
      simp only [AllP, inI64]; omega
  · have h1 : i = l.length := by have := of_decide_eq_false h1; omega
    refine x.exit rfl trivial ⟨.inr rfl, ?_, trivial, rfl⟩
    show VEq0 (vi (-1)) (vi (idxC l s))
    rw [← hsame, show l.length - i = 0 by omega]; exact rfl
theorem found6_spec (k : Int) : Pure PG 16 [vi (if 0 > k then 0 else k), vb (decide (0 ≤ k)), vi k] (vb true) [] := by
  refine Proc.mk (cfg 27) tysOK [] Tryd.func16 rfl (by kernel_rfl) rfl rfl rfl ?_
  intro C x
  refine x.exit rfl trivial ⟨.inr rfl, ?_, trivial, rfl⟩
  refine (show VEq0 (vb _) (vb true) from ?_)
  by_cases h : 0 ≤ k
  · have h' : ¬ 0 > k := by omega
    (simp [h, h', VEq0]; exact rfl)
  · have h' : 0 > k := by omega
    (simp [h, h', VEq0]; exact rfl)

def exP : ByteArray := ⟨#[108, 101, 118, 101, 108, 32, 108, 111, 119, 10, 108, 101, 118, 101, 108, 32, 104, 105, 103, 104, 10, 102, 108, 111, 119, 32, 108, 111, 119, 32, 104, 105, 103, 104, 10, 105, 110, 112, 117, 116, 32, 107, 101, 121, 32, 104, 105, 103, 104, 10, 111, 117, 116, 112, 117, 116, 32, 110, 101, 116, 32, 108, 111, 119, 10, 100, 101, 112, 116, 104, 32, 56]⟩
def exQ : ByteArray := ⟨#[108, 101, 118, 101, 108, 32, 108, 111, 119, 10, 32, 105, 110, 112, 117, 116, 32, 107, 101, 121, 32, 104, 105, 103, 104]⟩
theorem exP_e : (parseP exP).2.2 = 0 ∧ (parseP exP).1.lev.length = 2 ∧ (parseP exP).1.ins.length = 1 ∧ ((parseP exP).1.ins.getD 0 chan0).2 = 1 ∧ (parseP exP).1.depth = 8 := by decide +kernel
theorem exQ_e : (parseP exQ).2.2 = 10 ∧ (parseP exQ).2.1 = 11 := by decide +kernel
set_option maxHeartbeats 2000000 in
theorem awake6_spec : Pure PG 11 [] (vb true) [] := by
  refine Proc.mk (cfg 52) tysOK [] Tryd.func11 rfl (by kernel_rfl) rfl rfl rfl ?_
  intro C x
  have s1 : exP.size ≤ 9223372036854775807 := by show (72 : Nat) ≤ _; decide
  have s2 : exQ.size ≤ 9223372036854775807 := by show (25 : Nat) ≤ _; decide
  refine x.pure rfl trivial rfl (parse6_spec exP s1) ⟨rfl, trivial⟩ ?_
  refine x.pure rfl trivial rfl (parse6_spec exQ s2) ⟨rfl, trivial⟩ ?_
  obtain ⟨a1, a2, a3, a4, a5⟩ := exP_e
  obtain ⟨b1, b2⟩ := exQ_e
  obtain ⟨PA, hA⟩ : ∃ P, parseP exP = P := ⟨_, rfl⟩
  obtain ⟨PB, hB⟩ : ∃ P, parseP exQ = P := ⟨_, rfl⟩
  rw [hA] at a1 a2 a3 a4 a5 ⊢
  rw [hB] at b1 b2 ⊢
  refine x.exit rfl ?_ ?_
  · simp only [AllP, Int.toNat_zero, a2, a3]
    exact fun _ => by omega
  refine ⟨.inr rfl, (show VEq0 (vb _) (vb true) from ?_), trivial, rfl⟩
  rw [Int.toNat_zero, a1, a2, a3, a4, a5, b1, b2]
  exact rfl
/-! ### the law -/
set_option maxHeartbeats 2000000 in
theorem finds_spec (p : Pol) (h : PolSz p) (s : ByteArray) : Pure PG 5 [vPol p, vs s] (vb true) [] := by
  have hl : inI64 (p.lev.length : Int) := by have := h.lev; unfold inI64; omega
  have hi : inI64 (p.ins.length : Int) := by have := h.ins; unfold inI64; omega
  have ho : inI64 (p.outs.length : Int) := by have := h.outs; unfold inI64; omega
  refine Proc.mk (cfg 59) tysOK [] Tryd.func5 rfl (by kernel_rfl) rfl rfl rfl ?_
  intro C x
  refine x.pure rfl trivial rfl (copy6_spec p h) ⟨⟨veq0_d rfl, veq0_d rfl, veq0_d rfl, veq0_d rfl, rfl, trivial⟩, trivial⟩ ?_
  refine x.pure rfl trivial rfl (level_spec p.lev s hl) ⟨⟨veq0_d rfl, rfl, rfl, rfl, rfl, trivial⟩, rfl, trivial⟩ ?_
  refine x.pure rfl trivial rfl (copy6_spec p h) ⟨⟨veq0_d rfl, veq0_d rfl, veq0_d rfl, veq0_d rfl, rfl, trivial⟩, trivial⟩ ?_
  refine x.pure rfl trivial rfl (input_spec p.ins s hi) ⟨⟨rfl, rfl, veq0_d rfl, rfl, rfl, trivial⟩, rfl, trivial⟩ ?_
  refine x.pure rfl trivial rfl (copy6_spec p h) ⟨⟨veq0_d rfl, veq0_d rfl, veq0_d rfl, veq0_d rfl, rfl, trivial⟩, trivial⟩ ?_
  refine x.pure rfl trivial rfl (output_spec p.outs s ho) ⟨⟨rfl, rfl, rfl, veq0_d rfl, rfl, trivial⟩, rfl, trivial⟩ ?_
  refine x.pure rfl trivial rfl (lev6_spec p.lev s hl) ⟨⟨veq0_d rfl, rfl, rfl, rfl, rfl, trivial⟩, rfl, trivial⟩ ?_
  refine x.pure rfl trivial rfl (found6_spec (idxS p.lev s)) ⟨rfl, rfl, rfl, trivial⟩ ?_
  refine x.pureG rfl trivial rfl (fun _ => chn6_spec p.ins s hi) rfl ⟨veq_d rfl, rfl, trivial⟩ ?_
  refine x.pureG rfl trivial rfl (fun _ => found6_spec (idxC p.ins s)) rfl ⟨rfl, rfl, rfl, trivial⟩ ?_
  refine x.pureG rfl trivial rfl (fun _ => chn6_spec p.outs s ho) rfl ⟨veq_d rfl, rfl, trivial⟩ ?_
  refine x.pureG rfl trivial rfl (fun _ => found6_spec (idxC p.outs s)) rfl ⟨rfl, rfl, rfl, trivial⟩ ?_
  refine x.pureG rfl trivial rfl (fun _ => awake6_spec) rfl trivial ?_
  exact x.exit rfl trivial ⟨.inr rfl, rfl, trivial, rfl⟩
end Go.Proofs.YtcdfjaaipbjpnaaDoor

/- Policies that are handed in, as data; a row whose walk wants the world's shape. -/
namespace Go.Proofs.YtcdfjaaipbjpnaaDoor
open Go.Sx
set_option linter.unusedVariables false
set_option linter.unusedSimpArgs false

theorem conf_lst {α : Type} {z : Nat} {τ : List DTy} {x : D} (d : α → List D) (P : α → Prop) (a0 : α) (each : ∀ ds, Conf τ ds → ∃ a, P a ∧ ds.length = (d a).length ∧ ∀ (j : Nat) (u u' : D), ds[j]? = some u → (d a)[j]? = some u' → DQ u u')
    (h : Conf1 (.sl z τ) x) : ∃ l : List α, DQ x (.sl τ.length l.length fun i => d (l.getD i a0)) ∧ (l.length ≤ maxLen ∧ l.length * z ≤ reachBytes) ∧ ∀ a ∈ l, P a := by
  cases h with
  | sl _ _ n f hn hz hl hc =>
    have each' : ∀ i, i < n → ∃ a, P a ∧ (f i).length = (d a).length ∧ ∀ (j : Nat) (u u' : D), (f i)[j]? = some u → (d a)[j]? = some u' → DQ u u' := fun i hi => each (f i) ⟨hl i hi, fun j t d ht hd => hc i j t d hi ht hd⟩
    let g : Nat → α := fun i => if h : i < n then Classical.choose (each' i h) else a0
    have hg : ∀ i, i < n → P (g i) ∧ (f i).length = (d (g i)).length ∧ ∀ (j : Nat) (u u' : D), (f i)[j]? = some u → (d (g i))[j]? = some u' → DQ u u' := fun i hi => by
      have e : g i = Classical.choose (each' i hi) := by simp only [g, hi, dite_true]
      rw [e]
      exact Classical.choose_spec (each' i hi)
    have hgd : ∀ i, i < n → ((List.range n).map g).getD i a0 = g i := fun i hi => by
      rw [List.getD_eq_getElem?_getD, List.getElem?_eq_getElem (by simpa using hi)]; simp
    refine ⟨(List.range n).map g, ?_, by simpa using ⟨hn, hz⟩, fun o ho => ?_⟩
    · rw [show ((List.range n).map g).length = n by simp]
      refine .sl _ n _ _ (fun i hi => ?_) fun i j u u' hi hd hd' => ?_
      · rw [hgd i hi]; exact (hg i hi).2.1
      · rw [hgd i hi] at hd'
        exact (hg i hi).2.2 j u u' hd hd'
    · obtain ⟨i, hi, rfl⟩ := List.mem_map.1 ho
      exact (hg i (List.mem_range.1 hi)).1
def StrZ (s : ByteArray) : Prop := s.size ≤ 140737488355328
theorem reach_z {s : ByteArray} (h : s.size ≤ reachBytes) : StrZ s := by
  have := reachBytes_lt
  unfold StrZ; omega
theorem wf_i64 {n : Int} (h : (Lit.int .i64 n).wf = true) : inI64 n := by
  simp only [Lit.wf, Bool.and_eq_true, decide_eq_true_eq] at h
  exact h
theorem wf_u64 {n : Int} (h : (Lit.int .u64 n).wf = true) : 0 ≤ n ∧ n ≤ 18446744073709551615 := by
  simp only [Lit.wf, Bool.and_eq_true, decide_eq_true_eq] at h
  exact h
structure PolOK (p : Pol) : Prop where
  sz : PolSz p
  lev : ∀ s ∈ p.lev, StrZ s
  ins : ∀ c ∈ p.ins, StrZ c.1 ∧ inI64 c.2
  outs : ∀ c ∈ p.outs, StrZ c.1 ∧ inI64 c.2
  depth : inI64 p.depth
theorem conf_ss {z : Nat} {x : D} (h : Conf1 (.sl z [.str]) x) : ∃ l : List ByteArray, DQ x (dSs l) ∧ (l.length ≤ maxLen ∧ l.length * z ≤ reachBytes) ∧ ∀ a ∈ l, StrZ a :=
  conf_lst (fun s => [D.str s]) StrZ .empty (fun ds ⟨hl, hc⟩ => by
    match ds, hl with
    | [d0], _ =>
      obtain ⟨s, rfl, h1, h2⟩ := conf_str (hc 0 _ _ rfl rfl)
      refine ⟨s, reach_z h2, rfl, fun j u u' hd hd' => ?_⟩
      match j with
      | 0 => simp at hd hd'; subst hd hd'; exact .refl _
      | j + 1 => simp at hd) h
theorem conf_up {z : Nat} {x : D} (h : Conf1 (.sl z [.int .u64]) x) : ∃ l : List M64, DQ x (dUp l) ∧ (l.length ≤ maxLen ∧ l.length * z ≤ reachBytes) ∧ ∀ a ∈ l, True :=
  conf_lst (fun m => [dm m]) (fun _ => True) 0#64 (fun ds ⟨hl, hc⟩ => by
    match ds, hl with
    | [d0], _ =>
      obtain ⟨n, rfl, h1⟩ := conf_int (hc 0 _ _ rfl rfl)
      have h2 := wf_u64 h1
      refine ⟨BitVec.ofInt 64 n, trivial, rfl, fun j u u' hd hd' => ?_⟩
      match j with
      | 0 =>
        simp only [List.getElem?_cons_zero, Option.some.injEq] at hd hd'
        subst hd hd'
        have e : ((BitVec.ofInt 64 n).toNat : Int) = n := by
          rw [BitVec.toNat_ofInt]; omega
        unfold dm
        rw [e]; exact .refl _
      | j + 1 => simp at hd) h
theorem conf_chs {z : Nat} {x : D} (h : Conf1 (.sl z [.str, .int .i64]) x) : ∃ l : List Chan, DQ x (dChs l) ∧ (l.length ≤ maxLen ∧ l.length * z ≤ reachBytes) ∧ ∀ a ∈ l, StrZ a.1 ∧ inI64 a.2 :=
  conf_lst (fun c : Chan => [D.str c.1, D.int .i64 c.2]) (fun c => StrZ c.1 ∧ inI64 c.2) chan0 (fun ds ⟨hl, hc⟩ => by
    match ds, hl with
    | [d0, d1], _ =>
      obtain ⟨s, rfl, h1, h2⟩ := conf_str (hc 0 _ _ rfl rfl)
      obtain ⟨n, rfl, h3⟩ := conf_int (hc 1 _ _ rfl rfl)
      refine ⟨(s, n), ⟨reach_z h2, wf_i64 h3⟩, rfl, fun j u u' hd hd' => ?_⟩
      match j with
      | 0 => simp at hd hd'; subst hd hd'; exact .refl _
      | 1 => simp at hd hd'; subst hd hd'; exact .refl _
      | j + 2 => simp at hd) h
abbrev polTy : List DTy := [.sl 16 [.str], .sl 8 [.int .u64], .sl 24 [.str, .int .i64], .sl 24 [.str, .int .i64], .int .i64]
theorem conf_polV {F : Nat → Prop} {w : World} {ρ : Nat → Value} {ds : List D} {cs : List Value} (h : Conf polTy ds) (hr : All2 (RD F w) ds cs) : ∃ x : Pol, PolOK x ∧ R3 ρ F w (vPol x) (.agg cs.toArray) := by
  obtain ⟨hl, hc⟩ := h
  match ds, hl, cs, hr with
  | [d0, d1, d2, d3, d4], _, [c0, c1, c2, c3, c4], ⟨r0, r1, r2, r3, r4, _⟩ =>
    obtain ⟨l0, q0, w0, z0⟩ := conf_ss (hc 0 _ _ rfl rfl)
    obtain ⟨l1, q1, w1, z1⟩ := conf_up (hc 1 _ _ rfl rfl)
    obtain ⟨l2, q2, w2, z2⟩ := conf_chs (hc 2 _ _ rfl rfl)
    obtain ⟨l3, q3, w3, z3⟩ := conf_chs (hc 3 _ _ rfl rfl)
    obtain ⟨n4, rfl, w4⟩ := conf_int (hc 4 _ _ rfl rfl)
    have := reachBytes_lt
    exact ⟨⟨l0, l1, l2, l3, n4⟩, ⟨⟨by show l0.length * 16 ≤ _; omega, by show l1.length * 8 ≤ _; omega, by show l2.length * 24 ≤ _; omega, by show l3.length * 24 ≤ _; omega⟩, z0, z2, z3, wf_i64 w4⟩, ⟨_, rfl, q0.sound r0, q1.sound r1, q2.sound r2, q3.sound r3, r4, trivial⟩⟩

/-- A row's claim from a walk that is told what the tables hold and that the world has the program's shape. -/
theorem returns_shaped {H : Type} {enc : TypeId × Value → H} {a : Assume} {C : Checked} {os : Os} {f : FuncId} {fn : Func} {s : ChangeSpec} {conds : List PathCond} {apart fresh handsOn again : Bool} {X : World → Array Value → Prop}
    (hX : ∀ (w w' : World) (args : Array Value), w.heap = w'.heap → X w args → X w' args)
    (own : ownKnob C.prog.godebug = none) (started : os.Started) (noInit : C.prog.inits.idxOf? f = none) (hfn : C.prog.funcs[f]? = some fn)
    (witness : ∃ (w : World) (tape : Tape) (i : Input), w.os = os ∧ (w.forCall tape i).Shaped C.prog ∧ i.vars = [] ∧ Input.okWide C.prog (w.forCall tape i) .any w.heap.size f i ∧
      ((s.pre enc C.prog fn conds apart (w.forCall tape i).memory i.args ∧ X (w.forCall tape i).memory i.args) ∧ sizedMet enc C.prog fn (OpenSpec.ofChange s) apart (w.forCall tape i).memory i.args) ∧ a.holds C.prog (lone (Frame.enter C.prog f i.args .normal) [] (w.forCall tape i)))
    (walk : ∀ (W : World) (base : Nat) (args : Array Value) (ds gs : List (DataW H)) (before : List MemPlace), W.ShapedOpen C.prog →
      (∀ (j : Nat) t v, fn.params[j]? = some t → args[j]? = some v → Value.okWide C.prog W .any base t v) →
      DataW.Whole enc C.prog fn.params.toList s.vars apart W args.toList ds gs before →
      conds.all (PathCond.test C.prog ⟨fn.params.toList, ds, s.plain.varTypes C.prog, gs⟩) = true →
      (DataW.weightsEach C.prog (fn.params.toList ++ s.plain.varTypes C.prog) (ds ++ gs)).all (· ≤ reachBytes) = true → X W args →
      a.holds C.prog (lone (Frame.enter C.prog f args .normal) [] W) →
      Calls C.prog f args W fun e W' => ∃ v, e = .returned v ∧ s.post enc C.prog fn apart fresh handsOn again W args v W') :
    ReturnsInHanded a C os f .any (fun w args => (s.pre enc C.prog fn conds apart w args ∧ X w args) ∧ sizedMet enc C.prog fn (OpenSpec.ofChange s) apart w args) (s.post enc C.prog fn apart fresh handsOn again) :=
  returnsInHanded_of_calls own started noInit witness fun w tape i _ hshape _ hin ⟨⟨⟨ds, gs, before, hwhole, hcond⟩, hx⟩, hz⟩ hh => by
    obtain ⟨_, _, _, fn', e, _, _, _, _, hv⟩ := hin
    cases hfn.symm.trans e
    refine (walk _ w.heap.size i.args ds gs before hshape hv (DataW.Whole.of_heap (w' := w.forCall tape i) (by rfl) hwhole) hcond (hz.weights hwhole) (hX _ _ _ (by rfl) hx) hh).mono ?_
    rintro e W' ⟨v, rfl, hp⟩
    exact ChangeSpec.post_blind hp
end Go.Proofs.YtcdfjaaipbjpnaaDoor
