/- Texts put together: T15J, T15K, T15L. -/
import Derived.Test.YtgnnglfbpcjadaaGreatDoorMD

/- Boxes: which events a level sees; the answer's Alike and Mixed. -/
namespace Go.Proofs.YtgnnglfbpcjadaaGreatDoor
open Go.Sx
set_option linter.unusedVariables false
set_option linter.unusedSimpArgs false
set_option maxRecDepth 100000

theorem rgt_o {p : Pol} (h : rightP p = true) : ∀ c ∈ p.outs, 0 ≤ c.2 ∧ c.2 < (p.lev.length : Int) := by
  unfold rightP headB at h
  simp only [Bool.and_eq_true, decide_eq_true_eq] at h
  obtain ⟨⟨⟨⟨⟨h1, h2⟩, h3⟩, h4⟩, h5⟩, h6, h7⟩ := h
  unfold chansB at h7
  rw [Bool.and_eq_true, decide_eq_true_eq, allF_iff] at h7
  intro c hc
  obtain ⟨i, hi, rfl⟩ := List.getElem_of_mem hc
  have := h7.2 i (Nat.zero_le _) (by omega)
  unfold chnB at this
  simp only [Bool.and_eq_true, decide_eq_true_eq] at this
  rw [List.getD_eq_getElem?_getD, List.getElem?_eq_getElem hi] at this
  exact ⟨this.1.2, this.2⟩
/-- Where an event of a kind stands. -/
def atE (p : Pol) (e : Ev) : Int := if e.kind = 1 then (p.outs.getD e.ref.toNat chan0).2 else e.ref
def seesE (p : Pol) (lv : Nat) (e : Ev) : Bool := bit (upA p.up (atE p e).toNat) lv
def selE (p : Pol) (lv : Nat) (kind : Int) (e : Ev) : Bool := (decide (e.kind = kind) && goodB p e) && seesE p lv e
def seenOK (p : Pol) (lv : Int) : Bool := (rightP p && decide (0 ≤ lv)) && decide (lv < (p.lev.length : Int))
def seenV (p : Pol) (lv : Int) (kind : Int) (l : List Ev) : List Ev := if seenOK p lv then l.filter (selE p lv.toNat kind) else []
theorem at_in {p : Pol} (hR : rightP p = true) {e : Ev} (hg : goodB p e = true) : 0 ≤ e.ref ∧ (e.kind = 1 → e.ref < (p.outs.length : Int)) ∧ 0 ≤ atE p e ∧ atE p e < (p.up.length : Int) := by
  have hr := rgt_p hR
  have ho := rgt_o hR
  have hl := hr.len
  unfold goodB at hg
  simp only [Bool.and_eq_true, Bool.or_eq_true, Bool.not_eq_true', Bool.or_eq_false_iff, decide_eq_true_eq, decide_eq_false_iff_not] at hg
  obtain ⟨⟨⟨g1, g2⟩, g3⟩, g4⟩ := hg
  unfold atE
  refine ⟨by omega, fun hk => by omega, ?_⟩
  by_cases hk : e.kind = 1
  · rw [if_pos hk]
    have hlt : e.ref.toNat < p.outs.length := by omega
    have := ho _ (List.getElem_mem hlt)
    rw [List.getD_eq_getElem?_getD, List.getElem?_eq_getElem hlt]
    show 0 ≤ (p.outs[e.ref.toNat]).2 ∧ (p.outs[e.ref.toNat]).2 < (p.up.length : Int)
    omega
  · rw [if_neg hk]; omega
theorem seenOK_not {p : Pol} {lv : Int} (h : ((!rightP p || decide (lv < 0)) || decide ((p.lev.length : Int) ≤ lv)) = true) : seenOK p lv = false := by
  unfold seenOK
  rw [show decide (0 ≤ lv) = !decide (lv < 0) by rw [← decide_not, decide_eq_decide]; omega, show decide (lv < (p.lev.length : Int)) = !decide ((p.lev.length : Int) ≤ lv) by rw [← decide_not, decide_eq_decide]; omega]
  revert h
  cases rightP p <;> cases decide (lv < 0) <;> cases decide ((p.lev.length : Int) ≤ lv) <;> decide
theorem seenOK_is {p : Pol} {lv : Int} (h : ((!rightP p || decide (lv < 0)) || decide ((p.lev.length : Int) ≤ lv)) = false) : seenOK p lv = true := by
  unfold seenOK
  rw [show decide (0 ≤ lv) = !decide (lv < 0) by rw [← decide_not, decide_eq_decide]; omega, show decide (lv < (p.lev.length : Int)) = !decide ((p.lev.length : Int) ≤ lv) by rw [← decide_not, decide_eq_decide]; omega]
  revert h
  cases rightP p <;> cases decide (lv < 0) <;> cases decide ((p.lev.length : Int) ≤ lv) <;> decide
structure SeenR (p : Pol) (lv : Int) : Prop where
  r : rightP p = true
  l1 : 0 ≤ lv
  l2 : lv < (p.lev.length : Int)
  l64 : p.up.length ≤ 64
theorem seen_r {p : Pol} {lv : Int} (h : seenOK p lv = true) : SeenR p lv := by
  unfold seenOK at h
  simp only [Bool.and_eq_true, decide_eq_true_eq] at h
  have hr := rgt_p h.1.1
  have ho : orderM p.up = true := by have := hr.up; unfold rightM at this; rw [Bool.and_eq_true] at this; exact this.1
  exact ⟨h.1.1, h.1.2, h.2, (ord_of ho).len⟩
abbrev evC (e : Ev) : Ch := .box [.d (.int .u8 e.kind), vi e.ref, vi e.val, vi e.fn, vi e.at_]
abbrev lvC (lv : Int) : Ch := .box [vi lv]
/-! ### the program's Seen -/
theorem seen1_spec (p : Pol) (hz : PolZ p) (lv : Int) (hS : SeenR p lv) (e : Ev) (hg : goodB p e = true) : Proc PG 40 2 [vEv e, .ptr 0 0, .ptr 1 0] [polB p, lvC lv] (vb (seesE p lv.toNat e)) [polB p, lvC lv] := by
  obtain ⟨i1, i2, i3, i4⟩ := polSz_i64 hz.toPolSz
  have hr := rgt_p hS.r
  have hl := hr.len
  have l1 := hS.l1
  have l2 := hS.l2
  obtain ⟨a1, a2, a3, a4⟩ := at_in hS.r hg
  have hq : leqB p.up (atE p e) lv = seesE p lv.toNat e := by
    obtain ⟨n, rfl⟩ : ∃ n : Nat, lv = n := ⟨lv.toNat, by omega⟩
    rw [leq_bit hr.up a3 a4 (by omega)]; rfl
  refine Proc.mk (cfgF 23 2) tysOK [0, 1] Tryz.func40 rfl (by kernel_rfl) rfl rfl rfl ?_
  intro C x
  refine x.cond rfl trivial (fun h => ?_) (fun h => ?_)
  · have h : e.kind = 1 := of_decide_eq_true h
    have e1 : atE p e = (p.outs.getD e.ref.toNat chan0).2 := if_pos h
    rw [e1] at hq
    refine x.pure rfl (by simp only [AllP]; omega) rfl (leq_spec p.up (p.outs.getD e.ref.toNat chan0).2 lv i2) ⟨veq_d rfl, rfl, rfl, trivial⟩ ?_
    rw [hq]
    exact x.exit rfl trivial ⟨.inr rfl, rfl, ⟨polB_eq p, ⟨rfl, trivial⟩, trivial⟩, rfl⟩
  · have h : ¬ e.kind = 1 := of_decide_eq_false h
    have e1 : atE p e = e.ref := if_neg h
    rw [e1] at hq
    refine x.pure rfl trivial rfl (leq_spec p.up e.ref lv i2) ⟨veq_d rfl, rfl, rfl, trivial⟩ ?_
    rw [hq]
    exact x.exit rfl trivial ⟨.inr rfl, rfl, ⟨polB_eq p, ⟨rfl, trivial⟩, trivial⟩, rfl⟩
theorem filter_take {P : Ev → Bool} {l : List Ev} {i : Nat} (h : i < l.length) : (l.take (i + 1)).filter P = if P (l.getD i ev0) then (l.take i).filter P ++ [l.getD i ev0] else (l.take i).filter P := by
  have e : l[i]? = some (l.getD i ev0) := by rw [List.getD_eq_getElem?_getD, List.getElem?_eq_getElem h]; rfl
  rw [take_succ e, List.filter_append]
  cases hP : P (l.getD i ev0) with
  | true => rw [List.filter_cons_of_pos hP]; rfl
  | false => rw [List.filter_cons_of_neg (by rw [hP]; simp)]; simp
theorem filter_len {P : Ev → Bool} {l : List Ev} {i : Nat} : ((l.take i).filter P).length ≤ l.length := Nat.le_trans (List.length_filter_le _ _) (by rw [List.length_take]; omega)
set_option maxHeartbeats 4000000 in
theorem seen_spec (p : Pol) (hz : PolZ p) (lv : Int) (kind : Int) (l : List Ev) (hl : l.length * 40 ≤ 100000) : Pure PG 19 [vPol p, vi lv, .d (.int .u8 kind), vEvs l] (vEvs (seenV p lv kind l)) [] := by
  obtain ⟨i1, i2, i3, i4⟩ := polSz_i64 hz.toPolSz
  refine Proc.mk (cfg 55) tysOK [] Tryz.func19 rfl (by kernel_rfl) rfl rfl rfl ?_
  intro C x
  refine x.pure rfl trivial rfl (pright_spec p hz) ⟨⟨veq0_d rfl, veq0_d rfl, veq0_d rfl, veq0_d rfl, rfl, trivial⟩, trivial⟩ ?_
  refine x.cond rfl trivial (fun h => ?_) (fun h => ?_)
  · have h : ((!rightP p || decide (lv < 0)) || decide ((p.lev.length : Int) ≤ lv)) = true := h
    refine x.exit rfl trivial ⟨.inr rfl, ?_, trivial, rfl⟩
    rw [seenV, seenOK_not h, if_neg (by simp)]; exact rfl
  have h : ((!rightP p || decide (lv < 0)) || decide ((p.lev.length : Int) ≤ lv)) = false := h
  have hok := seenOK_is h
  have hS := seen_r hok
  rw [seenV, hok, if_pos rfl]
  refine x.toLoop rfl trivial ?_
  refine Go.own 10 44 5 (fun i => evD (([] : List Ev).getD i ev0)) rfl ?_
  refine x.loop (α := { i : Nat // i ≤ l.length }) (fun y => ⟨[(2, .d (.int .u8 kind)), (4, .ptr 0 0), (9, .fn 40 [.ptr 0 0, .ptr 1 0]), (10, .own 2), (28, vEvs l), (29, vi (l.length : Int)), (30, vi (y.1 : Int))], [(0, polB p), (1, lvC lv), (2, vecE ((l.take y.1).filter (selE p lv.toNat kind)))], 3⟩) (fun y => l.length - y.1) ⟨0, by omega⟩ rfl trivial ⟨⟨rfl, ⟨rfl, rfl⟩, rfl, rfl, veq_d rfl, rfl, rfl, trivial⟩, ⟨polB_eq p, ⟨rfl, trivial⟩, ⟨rfl, rfl, rfl, fun _ h => absurd h (Nat.not_lt_zero _)⟩, trivial⟩, rfl⟩ (fun y => ?_)
  obtain ⟨i, hi⟩ := y
  change Go C _ ⟨[(2, .d (.int .u8 kind)), (4, .ptr 0 0), (9, .fn 40 [.ptr 0 0, .ptr 1 0]), (10, .own 2), (28, vEvs l), (29, vi (l.length : Int)), (30, vi (i : Int))], [(0, polB p), (1, lvC lv), (2, vecE ((l.take i).filter (selE p lv.toNat kind)))], 3⟩ _
  refine x.cond rfl trivial (fun h1 => ?_) (fun h1 => ?_)
  rotate_left
  · have h1 : i = l.length := by have := of_decide_eq_false h1; omega
    subst h1
    rw [List.take_length]
    refine Sx.Go.freeze 2 ?_
    have hfl : (l.filter (selE p lv.toNat kind)).length ≤ l.length := List.length_filter_le _ _
    refine x.pure rfl trivial rfl (clipE_spec (n := (l.filter (selE p lv.toNat kind)).length) (f := fun i => evD ((l.filter (selE p lv.toNat kind)).getD i ev0)) (by omega)) ⟨veq_d rfl, trivial⟩ ?_
    exact x.exit rfl trivial ⟨.inr rfl, veq_d rfl, trivial, rfl⟩
  have h1 : i < l.length := by have := of_decide_eq_true h1; omega
  have hft := filter_take (P := selE p lv.toNat kind) h1
  have hfl := filter_len (P := selE p lv.toNat kind) (l := l) (i := i)
  obtain ⟨e, he⟩ : ∃ e, l.getD i ev0 = e := ⟨_, rfl⟩
  refine x.pureG rfl (by simp only [AllP]; omega) rfl (fun _ => good_spec p (l.getD i ev0)) rfl ⟨⟨veq0_d rfl, veq0_d rfl, veq0_d rfl, veq0_d rfl, rfl, trivial⟩, ⟨rfl, rfl, rfl, rfl, rfl, trivial⟩, trivial⟩ ?_
  refine x.callG [0, 1] rfl trivial rfl (fun hq => seen1_spec p hz lv hS (l.getD i ev0) ?_) rfl ⟨⟨rfl, rfl, rfl, rfl, rfl, trivial⟩, ⟨rfl, rfl⟩, ⟨rfl, rfl⟩, trivial⟩ ⟨polB_eq p, ⟨rfl, trivial⟩, trivial⟩ ⟨⟨rfl, rfl, rfl, rfl, rfl, trivial⟩, polB_eq p, ⟨rfl, trivial⟩, ⟨rfl, rfl, rfl, fun _ _ => rfl⟩, trivial⟩ ?_
  · have hq : (decide ((l.getD i ev0).kind = kind) && goodB p (l.getD i ev0)) = true := hq
    rw [Bool.and_eq_true] at hq; exact hq.2
  refine x.cond rfl trivial (fun h2 => ?_) (fun h2 => ?_)
  · have h2 : selE p lv.toNat kind (l.getD i ev0) = true := h2
    rw [h2, if_pos rfl] at hft
    refine x.back rfl (by simp only [AllP, inI64, big]; omega) ⟨⟨i + 1, by omega⟩, by show l.length - (i + 1) < l.length - i; omega, ⟨rfl, ⟨rfl, rfl⟩, rfl, rfl, veq_d rfl, rfl, (show VEq0 (vi ((i : Int) + 1)) (vi ((i + 1 : Nat) : Int)) by rw [Int.natCast_add]; rfl), trivial⟩, ⟨polB_eq p, ⟨rfl, trivial⟩, ⟨rfl, rfl, by rw [hft]; simp, fun j hj => ?_⟩, trivial⟩, rfl⟩
    rw [hft]
    exact app_gen6 evD 5 (fun _ => rfl) ev0 _ _ j hj
  · have h2 : selE p lv.toNat kind (l.getD i ev0) = false := h2
    rw [h2, if_neg (by simp)] at hft
    exact x.back rfl (by simp only [AllP, inI64]; omega) ⟨⟨i + 1, by omega⟩, by show l.length - (i + 1) < l.length - i; omega, ⟨rfl, ⟨rfl, rfl⟩, rfl, rfl, veq_d rfl, rfl, (show VEq0 (vi ((i : Int) + 1)) (vi ((i + 1 : Nat) : Int)) by rw [Int.natCast_add]; rfl), trivial⟩, ⟨polB_eq p, ⟨rfl, trivial⟩, ⟨rfl, rfl, by rw [hft], fun j hj => by rw [hft]⟩, trivial⟩, rfl⟩
end Go.Proofs.YtgnnglfbpcjadaaGreatDoor

/- Boxes: the answer's Seen, Alike and Mixed. -/
namespace Go.Proofs.YtgnnglfbpcjadaaGreatDoor
open Go.Sx
set_option linter.unusedVariables false
set_option linter.unusedSimpArgs false
set_option maxRecDepth 100000

theorem sees15_spec (p : Pol) (hz : PolZ p) (lv : Int) (hS : SeenR p lv) (e : Ev) (hg : goodB p e = true) : Pure PG 46 [vPol p, vi lv, vEv e] (vb (seesE p lv.toNat e)) [] := by
  have hr := rgt_p hS.r
  have hl := hr.len
  have l1 := hS.l1
  have l2 := hS.l2
  have l64 := hS.l64
  obtain ⟨a1, a2, a3, a4⟩ := at_in hS.r hg
  obtain ⟨n, rfl⟩ : ∃ n : Nat, lv = n := ⟨lv.toNat, by omega⟩
  obtain ⟨a, ha⟩ : ∃ a : Nat, atE p e = a := ⟨(atE p e).toNat, by omega⟩
  have hq : bit (upA p.up a) n = seesE p n e := by unfold seesE; rw [ha]; rfl
  have sA := above_spec p.up a n (by omega) (by omega)
  refine Proc.mk (cfg 25) tysOK [] Tryz.func46 rfl (by kernel_rfl) rfl rfl rfl ?_
  intro C x
  refine x.cond rfl trivial (fun h => ?_) (fun h => ?_)
  · have h : e.kind = 1 := of_decide_eq_true h
    have e1 : (p.outs.getD e.ref.toNat chan0).2 = (a : Int) := by rw [← ha]; exact (if_pos h).symm
    refine x.pure rfl (by simp only [AllP]; omega) rfl sA ⟨veq_d rfl, (show VEq0 (vi (p.outs.getD e.ref.toNat chan0).2) (vi (a : Int)) by rw [e1]; exact rfl), rfl, trivial⟩ ?_
    rw [hq]
    exact x.exit rfl trivial ⟨.inr rfl, rfl, trivial, rfl⟩
  · have h : ¬ e.kind = 1 := of_decide_eq_false h
    have e1 : e.ref = (a : Int) := by rw [← ha]; exact (if_neg h).symm
    refine x.pure rfl trivial rfl sA ⟨veq_d rfl, (show VEq0 (vi e.ref) (vi (a : Int)) by rw [e1]; exact rfl), rfl, trivial⟩ ?_
    rw [hq]
    exact x.exit rfl trivial ⟨.inr rfl, rfl, trivial, rfl⟩
set_option maxHeartbeats 4000000 in
theorem seen15_spec (p : Pol) (hz : PolZ p) (lv : Int) (kind : Int) (l : List Ev) (hl : l.length * 40 ≤ 100000) : Pure PG 23 [vPol p, vi lv, .d (.int .u8 kind), vEvs l] (vEvs (seenV p lv kind l)) [] := by
  obtain ⟨i1, i2, i3, i4⟩ := polSz_i64 hz.toPolSz
  refine Proc.mk (cfg 63) tysOK [] Tryz.func23 rfl (by kernel_rfl) rfl rfl rfl ?_
  intro C x
  refine x.pure rfl trivial rfl (rright6_spec p hz) ⟨⟨veq0_d rfl, veq0_d rfl, veq0_d rfl, veq0_d rfl, rfl, trivial⟩, trivial⟩ ?_
  refine x.cond rfl trivial (fun h => ?_) (fun h => ?_)
  · have h : ((!rightP p || decide (lv < 0)) || decide ((p.lev.length : Int) ≤ lv)) = true := h
    refine x.exit rfl trivial ⟨.inr rfl, ?_, trivial, rfl⟩
    rw [seenV, seenOK_not h, if_neg (by simp)]; exact rfl
  have h : ((!rightP p || decide (lv < 0)) || decide ((p.lev.length : Int) ≤ lv)) = false := h
  have hok := seenOK_is h
  have hS := seen_r hok
  rw [seenV, hok, if_pos rfl]
  refine x.toLoop rfl trivial ?_
  refine Go.own 9 44 5 (fun i => evD (([] : List Ev).getD i ev0)) rfl ?_
  refine x.loop (α := { i : Nat // i ≤ l.length }) (fun y => ⟨[(1, vi lv), (2, .d (.int .u8 kind)), (3, vEvs l), (4, .ptr 0 0), (9, .own 1), (10, vi (y.1 : Int))], [(0, polB p), (1, vecE ((l.take y.1).filter (selE p lv.toNat kind)))], 2⟩) (fun y => l.length - y.1) ⟨0, by omega⟩ rfl trivial ⟨⟨rfl, rfl, veq_d rfl, ⟨rfl, rfl⟩, rfl, rfl, trivial⟩, ⟨polB_eq p, ⟨rfl, rfl, rfl, fun _ h => absurd h (Nat.not_lt_zero _)⟩, trivial⟩, rfl⟩ (fun y => ?_)
  obtain ⟨i, hi⟩ := y
  change Go C _ ⟨[(1, vi lv), (2, .d (.int .u8 kind)), (3, vEvs l), (4, .ptr 0 0), (9, .own 1), (10, vi (i : Int))], [(0, polB p), (1, vecE ((l.take i).filter (selE p lv.toNat kind)))], 2⟩ _
  refine x.cond rfl trivial (fun h1 => ?_) (fun h1 => ?_)
  rotate_left
  · have h1 : i = l.length := by have := of_decide_eq_false h1; omega
    subst h1
    rw [List.take_length]
    refine Sx.Go.freeze 1 ?_
    exact x.exit rfl trivial ⟨.inr rfl, veq_d rfl, trivial, rfl⟩
  have h1 : i < l.length := by have := of_decide_eq_true h1; omega
  have hft := filter_take (P := selE p lv.toNat kind) h1
  have hfl := filter_len (P := selE p lv.toNat kind) (l := l) (i := i)
  refine x.quiet rfl trivial mixedP (by kernel_rfl) ?_
  refine x.qcallG rfl (by simp only [AllP]; intros; omega) rfl (fun _ => good15_spec p (l.getD i ev0)) rfl rfl ⟨⟨veq0_d rfl, veq0_d rfl, veq0_d rfl, veq0_d rfl, rfl, trivial⟩, ⟨rfl, rfl, rfl, rfl, rfl, trivial⟩, trivial⟩ ?_
  refine x.qcallG rfl (by simp only [AllP]; intros; omega) rfl (fun hq => sees15_spec p hz lv hS (l.getD i ev0) ?_) rfl rfl ⟨⟨veq0_d rfl, veq0_d rfl, veq0_d rfl, veq0_d rfl, rfl, trivial⟩, rfl, ⟨rfl, rfl, rfl, rfl, rfl, trivial⟩, trivial⟩ ?_
  · have hq : (decide ((l.getD i ev0).kind = kind) && goodB p (l.getD i ev0)) = true := hq
    rw [Bool.and_eq_true] at hq; exact hq.2
  refine x.qdone rfl trivial ?_
  refine x.cond rfl trivial (fun h2 => ?_) (fun h2 => ?_)
  · have h2 : selE p lv.toNat kind (l.getD i ev0) = true := h2
    rw [h2, if_pos rfl] at hft
    refine x.back rfl (by simp only [AllP, inI64, big]; omega) ⟨⟨i + 1, by omega⟩, by show l.length - (i + 1) < l.length - i; omega, ⟨rfl, rfl, veq_d rfl, ⟨rfl, rfl⟩, rfl, (show VEq0 (vi ((i : Int) + 1)) (vi ((i + 1 : Nat) : Int)) by rw [Int.natCast_add]; rfl), trivial⟩, ⟨polB_eq p, ⟨rfl, rfl, by rw [hft]; simp, fun j hj => ?_⟩, trivial⟩, rfl⟩
    rw [hft]
    exact app_gen6 evD 5 (fun _ => rfl) ev0 _ _ j hj
  · have h2 : selE p lv.toNat kind (l.getD i ev0) = false := h2
    rw [h2, if_neg (by simp)] at hft
    exact x.back rfl (by simp only [AllP, inI64]; omega) ⟨⟨i + 1, by omega⟩, by show l.length - (i + 1) < l.length - i; omega, ⟨rfl, rfl, veq_d rfl, ⟨rfl, rfl⟩, rfl, (show VEq0 (vi ((i : Int) + 1)) (vi ((i + 1 : Nat) : Int)) by rw [Int.natCast_add]; rfl), trivial⟩, ⟨polB_eq p, ⟨rfl, rfl, by rw [hft], fun j hj => by rw [hft]⟩, trivial⟩, rfl⟩
theorem above_sees {p : Pol} {lv : Int} {a b : Rows} (h : AskR p lv a b) (l64 : p.up.length ≤ 64) {k : Nat} (hk : k < p.ins.length) : ∃ n m : Nat, (p.ins.getD k chan0).2 = (n : Int) ∧ lv = (m : Int) ∧ n < p.up.length ∧ m < 64 ∧ bit (upA p.up n) m = seesI p lv.toNat k := by
  have hm : p.ins.getD k chan0 ∈ p.ins := by rw [List.getD_eq_getElem?_getD, List.getElem?_eq_getElem hk]; exact List.getElem_mem hk
  obtain ⟨c2, c3⟩ := h.r.iok _ hm
  have hl := h.r.len
  have l1 := h.l1
  have l2 := h.l2
  refine ⟨(p.ins.getD k chan0).2.toNat, lv.toNat, by omega, by omega, by omega, by omega, rfl⟩
theorem up64 {p : Pol} {lv : Int} {a b : Rows} (h : AskR p lv a b) : p.up.length ≤ 64 := by
  have ho : orderM p.up = true := by have := h.r.up; unfold rightM at this; rw [Bool.and_eq_true] at this; exact this.1
  exact (ord_of ho).len
set_option maxHeartbeats 16000000 in
theorem alike15_spec (p : Pol) (hz : PolZ p) (lv : Int) (hlv : inI64 lv) (a b : Rows) (ha : RowsOK a) (hb : RowsOK b) : Pure PG 24 [vPol p, vi lv, vRows a, vRows b] (vb (alikeB p lv a b)) [] := by
  obtain ⟨i1, i2, i3, i4⟩ := polSz_i64 hz.toPolSz
  refine Proc.mk (cfg 58) tysOK [] Tryz.func24 rfl (by kernel_rfl) rfl rfl rfl ?_
  intro C x
  refine x.pure rfl trivial rfl (right15_spec p hz a ha) ⟨⟨veq0_d rfl, veq0_d rfl, veq0_d rfl, veq0_d rfl, rfl, trivial⟩, veq_d rfl, trivial⟩ ?_
  refine x.pureG rfl trivial rfl (fun _ => right15_spec p hz b hb) rfl ⟨⟨veq0_d rfl, veq0_d rfl, veq0_d rfl, veq0_d rfl, rfl, trivial⟩, veq_d rfl, trivial⟩ ?_
  refine x.cond rfl trivial (fun h => ?_) (fun h => ?_)
  · have h : (((!inB p a || !inB p b) || decide (lv < 0)) || decide ((p.lev.length : Int) ≤ lv)) = true := h
    have hq : askB p lv a b = false := by rw [ask_eq, not4 h]
    refine x.exit rfl trivial ⟨.inr rfl, ?_, trivial, rfl⟩
    rw [alikeB, hq]; exact rfl
  have h : (((!inB p a || !inB p b) || decide (lv < 0)) || decide ((p.lev.length : Int) ≤ lv)) = false := h
  have hq : askB p lv a b = true := by rw [ask_eq, not4' h]
  have hA := ask_r hq
  have hil := hA.r.il
  have h64 := up64 hA
  refine x.loop (α := { i : Nat // i ≤ p.ins.length ∧ allF (alikeQ p lv.toNat a b) (p.ins.length - i) i = allF (alikeQ p lv.toNat a b) p.ins.length 0 }) (fun y => ⟨[(1, vi lv), (2, vRows a), (3, vRows b), (4, .ptr 0 0), (9, vi (y.1 : Int))], [(0, polB p)], 1⟩) (fun y => p.ins.length - y.1) ⟨0, by omega, rfl⟩ rfl trivial ⟨⟨rfl, veq_d rfl, veq_d rfl, ⟨rfl, rfl⟩, rfl, trivial⟩, ⟨polB_eq p, trivial⟩, rfl⟩ (fun y => ?_)
  obtain ⟨i, hi, hs⟩ := y
  change Go C _ ⟨[(1, vi lv), (2, vRows a), (3, vRows b), (4, .ptr 0 0), (9, vi (i : Int))], [(0, polB p)], 1⟩ _
  refine x.cond rfl trivial (fun h1 => ?_) (fun h1 => ?_)
  rotate_left
  · have h1 : i = p.ins.length := by have := of_decide_eq_false h1; omega
    refine x.exit rfl trivial ⟨.inr rfl, ?_, trivial, rfl⟩
    rw [h1, Nat.sub_self] at hs
    rw [alikeB, ← hs, hq]; exact rfl
  have h1 : i < p.ins.length := by have := of_decide_eq_true h1; omega
  rw [allF_step h1] at hs
  obtain ⟨n, m, e1, e2, n1, m1, hse⟩ := above_sees hA h64 h1
  have sA := above_spec p.up n m n1 m1
  rw [hse] at sA
  have hrow : (a.getD i []).length * 8 ≤ 140737488355328 := by have := row_small hA.a2 i; omega
  refine x.every2 [] [0, 1, 2, 3, 4, 5, 6, 7, 8] (.fork 9 (.fork 10 (.fork 11 (.fork 12 (.fork 13 (.fork 14 (.fork 15 (.fork 16 (.fork 17 (.fork 18 (.fork 19 .leaf .no) .no) .no) .no) .no) (.fork 15 (.fork 14 (.fork 16 (.fork 17 (.fork 18 (.fork 19 .leaf .no) .no) .no) .no) .no) .no)) (.fork 14 (.fork 13 (.fork 15 (.fork 16 (.fork 17 (.fork 18 (.fork 19 .leaf .no) .no) .no) .no) .no) (.fork 15 (.fork 13 (.fork 16 (.fork 17 (.fork 18 (.fork 19 .leaf .no) .no) .no) .no) .no) .no)) (.fork 15 (.fork 13 (.fork 14 (.fork 16 (.fork 17 (.fork 18 (.fork 19 .leaf .no) .no) .no) .no) .no) (.fork 14 (.fork 13 (.fork 16 (.fork 17 (.fork 18 (.fork 19 .leaf .no) .no) .no) .no) .no) .no)) .no))) (.fork 14 (.fork 12 (.fork 13 (.fork 15 (.fork 16 (.fork 17 (.fork 18 (.fork 19 .leaf .no) .no) .no) .no) .no) (.fork 15 (.fork 13 (.fork 16 (.fork 17 (.fork 18 (.fork 19 .leaf .no) .no) .no) .no) .no) .no)) (.fork 15 (.fork 12 (.fork 13 (.fork 16 (.fork 17 (.fork 18 (.fork 19 .leaf .no) .no) .no) .no) .no) .no) .no)) (.fork 15 (.fork 12 (.fork 13 (.fork 14 (.fork 16 (.fork 17 (.fork 18 (.fork 19 .leaf .no) .no) .no) .no) .no) (.fork 14 (.fork 13 (.fork 16 (.fork 17 (.fork 18 (.fork 19 .leaf .no) .no) .no) .no) .no) .no)) (.fork 14 (.fork 12 (.fork 13 (.fork 16 (.fork 17 (.fork 18 (.fork 19 .leaf .no) .no) .no) .no) .no) .no) .no)) .no))) (.fork 12 (.fork 11 (.fork 13 (.fork 14 (.fork 15 (.fork 16 (.fork 17 (.fork 18 (.fork 19 .leaf .no) .no) .no) .no) .no) (.fork 15 (.fork 14 (.fork 16 (.fork 17 (.fork 18 (.fork 19 .leaf .no) .no) .no) .no) .no) .no)) (.fork 14 (.fork 13 (.fork 15 (.fork 16 (.fork 17 (.fork 18 (.fork 19 .leaf .no) .no) .no) .no) .no) (.fork 15 (.fork 13 (.fork 16 (.fork 17 (.fork 18 (.fork 19 .leaf .no) .no) .no) .no) .no) .no)) (.fork 15 (.fork 13 (.fork 14 (.fork 16 (.fork 17 (.fork 18 (.fork 19 .leaf .no) .no) .no) .no) .no) (.fork 14 (.fork 13 (.fork 16 (.fork 17 (.fork 18 (.fork 19 .leaf .no) .no) .no) .no) .no) .no)) .no))) (.fork 14 (.fork 11 (.fork 13 (.fork 15 (.fork 16 (.fork 17 (.fork 18 (.fork 19 .leaf .no) .no) .no) .no) .no) (.fork 15 (.fork 13 (.fork 16 (.fork 17 (.fork 18 (.fork 19 .leaf .no) .no) .no) .no) .no) .no)) (.fork 15 (.fork 11 (.fork 13 (.fork 16 (.fork 17 (.fork 18 (.fork 19 .leaf .no) .no) .no) .no) .no) .no) .no)) (.fork 15 (.fork 11 (.fork 13 (.fork 14 (.fork 16 (.fork 17 (.fork 18 (.fork 19 .leaf .no) .no) .no) .no) .no) (.fork 14 (.fork 13 (.fork 16 (.fork 17 (.fork 18 (.fork 19 .leaf .no) .no) .no) .no) .no) .no)) (.fork 14 (.fork 11 (.fork 13 (.fork 16 (.fork 17 (.fork 18 (.fork 19 .leaf .no) .no) .no) .no) .no) .no) .no)) .no))) (.fork 14 (.fork 11 (.fork 12 (.fork 13 (.fork 15 (.fork 16 (.fork 17 (.fork 18 (.fork 19 .leaf .no) .no) .no) .no) .no) (.fork 15 (.fork 13 (.fork 16 (.fork 17 (.fork 18 (.fork 19 .leaf .no) .no) .no) .no) .no) .no)) (.fork 15 (.fork 12 (.fork 13 (.fork 16 (.fork 17 (.fork 18 (.fork 19 .leaf .no) .no) .no) .no) .no) .no) .no)) (.fork 12 (.fork 11 (.fork 13 (.fork 15 (.fork 16 (.fork 17 (.fork 18 (.fork 19 .leaf .no) .no) .no) .no) .no) (.fork 15 (.fork 13 (.fork 16 (.fork 17 (.fork 18 (.fork 19 .leaf .no) .no) .no) .no) .no) .no)) (.fork 15 (.fork 11 (.fork 13 (.fork 16 (.fork 17 (.fork 18 (.fork 19 .leaf .no) .no) .no) .no) .no) .no) .no)) (.fork 15 (.fork 11 (.fork 12 (.fork 13 (.fork 16 (.fork 17 (.fork 18 (.fork 19 .leaf .no) .no) .no) .no) .no) .no) (.fork 12 (.fork 11 (.fork 13 (.fork 16 (.fork 17 (.fork 18 (.fork 19 .leaf .no) .no) .no) .no) .no) .no) .no)) .no))) (.fork 15 (.fork 11 (.fork 12 (.fork 13 (.fork 14 (.fork 16 (.fork 17 (.fork 18 (.fork 19 .leaf .no) .no) .no) .no) .no) (.fork 14 (.fork 13 (.fork 16 (.fork 17 (.fork 18 (.fork 19 .leaf .no) .no) .no) .no) .no) .no)) (.fork 14 (.fork 12 (.fork 13 (.fork 16 (.fork 17 (.fork 18 (.fork 19 .leaf .no) .no) .no) .no) .no) .no) .no)) (.fork 12 (.fork 11 (.fork 13 (.fork 14 (.fork 16 (.fork 17 (.fork 18 (.fork 19 .leaf .no) .no) .no) .no) .no) (.fork 14 (.fork 13 (.fork 16 (.fork 17 (.fork 18 (.fork 19 .leaf .no) .no) .no) .no) .no) .no)) (.fork 14 (.fork 11 (.fork 13 (.fork 16 (.fork 17 (.fork 18 (.fork 19 .leaf .no) .no) .no) .no) .no) .no) .no)) (.fork 14 (.fork 11 (.fork 12 (.fork 13 (.fork 16 (.fork 17 (.fork 18 (.fork 19 .leaf .no) .no) .no) .no) .no) .no) (.fork 12 (.fork 11 (.fork 13 (.fork 16 (.fork 17 (.fork 18 (.fork 19 .leaf .no) .no) .no) .no) .no) .no) .no)) .no))) .no)))) .no) .no)
    ⟨[(1, vi lv), (2, vRows a), (3, vRows b), (4, .ptr 0 0), (9, vi (i : Int)), (57, vb (!alikeQ p lv.toNat a b i))], [], 1⟩ rfl trivial mixedP (by kernel_rfl) Ret.noPanic rfl (by simp only [AllP]; omega) (fun C2 x2 => ?_) ?_
  · have fin : VEq0 (vb (seesI p lv.toNat i && !decide (a.getD i [] = b.getD i []))) (vb (!alikeQ p lv.toNat a b i)) := by
      unfold alikeQ
      cases seesI p lv.toNat i <;> cases decide (a.getD i [] = b.getD i []) <;> exact rfl
    repeat' first
      | exact True.intro
      | refine And.intro ?_ ?_
      | refine x2.pure rfl trivial rfl sA ⟨veq_d rfl, (show VEq0 (vi (p.ins.getD i chan0).2) (vi (n : Int)) by rw [e1]; exact rfl), (show VEq0 (vi lv) (vi (m : Int)) by rw [e2]; exact rfl), trivial⟩ (x2.back rfl trivial ?_)
      | refine x2.pureG rfl trivial rfl (fun _ => row15_spec a i ha) rfl ⟨veq_d rfl, rfl, trivial⟩ (x2.back rfl trivial ?_)
      | refine x2.pureG rfl trivial rfl (fun _ => row15_spec b i hb) rfl ⟨veq_d rfl, rfl, trivial⟩ (x2.back rfl trivial ?_)
      | refine x2.pureG rfl trivial rfl (fun _ => same15_spec (a.getD i []) (b.getD i []) hrow) rfl ⟨veq_d rfl, veq_d rfl, trivial⟩ (x2.back rfl trivial ?_)
      | refine x2.back rfl trivial ?_
      | exact Or.inl ⟨⟨rfl, veq_d rfl, veq_d rfl, ⟨rfl, rfl⟩, rfl, fin, trivial⟩, trivial, rfl⟩
  refine x.cond rfl trivial (fun h2 => ?_) (fun h2 => ?_)
  · have h2 : (!alikeQ p lv.toNat a b i) = true := h2
    rw [Bool.not_eq_true'] at h2
    refine x.exit rfl trivial ⟨.inr rfl, ?_, trivial, rfl⟩
    rw [h2, Bool.false_and] at hs
    rw [alikeB, ← hs, Bool.and_false]; exact rfl
  · have h2 : (!alikeQ p lv.toNat a b i) = false := h2
    rw [Bool.not_eq_false'] at h2
    rw [h2, Bool.true_and] at hs
    exact x.back rfl (by simp only [AllP, inI64]; omega) ⟨⟨i + 1, by omega, hs⟩, by show p.ins.length - (i + 1) < p.ins.length - i; omega, ⟨rfl, veq_d rfl, veq_d rfl, ⟨rfl, rfl⟩, (show VEq0 (vi ((i : Int) + 1)) (vi ((i + 1 : Nat) : Int)) by rw [Int.natCast_add]; rfl), trivial⟩, ⟨polB_eq p, trivial⟩, rfl⟩
set_option maxHeartbeats 8000000 in
theorem mixed15_spec (p : Pol) (hz : PolZ p) (lv : Int) (hlv : inI64 lv) (a b : Rows) (ha : RowsOK a) (hb : RowsOK b) : Pure PG 22 [vPol p, vi lv, vRows a, vRows b] (.tup [vRows (mixedV p lv a b).1, vi (mixedV p lv a b).2]) [] := by
  obtain ⟨i1, i2, i3, i4⟩ := polSz_i64 hz.toPolSz
  refine Proc.mk (cfg 67) tysOK [] Tryz.func22 rfl (by kernel_rfl) rfl rfl rfl ?_
  intro C x
  refine x.pure rfl trivial rfl (right15_spec p hz a ha) ⟨⟨veq0_d rfl, veq0_d rfl, veq0_d rfl, veq0_d rfl, rfl, trivial⟩, veq_d rfl, trivial⟩ ?_
  refine x.pureG rfl trivial rfl (fun _ => right15_spec p hz b hb) rfl ⟨⟨veq0_d rfl, veq0_d rfl, veq0_d rfl, veq0_d rfl, rfl, trivial⟩, veq_d rfl, trivial⟩ ?_
  refine x.cond rfl trivial (fun h => ?_) (fun h => ?_)
  · have h : (((!inB p a || !inB p b) || decide (lv < 0)) || decide ((p.lev.length : Int) ≤ lv)) = true := h
    have hq : askB p lv a b = false := by rw [ask_eq, not4 h]
    refine x.exit rfl trivial ?_
    rw [mixedV, hq, if_neg (by simp)]
    exact ⟨.inr rfl, ⟨rfl, rfl, trivial⟩, trivial, rfl⟩
  have h : (((!inB p a || !inB p b) || decide (lv < 0)) || decide ((p.lev.length : Int) ≤ lv)) = false := h
  have hq : askB p lv a b = true := by rw [ask_eq, not4' h]
  have hA := ask_r hq
  have hil := hA.r.il
  have h64 := up64 hA
  rw [mixedV, hq, if_pos rfl]
  refine x.toLoop rfl trivial ?_
  refine Go.own 10 29 1 (fun i => [dInts (([] : Rows).getD i [])]) rfl ?_
  refine x.loop (α := { i : Nat // i ≤ p.ins.length }) (fun y => ⟨[(1, vi lv), (2, vRows a), (3, vRows b), (4, .ptr 0 0), (10, .own 1), (11, vi (y.1 : Int))], [(0, polB p), (1, vecR ((mixL p lv.toNat a b).take y.1))], 2⟩) (fun y => p.ins.length - y.1) ⟨0, by omega⟩ rfl trivial ⟨⟨rfl, veq_d rfl, veq_d rfl, ⟨rfl, rfl⟩, rfl, rfl, trivial⟩, ⟨polB_eq p, ⟨rfl, rfl, rfl, fun _ h => absurd h (Nat.not_lt_zero _)⟩, trivial⟩, rfl⟩ (fun y => ?_)
  obtain ⟨i, hi⟩ := y
  change Go C _ ⟨[(1, vi lv), (2, vRows a), (3, vRows b), (4, .ptr 0 0), (10, .own 1), (11, vi (i : Int))], [(0, polB p), (1, vecR ((mixL p lv.toNat a b).take i))], 2⟩ _
  refine x.cond rfl trivial (fun h1 => ?_) (fun h1 => ?_)
  rotate_left
  · have h1 : i = p.ins.length := by have := of_decide_eq_false h1; omega
    subst h1
    rw [show (mixL p lv.toNat a b).take p.ins.length = mixL p lv.toNat a b from List.take_of_length_le (by rw [mix_len]; exact Nat.le_refl _)]
    refine Sx.Go.freeze 1 ?_
    exact x.exit rfl trivial ⟨.inr rfl, ⟨veq0_d rfl, rfl, trivial⟩, trivial, rfl⟩
  have h1 : i < p.ins.length := by have := of_decide_eq_true h1; omega
  have htl : ((mixL p lv.toNat a b).take i).length = i := by rw [List.length_take, mix_len]; omega
  have hsm := mix_small hA i
  obtain ⟨n, m, e1, e2, n1, m1, hse⟩ := above_sees hA h64 h1
  have sA := above_spec p.up n m n1 m1
  rw [hse] at sA
  have fin : ∀ w : List Int, mixK p lv.toNat a b i = w → ∀ j, j < ((mixL p lv.toNat a b).take i).length + 1 → app ((mixL p lv.toNat a b).take i).length (fun i' => [dInts (((mixL p lv.toNat a b).take i).getD i' [])]) (fun _ => [dInts w]) j = [dInts (((mixL p lv.toNat a b).take (i + 1)).getD j [])] := fun w hm j hj => by
    rw [mix_take h1, hm]
    exact app_gen6 (fun r : List Int => [dInts r]) 1 (fun _ => rfl) [] ((mixL p lv.toNat a b).take i) w j hj
  refine x.quiet rfl trivial mixedP (by kernel_rfl) ?_
  refine x.qcall rfl (by simp only [AllP]; omega) rfl sA rfl rfl ⟨veq_d rfl, (show VEq0 (vi (p.ins.getD i chan0).2) (vi (n : Int)) by rw [e1]; exact rfl), (show VEq0 (vi lv) (vi (m : Int)) by rw [e2]; exact rfl), trivial⟩ ?_
  refine x.qdone rfl trivial ?_
  refine x.cond rfl trivial (fun h2 => ?_) (fun h2 => ?_)
  · have h2 : seesI p lv.toNat i = true := h2
    have hm : mixK p lv.toNat a b i = a.getD i [] := by unfold mixK; rw [if_pos h2]
    rw [hm] at hsm
    refine x.pure rfl trivial rfl (row15_spec a i ha) ⟨veq_d rfl, rfl, trivial⟩ ?_
    refine x.op rfl (by simp only [AllP, inI64, big, htl, Int.toNat_natCast]; omega) ?_
    refine Sx.Go.freeze 2 ?_
    refine Sx.Go.dq 55 (dInts (a.getD i [])) rfl (show DQ (D.sl 1 (0 + (a.getD i []).length) (app 0 (tab (List.replicate 0 [D.int IntKind.i64 0])) fun j => [D.int IntKind.i64 ((a.getD i []).getD j 0)])) (dInts (a.getD i [])) by rw [sl_app0 rfl (app0_1 _)]; exact .refl _) ?_
    exact x.back rfl (by simp only [AllP, inI64, big, htl]; omega) ⟨⟨i + 1, by omega⟩, by show p.ins.length - (i + 1) < p.ins.length - i; omega, ⟨rfl, veq_d rfl, veq_d rfl, ⟨rfl, rfl⟩, rfl, (show VEq0 (vi ((i : Int) + 1)) (vi ((i + 1 : Nat) : Int)) by rw [Int.natCast_add]; rfl), trivial⟩, ⟨polB_eq p, ⟨rfl, rfl, by rw [mix_take h1]; simp, fin _ hm⟩, trivial⟩, rfl⟩
  · have h2 : seesI p lv.toNat i = false := h2
    have hm : mixK p lv.toNat a b i = b.getD i [] := by unfold mixK; rw [if_neg (by rw [h2]; simp)]
    rw [hm] at hsm
    refine x.pure rfl trivial rfl (row15_spec b i hb) ⟨veq_d rfl, rfl, trivial⟩ ?_
    refine x.op rfl (by simp only [AllP, inI64, big, htl, Int.toNat_natCast]; omega) ?_
    refine Sx.Go.freeze 2 ?_
    refine Sx.Go.dq 63 (dInts (b.getD i [])) rfl (show DQ (D.sl 1 (0 + (b.getD i []).length) (app 0 (tab (List.replicate 0 [D.int IntKind.i64 0])) fun j => [D.int IntKind.i64 ((b.getD i []).getD j 0)])) (dInts (b.getD i [])) by rw [sl_app0 rfl (app0_1 _)]; exact .refl _) ?_
    exact x.back rfl (by simp only [AllP, inI64, big, htl]; omega) ⟨⟨i + 1, by omega⟩, by show p.ins.length - (i + 1) < p.ins.length - i; omega, ⟨rfl, veq_d rfl, veq_d rfl, ⟨rfl, rfl⟩, rfl, (show VEq0 (vi ((i : Int) + 1)) (vi ((i + 1 : Nat) : Int)) by rw [Int.natCast_add]; rfl), trivial⟩, ⟨polB_eq p, ⟨rfl, rfl, by rw [mix_take h1]; simp, fin _ hm⟩, trivial⟩, rfl⟩
end Go.Proofs.YtgnnglfbpcjadaaGreatDoor

/- Boxes: the law QueueSees. -/
namespace Go.Proofs.YtgnnglfbpcjadaaGreatDoor
open Go.Sx
set_option linter.unusedVariables false
set_option linter.unusedSimpArgs false
set_option maxRecDepth 100000

abbrev askQ (y : Ask) : Ch := .box [vSs y.p.lev, vU y.p.up, vChs y.p.ins, vChs y.p.outs, vi y.p.depth, vi y.level, vRows y.a, vRows y.b, .d (.int .u8 y.kind), vEvs y.evs]
theorem askQ_eq (y : Ask) : ChEq (askQ y) (askQ y) := ⟨veq0_d rfl, veq0_d rfl, veq0_d rfl, veq0_d rfl, rfl, rfl, veq0_d rfl, veq0_d rfl, rfl, veq0_d rfl, trivial⟩
theorem seenV_len (p : Pol) (lv kind : Int) (l : List Ev) : (seenV p lv kind l).length ≤ l.length := by
  unfold seenV
  split
  · exact List.length_filter_le _ _
  · exact Nat.zero_le _
theorem mixV_rows (p : Pol) (lv : Int) (a b : Rows) : RowsOK (mixedV p lv a b).1 := by
  unfold mixedV
  split
  · rename_i h
    have hA := ask_r h
    have := hA.r.il
    refine ⟨by show (mixL p lv.toNat a b).length * 24 ≤ _; rw [mix_len]; omega, fun r hr => ?_⟩
    obtain ⟨k, hk, rfl⟩ := List.mem_map.1 hr
    have := mix_small hA k
    omega
  · exact ⟨Nat.zero_le _, fun r hr => by cases hr⟩
set_option maxHeartbeats 16000000 in
theorem sees_spec (y : Ask) (hy : AskOK y) : Pure PG 4 [vAsk y] (vb true) [] := by
  have hz := polZ_ok hy.p
  have hlv := hy.level
  refine Proc.mk (cfg 132) tysOK [] Tryz.func4 rfl (by kernel_rfl) rfl rfl rfl ?_
  intro C x
  refine x.cond rfl trivial (fun h => ?_) (fun h => ?_)
  · exact x.exit rfl trivial ⟨.inr rfl, rfl, trivial, rfl⟩
  have h : ((decide (300 < (y.evs.length : Int)) || decide (40 < (y.a.length : Int))) || decide (40 < (y.b.length : Int))) = false := h
  simp only [Bool.or_eq_false_iff, decide_eq_false_iff_not] at h
  obtain ⟨⟨h300, h40⟩, h40b⟩ := h
  refine x.loop (α := { i : Nat // i ≤ 40 }) (fun z => ⟨[(1, .ptr 0 0), (3, vi (z.1 : Int))], [(0, askQ y)], 1⟩) (fun z => 40 - z.1) ⟨0, by omega⟩ rfl trivial ⟨⟨⟨rfl, rfl⟩, rfl, trivial⟩, ⟨askQ_eq y, trivial⟩, rfl⟩ (fun z => ?_)
  obtain ⟨i, hi⟩ := z
  change Go C _ ⟨[(1, .ptr 0 0), (3, vi (i : Int))], [(0, askQ y)], 1⟩ _
  refine x.cond rfl trivial (fun h1 => ?_) (fun h1 => ?_)
  · have h1 : i < 40 := by have := of_decide_eq_true h1; omega
    refine x.pure rfl trivial rfl (row15_spec y.a i hy.a) ⟨veq_d rfl, rfl, trivial⟩ ?_
    refine x.pureG rfl trivial rfl (fun _ => row15_spec y.b i hy.b) rfl ⟨veq_d rfl, rfl, trivial⟩ ?_
    refine x.cond rfl trivial (fun h2 => ?_) (fun h2 => ?_)
    · exact x.exit rfl trivial ⟨.inr rfl, rfl, trivial, rfl⟩
    · exact x.back rfl (by simp only [AllP, inI64]; omega) ⟨⟨i + 1, by omega⟩, by show 40 - (i + 1) < 40 - i; omega, ⟨⟨rfl, rfl⟩, (show VEq0 (vi ((i : Int) + 1)) (vi ((i + 1 : Nat) : Int)) by rw [Int.natCast_add]; rfl), trivial⟩, ⟨askQ_eq y, trivial⟩, rfl⟩
  have hsl := seenV_len y.p y.level y.kind y.evs
  have sS := seen_spec y.p hz y.level y.kind y.evs (by omega)
  have sS' := seen15_spec y.p hz y.level y.kind y.evs (by omega)
  have sA := alike_spec y.p hz y.level hlv y.a y.b hy.a hy.b
  have sA' := alike15_spec y.p hz y.level hlv y.a y.b hy.a hy.b
  have sM := mixed_spec y.p hz y.level hlv y.a y.b hy.a hy.b
  have sM' := mixed15_spec y.p hz y.level hlv y.a y.b hy.a hy.b
  have hMR := mixV_rows y.p y.level y.a y.b
  obtain ⟨S, hS⟩ : ∃ S, seenV y.p y.level y.kind y.evs = S := ⟨_, rfl⟩
  obtain ⟨L, hL⟩ : ∃ L, alikeB y.p y.level y.a y.b = L := ⟨_, rfl⟩
  obtain ⟨M, hM⟩ : ∃ M, mixedV y.p y.level y.a y.b = M := ⟨_, rfl⟩
  rw [hS] at sS sS' hsl
  rw [hL] at sA sA'
  rw [hM] at sM sM' hMR
  obtain ⟨M, e⟩ := M
  have hMR : RowsOK M := hMR
  have ev := events_spec S (by omega)
  refine x.every2 [] [0, 1, 3, 4, 5, 6, 8, 9] (.fork 2 (.fork 7 (.fork 10 (.fork 11 (.fork 12 .leaf .no) .no) .no) .no) (.fork 7 (.fork 2 (.fork 10 (.fork 11 (.fork 12 .leaf .no) .no) .no) .no) .no))
    ⟨[(1, .ptr 0 0), (4, vEvs S)], [], 1⟩ rfl trivial mixedP (by kernel_rfl) Ret.noPanic rfl trivial (fun C2 x2 => ?_) ?_
  · repeat' first
      | exact True.intro
      | refine And.intro ?_ ?_
      | refine x2.pure rfl trivial rfl (copy6_spec y.p hz.toPolSz) ⟨⟨veq0_d rfl, veq0_d rfl, veq0_d rfl, veq0_d rfl, rfl, trivial⟩, trivial⟩ (x2.back rfl trivial ?_)
      | refine Sx.Go.freeze 1 (x2.pure rfl trivial rfl sS ⟨⟨veq0_d rfl, veq0_d rfl, veq0_d rfl, veq0_d rfl, rfl, trivial⟩, rfl, rfl, (show VEq0 (.d (.sl 5 (0 + y.evs.length) (app 0 (tab (List.replicate 0 (evD ev0))) fun i => evD (y.evs.getD i ev0)))) (vEvs y.evs) from ⟨Nat.zero_add _, fun _ => rfl, fun i _ => app0_ev _ i⟩), trivial⟩ (x2.back rfl trivial ?_))
      | refine x2.back rfl trivial ?_
      | refine x2.back rfl (by simp only [AllP, big]; omega) ?_
      | exact Or.inl ⟨⟨⟨rfl, rfl⟩, veq_d rfl, trivial⟩, trivial, rfl⟩
  refine x.every2 [] [0, 1, 3, 4, 5, 6, 8, 9] (.fork 2 (.fork 7 (.fork 10 (.fork 11 (.fork 12 .leaf .no) .no) .no) .no) .no)
    ⟨[(1, .ptr 0 0), (4, vEvs S), (5, vb L)], [], 1⟩ rfl trivial mixedP (by kernel_rfl) Ret.noPanic rfl trivial (fun C2 x2 => ?_) ?_
  · repeat' first
      | exact True.intro
      | refine And.intro ?_ ?_
      | refine x2.pure rfl trivial rfl (copy6_spec y.p hz.toPolSz) ⟨⟨veq0_d rfl, veq0_d rfl, veq0_d rfl, veq0_d rfl, rfl, trivial⟩, trivial⟩ (x2.back rfl trivial ?_)
      | refine x2.pure rfl trivial rfl (rcopy15_spec y.a hy.a) ⟨veq_d rfl, trivial⟩ (x2.back rfl trivial ?_)
      | refine x2.pure rfl trivial rfl (rcopy15_spec y.b hy.b) ⟨veq_d rfl, trivial⟩ (x2.back rfl trivial ?_)
      | refine x2.pure rfl trivial rfl sA ⟨⟨veq0_d rfl, veq0_d rfl, veq0_d rfl, veq0_d rfl, rfl, trivial⟩, rfl, veq_d rfl, veq_d rfl, trivial⟩ (x2.back rfl trivial ?_)
      | refine x2.back rfl trivial ?_
      | exact Or.inl ⟨⟨⟨rfl, rfl⟩, veq_d rfl, rfl, trivial⟩, trivial, rfl⟩
  refine x.every2 [] [0, 1, 3, 4, 5, 6, 8, 9] (.fork 2 (.fork 7 (.fork 10 (.fork 11 (.fork 12 (.fork 13 (.fork 14 (.fork 15 (.fork 16 .leaf .no) .no) (.fork 15 (.fork 14 (.fork 16 .leaf .no) .no) .no)) (.fork 14 (.fork 13 (.fork 15 (.fork 16 .leaf .no) .no) .no) .no)) .no) .no) .no) .no) .no)
    ⟨[(1, .ptr 0 0), (4, vEvs S), (5, vb L), (6, vRows M), (7, vi e)], [], 1⟩ rfl trivial mixedP (by kernel_rfl) Ret.noPanic rfl trivial (fun C2 x2 => ?_) ?_
  · repeat' first
      | exact True.intro
      | refine And.intro ?_ ?_
      | refine x2.pure rfl trivial rfl (copy6_spec y.p hz.toPolSz) ⟨⟨veq0_d rfl, veq0_d rfl, veq0_d rfl, veq0_d rfl, rfl, trivial⟩, trivial⟩ (x2.back rfl trivial ?_)
      | refine x2.pure rfl trivial rfl (rcopy15_spec y.a hy.a) ⟨veq_d rfl, trivial⟩ (x2.back rfl trivial ?_)
      | refine x2.pure rfl trivial rfl (rcopy15_spec y.b hy.b) ⟨veq_d rfl, trivial⟩ (x2.back rfl trivial ?_)
      | refine x2.pure rfl trivial rfl sM ⟨⟨veq0_d rfl, veq0_d rfl, veq0_d rfl, veq0_d rfl, rfl, trivial⟩, rfl, veq_d rfl, veq_d rfl, trivial⟩ (x2.back rfl trivial ?_)
      | refine x2.back rfl trivial ?_
      | exact Or.inl ⟨⟨⟨rfl, rfl⟩, veq_d rfl, rfl, veq_d rfl, rfl, trivial⟩, trivial, rfl⟩
  refine x.pure rfl trivial rfl sM' ⟨⟨veq0_d rfl, veq0_d rfl, veq0_d rfl, veq0_d rfl, rfl, trivial⟩, rfl, veq_d rfl, veq_d rfl, trivial⟩ ?_
  refine x.pure rfl trivial rfl sS' ⟨⟨veq0_d rfl, veq0_d rfl, veq0_d rfl, veq0_d rfl, rfl, trivial⟩, rfl, rfl, veq_d rfl, trivial⟩ ?_
  refine x.pure rfl trivial rfl ev ⟨veq_d rfl, veq_d rfl, trivial⟩ ?_
  refine x.pureG rfl trivial rfl (fun _ => sA') rfl ⟨⟨veq0_d rfl, veq0_d rfl, veq0_d rfl, veq0_d rfl, rfl, trivial⟩, rfl, veq_d rfl, veq_d rfl, trivial⟩ ?_
  refine x.pureG rfl trivial rfl (fun _ => samerows_spec M M hMR hMR) rfl ⟨veq_d rfl, veq_d rfl, trivial⟩ ?_
  refine x.pureG rfl trivial rfl (fun _ => awake15_spec) rfl trivial ?_
  refine x.exit rfl trivial ⟨.inr rfl, ?_, trivial, rfl⟩
  show VEq0 (vb _) (vb true)
  simp
  exact rfl
end Go.Proofs.YtgnnglfbpcjadaaGreatDoor
