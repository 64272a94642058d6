/- Texts put together: T15B, T15C, T15D, T15H, T06I, T06J, T01C, T01O, T01Q, T06T, T27R, T15G, T15N, T15I. -/
import Derived.Test.YtgnnglfbpcjadaaGreatDoorMC
import Derived.Test.YtgnnglfbpcjadaaGreatDoorMA

/- Boxes: the program's own: what a box has left, takes, and is told. -/
namespace Go.Proofs.YtgnnglfbpcjadaaGreatDoor
open Go.Sx
set_option linter.unusedVariables false
set_option linter.unusedSimpArgs false
set_option maxRecDepth 100000

abbrev vecN (l : List Int) : Ch := .vec 3 1 l.length fun i => [.int .i64 (l.getD i 0)]
abbrev vecE (l : List Ev) : Ch := .vec 44 5 l.length fun i => evD (l.getD i ev0)
/-- A box. -/
structure Bx where
  p : Pol
  rows : Rows
  taken : List Int
  trace : List Ev
abbrev boxC (b : Bx) : Ch := .box [vRows b.rows, .own 1, vSs b.p.lev, vU b.p.up, vChs b.p.ins, vChs b.p.outs, vi b.p.depth, .own 2]
abbrev bxH (b : Bx) : List Ch := [boxC b, vecN b.taken, vecE b.trace]
theorem boxSame {b : Bx} : ChEq (boxC b) ((boxC b).map (ren0 [0, 1, 2])) := ⟨veq0_d rfl, rfl, veq0_d rfl, veq0_d rfl, veq0_d rfl, veq0_d rfl, rfl, rfl, trivial⟩
theorem vecSame {e : TypeId} {sz n : Nat} {f : Nat → List D} {is : List Nat} : ChEq (.vec e sz n f) ((Ch.vec e sz n f).map (ren0 is)) := ⟨rfl, rfl, rfl, fun _ _ => rfl⟩
/-- What holds of a box. -/
structure BxOK (b : Bx) : Prop where
  rows : RowsOK b.rows
  small : ∀ r ∈ b.rows, r.length ≤ 4096
  len : b.taken.length = b.rows.length
  few : b.rows.length ≤ 32
  t0 : ∀ i, 0 ≤ b.taken.getD i 0 ∧ b.taken.getD i 0 ≤ ((b.rows.getD i []).length : Int)
  tr : b.trace.length ≤ 100000
theorem BxOK.row {b : Bx} (h : BxOK b) (i : Nat) : (b.rows.getD i []).length ≤ 4096 := by
  by_cases hi : i < b.rows.length
  · rw [List.getD_eq_getElem?_getD, List.getElem?_eq_getElem hi]; exact h.small _ (List.getElem_mem hi)
  · rw [List.getD_eq_getElem?_getD, List.getElem?_eq_none (by omega)]; exact Nat.zero_le _
def leftN (b : Bx) (k : Int) : Int := if k < 0 ∨ (b.rows.length : Int) ≤ k then 0 else ((b.rows.getD k.toNat []).length : Int) - b.taken.getD k.toNat 0
theorem left_spec (b : Bx) (hb : BxOK b) (k : Int) (hk : inI64 k) : Proc PG 34 3 [.ptr 0 0, vi k] (bxH b) (vi (leftN b k)) (bxH b) := by
  refine Proc.mk (cfgF 32 3) tysOK [0, 1, 2] Tryz.func34 rfl (by kernel_rfl) rfl rfl rfl ?_
  intro C x
  have hlen := hb.len
  have hfew := hb.few
  unfold inI64 at hk
  refine x.cond rfl trivial (fun h => ?_) (fun h => ?_)
  · have h : (decide (k < 0) || decide ((b.rows.length : Int) ≤ k)) = true := h
    simp only [Bool.or_eq_true, decide_eq_true_eq] at h
    refine x.exit rfl trivial ⟨.inr rfl, ?_, ⟨boxSame, vecSame, vecSame, trivial⟩, rfl⟩
    rw [leftN, if_pos h]; exact rfl
  have h : (decide (k < 0) || decide ((b.rows.length : Int) ≤ k)) = false := h
  simp only [Bool.or_eq_false_iff, decide_eq_false_iff_not] at h
  have h0 := hb.t0 k.toNat
  have h4 := hb.row k.toNat
  refine x.quiet rfl trivial mixedP (by kernel_rfl) ?_
  refine x.qdone rfl (by simp only [AllP, inI64]; omega) ?_
  refine x.exit rfl trivial ⟨.inr rfl, ?_, ⟨boxSame, vecSame, vecSame, trivial⟩, rfl⟩
  rw [leftN, if_neg (by omega)]; exact rfl
theorem bleft_spec (b : Bx) (hb : BxOK b) (k : Int) (hk : inI64 k) : Proc PG 12 3 [.ptr 0 0, vi k] (bxH b) (vi (leftN b k)) (bxH b) := by
  refine Proc.mk (cfgF 12 3) tysOK [0, 1, 2] Tryz.func12 rfl (by kernel_rfl) rfl rfl rfl ?_
  intro C x
  refine x.cond rfl trivial (fun h => ?_) (fun h => ?_)
  · cases (show false = true from h)
  refine x.call [0, 1, 2] rfl trivial rfl (left_spec b hb k hk) rfl ⟨⟨rfl, rfl⟩, rfl, trivial⟩ ⟨boxSame, vecSame, vecSame, trivial⟩ ?_
  exact x.exit rfl trivial ⟨.inr rfl, rfl, ⟨boxSame, vecSame, vecSame, trivial⟩, rfl⟩
theorem bleft_nil (k : Int) : Pure PG 12 [.d .np, vi k] (vi 0) [] := by
  refine Proc.mk (cfg 12) tysOK [] Tryz.func12 rfl (by kernel_rfl) rfl rfl rfl ?_
  intro C x
  refine x.cond rfl trivial (fun h => ?_) (fun h => ?_)
  · exact x.exit rfl trivial ⟨.inr rfl, rfl, trivial, rfl⟩
  · cases (show true = false from h)
/-- What is taken: the number, an error's number, how many are taken then. -/
def takeN (b : Bx) (k : Int) : Int × Int × List Int := if k < 0 ∨ (b.rows.length : Int) ≤ k then (0, 1, b.taken) else if leftN b k = 0 then (0, 23, b.taken) else ((b.rows.getD k.toNat []).getD (b.taken.getD k.toNat 0).toNat 0, 0, b.taken.set k.toNat (b.taken.getD k.toNat 0 + 1))
theorem set_get {l : List Int} {k : Nat} (hk : k < l.length) (x : Int) (i : Nat) : (l.set k x).getD i 0 = if i = k then x else l.getD i 0 := by
  rw [List.getD_eq_getElem?_getD, List.getD_eq_getElem?_getD, List.getElem?_set]
  by_cases h : k = i
  · subst h; simp [hk]
  · simp [h, show ¬ i = k from fun e => h e.symm]
theorem take_spec (b : Bx) (hb : BxOK b) (k : Int) (hk : inI64 k) : Proc PG 10 3 [.ptr 0 0, vi k] (bxH b) (.tup [vi (takeN b k).1, vi (takeN b k).2.1]) (bxH { b with taken := (takeN b k).2.2 }) := by
  refine Proc.mk (cfgF 57 3) tysOK [0, 1, 2] Tryz.func10 rfl (by kernel_rfl) rfl rfl rfl ?_
  intro C x
  have hlen := hb.len
  have hfew := hb.few
  have hk0 := hk
  unfold inI64 at hk
  refine x.cond rfl trivial (fun h => ?_) (fun h => ?_)
  · have h : ((false || decide (k < 0)) || decide ((b.rows.length : Int) ≤ k)) = true := h
    simp only [Bool.false_or, Bool.or_eq_true, decide_eq_true_eq] at h
    refine x.exit rfl trivial ?_
    rw [takeN, if_pos h]
    exact ⟨.inr rfl, ⟨rfl, rfl, trivial⟩, ⟨boxSame, vecSame, vecSame, trivial⟩, rfl⟩
  have h : ((false || decide (k < 0)) || decide ((b.rows.length : Int) ≤ k)) = false := h
  simp only [Bool.false_or, Bool.or_eq_false_iff, decide_eq_false_iff_not] at h
  refine x.call [0, 1, 2] rfl trivial rfl (left_spec b hb k hk0) rfl ⟨⟨rfl, rfl⟩, rfl, trivial⟩ ⟨boxSame, vecSame, vecSame, trivial⟩ ?_
  refine x.cond rfl trivial (fun h2 => ?_) (fun h2 => ?_)
  · have h2 : leftN b k = 0 := of_decide_eq_true h2
    refine x.exit rfl trivial ?_
    rw [takeN, if_neg (by omega), if_pos h2]
    exact ⟨.inr rfl, ⟨rfl, rfl, trivial⟩, ⟨boxSame, vecSame, vecSame, trivial⟩, rfl⟩
  have h2 : ¬ leftN b k = 0 := of_decide_eq_false h2
  have h0 := hb.t0 k.toNat
  have h4 := hb.row k.toNat
  have hlt : b.taken.getD k.toNat 0 < ((b.rows.getD k.toNat []).length : Int) := by
    rw [leftN, if_neg (by omega)] at h2; omega
  rw [takeN, if_neg (by omega), if_neg h2]
  refine x.quiet rfl ?_ mixedP (by kernel_rfl) ?_
  · simp only [AllP, inI64, List.length_cons, List.length_nil]; omega
  refine x.qdone rfl ?_ ?_
  · simp only [AllP, inI64, ↓reduceIte]; omega
  refine x.exit rfl trivial ⟨.inr rfl, ⟨?_, rfl, trivial⟩, ⟨boxSame, ⟨rfl, rfl, (List.length_set ..).symm, fun i hi => ?_⟩, vecSame, trivial⟩, rfl⟩
  · show VEq0 (vi ((b.rows.getD k.toNat []).getD ((if k.toNat = k.toNat then b.taken.getD k.toNat 0 + 1 else b.taken.getD k.toNat 0) - 1).toNat 0)) (vi ((b.rows.getD k.toNat []).getD (b.taken.getD k.toNat 0).toNat 0))
    rw [if_pos rfl, show b.taken.getD k.toNat 0 + 1 - 1 = b.taken.getD k.toNat 0 by omega]; exact rfl
  · rw [put2_int]
    show [D.int .i64 (if i = k.toNat then _ else _)] = [D.int .i64 ((b.taken.set k.toNat (b.taken.getD k.toNat 0 + 1)).getD i 0)]
    rw [set_get (by omega)]
theorem take_nil (k : Int) : Pure PG 10 [.d .np, vi k] (.tup [vi 0, vi 1]) [] := by
  refine Proc.mk (cfg 57) tysOK [] Tryz.func10 rfl (by kernel_rfl) rfl rfl rfl ?_
  intro C x
  refine x.cond rfl (by simp [AllP]) (fun h => ?_) (fun h => ?_)
  · exact x.exit rfl trivial ⟨.inr rfl, ⟨rfl, rfl, trivial⟩, trivial, rfl⟩
  · cases (show true = false from h)
/-- May an event be? -/
def goodB (p : Pol) (e : Ev) : Bool := !((decide (e.fn < 0) || decide (e.at_ < 0)) || decide (e.ref < 0)) && ((decide (e.kind = 1) && decide (e.ref < (p.outs.length : Int))) || (decide (e.kind = 2) && decide (e.ref < (p.lev.length : Int))))
theorem good_spec (p : Pol) (e : Ev) : Pure PG 35 [vPol p, vEv e] (vb (goodB p e)) [] := by
  refine Proc.mk (cfg 42) tysOK [] Tryz.func35 rfl (by kernel_rfl) rfl rfl rfl ?_
  intro C x
  refine x.cond rfl trivial (fun h => ?_) (fun h => ?_)
  · have h : ((decide (e.fn < 0) || decide (e.at_ < 0)) || decide (e.ref < 0)) = true := h
    refine x.exit rfl trivial ⟨.inr rfl, ?_, trivial, rfl⟩
    rw [goodB, h]; exact rfl
  · have h : ((decide (e.fn < 0) || decide (e.at_ < 0)) || decide (e.ref < 0)) = false := h
    refine x.exit rfl trivial ⟨.inr rfl, ?_, trivial, rfl⟩
    rw [goodB, h]; exact rfl
/-- What is told: an error's number, the events then. -/
def putN (b : Bx) (e : Ev) : Int × List Ev := if goodB b.p e then (0, b.trace ++ [e]) else (1, b.trace)
theorem put_nil (e : Ev) : Pure PG 14 [.d .np, vEv e] (vi 1) [] := by
  refine Proc.mk (cfg 26) tysOK [] Tryz.func14 rfl (by kernel_rfl) rfl rfl rfl ?_
  intro C x
  refine x.quiet rfl trivial mixedP (by kernel_rfl) ?_
  refine x.qcallG rfl (by simp [AllP]) rfl (fun _ => good_spec pol0 e) rfl rfl ⟨⟨rfl, rfl, rfl, rfl, rfl, trivial⟩, ⟨rfl, rfl, rfl, rfl, rfl, trivial⟩, trivial⟩ ?_
  refine x.qdone rfl trivial ?_
  refine x.cond rfl trivial (fun h => ?_) (fun h => ?_)
  · exact x.exit rfl trivial ⟨.inr rfl, rfl, trivial, rfl⟩
  · cases (show true = false from h)
theorem trace_nil : Pure PG 17 [.d .np] (vEvs []) [] := by
  refine Proc.mk (cfg 11) tysOK [] Tryz.func17 rfl (by kernel_rfl) rfl rfl rfl ?_
  intro C x
  refine x.cond rfl trivial (fun h => ?_) (fun h => ?_)
  · exact x.exit rfl trivial ⟨.inr rfl, rfl, trivial, rfl⟩
  · cases (show true = false from h)
theorem trace_spec (b : Bx) (hb : BxOK b) : Proc PG 17 3 [.ptr 0 0] (bxH b) (vEvs b.trace) (bxH b) := by
  refine Proc.mk (cfgF 11 3) tysOK [0, 1, 2] Tryz.func17 rfl (by kernel_rfl) rfl rfl rfl ?_
  intro C x
  have htr := hb.tr
  refine x.cond rfl trivial (fun h => ?_) (fun h => ?_)
  · cases (show false = true from h)
  refine x.call [2] rfl trivial rfl (cloneOE_spec (n := b.trace.length) (f := fun i => evD (b.trace.getD i ev0)) (by omega)) rfl ⟨rfl, trivial⟩ ⟨vecSame, trivial⟩ ?_
  refine x.pure rfl trivial rfl (clipE_spec (n := b.trace.length) (f := fun i => evD (b.trace.getD i ev0)) (by omega)) ⟨veq_d rfl, trivial⟩ ?_
  exact x.exit rfl trivial ⟨.inr rfl, veq_d rfl, ⟨boxSame, vecSame, vecSame, trivial⟩, rfl⟩
theorem put_spec (b : Bx) (hb : BxOK b) (e : Ev) : Proc PG 14 1 [.ptr 0 0, vEv e] (bxH b) (vi (putN b e).1) (bxH { b with trace := (putN b e).2 }) := by
  refine Proc.mk (cfgF 26 1) tysOK [0, 1, 2] Tryz.func14 rfl (by kernel_rfl) rfl rfl rfl ?_
  intro C x
  have htr := hb.tr
  refine x.quiet rfl trivial mixedP (by kernel_rfl) ?_
  refine x.qcallG rfl trivial rfl (fun _ => good_spec b.p e) rfl rfl ⟨⟨veq0_d rfl, veq0_d rfl, veq0_d rfl, veq0_d rfl, rfl, trivial⟩, ⟨rfl, rfl, rfl, rfl, rfl, trivial⟩, trivial⟩ ?_
  refine x.qdone rfl trivial ?_
  refine x.cond rfl trivial (fun h => ?_) (fun h => ?_)
  · have h : (false || !goodB b.p e) = true := h
    have h : goodB b.p e = false := by simpa using h
    refine x.exit rfl trivial ?_
    rw [putN, h, if_neg (by simp)]
    exact ⟨.inr rfl, rfl, ⟨boxSame, vecSame, vecSame, trivial⟩, rfl⟩
  have h : (false || !goodB b.p e) = false := h
  have h : goodB b.p e = true := by simpa using h
  rw [putN, h, if_pos rfl]
  refine x.perm [0, 1, 3, 2] rfl ?_
  refine x.every3 3 [0, 3] [0, 1, 2, 3, 5] (.fork 4 (.fork 6 (.fork 7 (.fork 8 (.fork 9 (.fork 10 .leaf .no) .no) .no) .no) .no) (.fork 6 (.fork 4 (.fork 7 (.fork 8 (.fork 9 (.fork 10 .leaf .no) .no) .no) .no) .no) .no))
    ⟨[(0, .ptr 0 0)], [(0, .box [vRows b.rows, .own 1, vSs b.p.lev, vU b.p.up, vChs b.p.ins, vChs b.p.outs, vi b.p.depth, .own 3]), (3, vecE (b.trace ++ [e]))], 4⟩ rfl trivial mixedP rfl (by kernel_rfl) Ret.noPanic rfl trivial (fun C2 x2 => ?_) ?_
  · repeat' first
      | exact True.intro
      | refine And.intro ?_ ?_
      | refine x2.back rfl trivial ?_
      | refine x2.back rfl (by simp only [AllP, big]; omega) ?_
      | exact Or.inl ⟨⟨⟨rfl, rfl⟩, trivial⟩, ⟨⟨veq0_d rfl, rfl, veq0_d rfl, veq0_d rfl, veq0_d rfl, veq0_d rfl, rfl, rfl, trivial⟩, ⟨rfl, rfl, by simp, fun j hj => app_gen6 evD 5 (fun _ => rfl) ev0 b.trace e j hj⟩, trivial⟩, rfl⟩
  refine x.perm [0, 1, 3, 2] rfl ?_
  exact x.exit rfl trivial ⟨.inr rfl, rfl, ⟨boxSame, vecSame, vecSame, trivial⟩, rfl⟩
end Go.Proofs.YtgnnglfbpcjadaaGreatDoor

/- Boxes: the program's own: New; the chapter's examples. -/
namespace Go.Proofs.YtgnnglfbpcjadaaGreatDoor
open Go.Sx
set_option linter.unusedVariables false
set_option linter.unusedSimpArgs false
set_option maxRecDepth 100000

abbrev vecR (l : Rows) : Ch := .vec 29 1 l.length fun i => [dInts (l.getD i [])]
def rowsN (p : Pol) (l : Rows) : Rows := (List.range p.ins.length).map fun k => l.getD k []
def newB (p : Pol) (l : Rows) : Bx := ⟨p, rowsN p l, List.replicate p.ins.length 0, []⟩
theorem rep0 (n i : Nat) : (List.replicate n (0 : Int)).getD i 0 = 0 := by
  rw [List.getD_eq_getElem?_getD, List.getElem?_replicate]; split <;> rfl
theorem rowsN_take {p : Pol} {l : Rows} {i : Nat} (h : i < p.ins.length) : (rowsN p l).take (i + 1) = (rowsN p l).take i ++ [l.getD i []] := by
  have e : (rowsN p l)[i]? = some (l.getD i []) := by unfold rowsN; rw [List.getElem?_map, List.getElem?_range h]; rfl
  exact take_succ e
theorem rowsN_len (p : Pol) (l : Rows) : (rowsN p l).length = p.ins.length := by simp [rowsN]
theorem new_no (p : Pol) (hz : PolZ p) (l : Rows) (hl : RowsOK l) (h : inB p l = false) : Pure PG 5 [vPol p, vRows l] (.tup [.d .np, vi 1]) [] := by
  refine Proc.mk (cfg 59) tysOK [] Tryz.func5 rfl (by kernel_rfl) rfl rfl rfl ?_
  intro C x
  refine x.pure rfl trivial rfl (qright_spec p hz l hl) ⟨⟨veq0_d rfl, veq0_d rfl, veq0_d rfl, veq0_d rfl, rfl, trivial⟩, veq_d rfl, trivial⟩ ?_
  rw [h]
  refine x.cond rfl trivial (fun h => ?_) (fun h => ?_)
  · exact x.exit rfl trivial ⟨.inr rfl, ⟨veq0_d rfl, rfl, trivial⟩, trivial, rfl⟩
  · cases (show true = false from h)
theorem inB_facts {p : Pol} {l : Rows} (h : inB p l = true) : rightP p = true ∧ l.length ≤ p.ins.length ∧ ∀ r ∈ l, r.length ≤ 4096 := by
  unfold inB at h
  simp only [Bool.and_eq_true, decide_eq_true_eq, List.all_eq_true] at h
  exact ⟨h.1.1, h.1.2, h.2⟩
set_option maxHeartbeats 8000000 in
theorem new_spec (p : Pol) (hz : PolZ p) (l : Rows) (hl : RowsOK l) (h : inB p l = true) (hi32 : p.ins.length ≤ 32) : Pure PG 5 [vPol p, vRows l] (.tup [.ptr 0 0, vi 0]) (bxH (newB p l)) := by
  obtain ⟨s1, s2, s3, s4⟩ := hz.toPolSz
  refine Proc.mk (cfg 59) tysOK [2, 1, 3] Tryz.func5 rfl (by kernel_rfl) rfl rfl rfl ?_
  intro C x
  refine x.pure rfl trivial rfl (qright_spec p hz l hl) ⟨⟨veq0_d rfl, veq0_d rfl, veq0_d rfl, veq0_d rfl, rfl, trivial⟩, veq_d rfl, trivial⟩ ?_
  rw [h]
  refine x.cond rfl trivial (fun h => ?_) (fun _ => ?_)
  · cases (show false = true from h)
  refine x.every2 [0] [] (.fork 0 (.fork 1 (.fork 2 (.fork 3 (.fork 4 (.fork 5 (.fork 6 (.fork 7 (.fork 8 (.fork 9 .leaf .no) .no) .no) .no) (.fork 6 (.fork 5 (.fork 7 (.fork 8 (.fork 9 .leaf .no) .no) .no) .no) .no)) .no) .no) (.fork 3 (.fork 2 (.fork 4 (.fork 5 (.fork 6 (.fork 7 (.fork 8 (.fork 9 .leaf .no) .no) .no) .no) (.fork 6 (.fork 5 (.fork 7 (.fork 8 (.fork 9 .leaf .no) .no) .no) .no) .no)) .no) (.fork 4 (.fork 2 (.fork 5 (.fork 6 (.fork 7 (.fork 8 (.fork 9 .leaf .no) .no) .no) .no) (.fork 6 (.fork 5 (.fork 7 (.fork 8 (.fork 9 .leaf .no) .no) .no) .no) .no)) .no) .no)) .no)) (.fork 3 (.fork 1 (.fork 2 (.fork 4 (.fork 5 (.fork 6 (.fork 7 (.fork 8 (.fork 9 .leaf .no) .no) .no) .no) (.fork 6 (.fork 5 (.fork 7 (.fork 8 (.fork 9 .leaf .no) .no) .no) .no) .no)) .no) (.fork 4 (.fork 2 (.fork 5 (.fork 6 (.fork 7 (.fork 8 (.fork 9 .leaf .no) .no) .no) .no) (.fork 6 (.fork 5 (.fork 7 (.fork 8 (.fork 9 .leaf .no) .no) .no) .no) .no)) .no) .no)) (.fork 4 (.fork 1 (.fork 2 (.fork 5 (.fork 6 (.fork 7 (.fork 8 (.fork 9 .leaf .no) .no) .no) .no) (.fork 6 (.fork 5 (.fork 7 (.fork 8 (.fork 9 .leaf .no) .no) .no) .no) .no)) .no) .no) .no)) .no)) (.fork 3 (.fork 0 (.fork 1 (.fork 2 (.fork 4 (.fork 5 (.fork 6 (.fork 7 (.fork 8 (.fork 9 .leaf .no) .no) .no) .no) (.fork 6 (.fork 5 (.fork 7 (.fork 8 (.fork 9 .leaf .no) .no) .no) .no) .no)) .no) (.fork 4 (.fork 2 (.fork 5 (.fork 6 (.fork 7 (.fork 8 (.fork 9 .leaf .no) .no) .no) .no) (.fork 6 (.fork 5 (.fork 7 (.fork 8 (.fork 9 .leaf .no) .no) .no) .no) .no)) .no) .no)) (.fork 4 (.fork 1 (.fork 2 (.fork 5 (.fork 6 (.fork 7 (.fork 8 (.fork 9 .leaf .no) .no) .no) .no) (.fork 6 (.fork 5 (.fork 7 (.fork 8 (.fork 9 .leaf .no) .no) .no) .no) .no)) .no) .no) .no)) (.fork 4 (.fork 0 (.fork 1 (.fork 2 (.fork 5 (.fork 6 (.fork 7 (.fork 8 (.fork 9 .leaf .no) .no) .no) .no) (.fork 6 (.fork 5 (.fork 7 (.fork 8 (.fork 9 .leaf .no) .no) .no) .no) .no)) .no) .no) .no) .no)) .no))
    ⟨[(1, vRows l), (2, .ptr 0 0)], [(0, polB p)], 1⟩ rfl trivial mixedP (by kernel_rfl) Ret.noPanic rfl trivial (fun C2 x2 => ?_) ?_
  · repeat' first
      | exact True.intro
      | refine And.intro ?_ ?_
      | refine x2.pure rfl trivial rfl (cloneS_spec (n := p.lev.length) (f := fun i => [.str (p.lev.getD i .empty)]) s1) ⟨veq_d rfl, trivial⟩ (x2.back rfl trivial ?_)
      | refine x2.pure rfl trivial rfl (cloneU_spec (n := p.up.length) (f := fun i => [dm (upA p.up i)]) s2) ⟨veq_d rfl, trivial⟩ (x2.back rfl trivial ?_)
      | refine x2.back rfl trivial ?_
      | exact Or.inl ⟨⟨veq_d rfl, ⟨rfl, rfl⟩, trivial⟩, ⟨polB_eq p, trivial⟩, rfl⟩
  refine x.every2 [0] [] (.fork 0 (.fork 1 (.fork 2 (.fork 3 (.fork 4 (.fork 5 (.fork 6 (.fork 7 (.fork 8 (.fork 9 .leaf .no) .no) .no) .no) (.fork 6 (.fork 5 (.fork 7 (.fork 8 (.fork 9 .leaf .no) .no) .no) .no) .no)) .no) .no) (.fork 3 (.fork 2 (.fork 4 (.fork 5 (.fork 6 (.fork 7 (.fork 8 (.fork 9 .leaf .no) .no) .no) .no) (.fork 6 (.fork 5 (.fork 7 (.fork 8 (.fork 9 .leaf .no) .no) .no) .no) .no)) .no) (.fork 4 (.fork 2 (.fork 5 (.fork 6 (.fork 7 (.fork 8 (.fork 9 .leaf .no) .no) .no) .no) (.fork 6 (.fork 5 (.fork 7 (.fork 8 (.fork 9 .leaf .no) .no) .no) .no) .no)) .no) .no)) .no)) (.fork 3 (.fork 1 (.fork 2 (.fork 4 (.fork 5 (.fork 6 (.fork 7 (.fork 8 (.fork 9 .leaf .no) .no) .no) .no) (.fork 6 (.fork 5 (.fork 7 (.fork 8 (.fork 9 .leaf .no) .no) .no) .no) .no)) .no) (.fork 4 (.fork 2 (.fork 5 (.fork 6 (.fork 7 (.fork 8 (.fork 9 .leaf .no) .no) .no) .no) (.fork 6 (.fork 5 (.fork 7 (.fork 8 (.fork 9 .leaf .no) .no) .no) .no) .no)) .no) .no)) (.fork 4 (.fork 1 (.fork 2 (.fork 5 (.fork 6 (.fork 7 (.fork 8 (.fork 9 .leaf .no) .no) .no) .no) (.fork 6 (.fork 5 (.fork 7 (.fork 8 (.fork 9 .leaf .no) .no) .no) .no) .no)) .no) .no) .no)) .no)) (.fork 3 (.fork 0 (.fork 1 (.fork 2 (.fork 4 (.fork 5 (.fork 6 (.fork 7 (.fork 8 (.fork 9 .leaf .no) .no) .no) .no) (.fork 6 (.fork 5 (.fork 7 (.fork 8 (.fork 9 .leaf .no) .no) .no) .no) .no)) .no) (.fork 4 (.fork 2 (.fork 5 (.fork 6 (.fork 7 (.fork 8 (.fork 9 .leaf .no) .no) .no) .no) (.fork 6 (.fork 5 (.fork 7 (.fork 8 (.fork 9 .leaf .no) .no) .no) .no) .no)) .no) .no)) (.fork 4 (.fork 1 (.fork 2 (.fork 5 (.fork 6 (.fork 7 (.fork 8 (.fork 9 .leaf .no) .no) .no) .no) (.fork 6 (.fork 5 (.fork 7 (.fork 8 (.fork 9 .leaf .no) .no) .no) .no) .no)) .no) .no) .no)) (.fork 4 (.fork 0 (.fork 1 (.fork 2 (.fork 5 (.fork 6 (.fork 7 (.fork 8 (.fork 9 .leaf .no) .no) .no) .no) (.fork 6 (.fork 5 (.fork 7 (.fork 8 (.fork 9 .leaf .no) .no) .no) .no) .no)) .no) .no) .no) .no)) .no))
    ⟨[(1, vRows l), (2, .ptr 0 0)], [(0, polB p)], 1⟩ rfl trivial mixedP (by kernel_rfl) Ret.noPanic rfl trivial (fun C2 x2 => ?_) ?_
  · repeat' first
      | exact True.intro
      | refine And.intro ?_ ?_
      | refine x2.pure rfl trivial rfl (cloneC_spec (n := p.ins.length) (f := fun i => [.str (p.ins.getD i chan0).1, .int .i64 (p.ins.getD i chan0).2]) s3) ⟨veq_d rfl, trivial⟩ (x2.back rfl trivial ?_)
      | refine x2.pure rfl trivial rfl (cloneC_spec (n := p.outs.length) (f := fun i => [.str (p.outs.getD i chan0).1, .int .i64 (p.outs.getD i chan0).2]) s4) ⟨veq_d rfl, trivial⟩ (x2.back rfl trivial ?_)
      | refine x2.back rfl trivial ?_
      | exact Or.inl ⟨⟨veq_d rfl, ⟨rfl, rfl⟩, trivial⟩, ⟨polB_eq p, trivial⟩, rfl⟩
  refine x.every2 [] [0, 1, 2, 5] (.fork 3 (.fork 4 (.fork 6 (.fork 7 (.fork 8 .leaf .no) .no) .no) .no) .no)
    ⟨[(1, vRows l), (2, .ptr 0 0), (6, .ptr 2 0)], [(1, vecN (List.replicate p.ins.length 0)), (2, .box [.nils, .own 1, vSs p.lev, vU p.up, vChs p.ins, vChs p.outs, vi p.depth, .nils])], 3⟩ rfl trivial mixedP (by kernel_rfl) Ret.noPanic rfl trivial (fun C2 x2 => ?_) ?_
  · repeat' first
      | exact True.intro
      | refine And.intro ?_ ?_
      | refine x2.back rfl trivial ?_
      | refine x2.back rfl (by simp only [AllP, big, Int.toNat_natCast]; omega) ?_
      | exact Or.inl ⟨⟨veq_d rfl, ⟨rfl, rfl⟩, ⟨rfl, rfl⟩, trivial⟩, ⟨⟨rfl, rfl, by simp, fun i hi => congrArg (fun z : Int => [D.int .i64 z]) (rep0 _ _).symm⟩, ⟨(by first | exact trivial | exact rfl), rfl, veq0_d rfl, veq0_d rfl, veq0_d rfl, veq0_d rfl, rfl, (by first | exact trivial | exact rfl), trivial⟩, trivial⟩, rfl⟩
  refine x.toLoop rfl trivial ?_
  refine Go.ownB 2 7 44 5 (fun i => evD (([] : List Ev).getD i ev0)) rfl rfl ?_
  refine Go.ownB 2 0 29 1 (fun i => [dInts (([] : Rows).getD i [])]) rfl rfl ?_
  refine x.loop (α := { i : Nat // i ≤ p.ins.length }) (fun y => ⟨[(1, vRows l), (2, .ptr 0 0), (6, .ptr 2 0), (38, vi (p.ins.length : Int)), (39, vi (y.1 : Int))], [(0, polB p), (1, vecN (List.replicate p.ins.length 0)), (2, .box [.own 4, .own 1, vSs p.lev, vU p.up, vChs p.ins, vChs p.outs, vi p.depth, .own 3]), (3, vecE []), (4, vecR ((rowsN p l).take y.1))], 5⟩) (fun y => p.ins.length - y.1) ⟨0, Nat.zero_le _⟩ rfl trivial ?_ (fun y => ?_)
  · exact ⟨⟨veq_d rfl, ⟨rfl, rfl⟩, ⟨rfl, rfl⟩, rfl, rfl, trivial⟩, ⟨polB_eq p, ⟨rfl, rfl, rfl, fun _ _ => rfl⟩, ⟨rfl, rfl, veq0_d rfl, veq0_d rfl, veq0_d rfl, veq0_d rfl, rfl, rfl, trivial⟩, ⟨rfl, rfl, rfl, fun _ h => absurd h (Nat.not_lt_zero _)⟩, ⟨rfl, rfl, rfl, fun _ h => absurd h (Nat.not_lt_zero _)⟩, trivial⟩, rfl⟩
  obtain ⟨i, hi⟩ := y
  change Go C _ ⟨[(1, vRows l), (2, .ptr 0 0), (6, .ptr 2 0), (38, vi (p.ins.length : Int)), (39, vi (i : Int))], [(0, polB p), (1, vecN (List.replicate p.ins.length 0)), (2, .box [.own 4, .own 1, vSs p.lev, vU p.up, vChs p.ins, vChs p.outs, vi p.depth, .own 3]), (3, vecE []), (4, vecR ((rowsN p l).take i))], 5⟩ _
  refine x.cond rfl trivial (fun h1 => ?_) (fun h1 => ?_)
  · have h1 : i < p.ins.length := by have := of_decide_eq_true h1; omega
    have hrow : (l.getD i []).length * 8 ≤ 140737488355328 := by
      by_cases hil : i < l.length
      · rw [List.getD_eq_getElem?_getD, List.getElem?_eq_getElem hil]; exact hl.row _ (List.getElem_mem hil)
      · rw [List.getD_eq_getElem?_getD, List.getElem?_eq_none (by omega)]; exact Nat.zero_le _
    have htl : ((rowsN p l).take i).length = i := by rw [List.length_take, rowsN_len]; omega
    refine x.every3 4 [2, 4] [0, 1, 2, 3, 4, 6, 7] (.fork 5 (.fork 8 (.fork 9 (.fork 10 (.fork 11 (.fork 12 (.fork 13 (.fork 14 (.fork 15 .leaf .no) .no) .no) .no) .no) .no) .no) .no) (.fork 8 (.fork 5 (.fork 9 (.fork 10 (.fork 11 (.fork 12 (.fork 13 (.fork 14 (.fork 15 .leaf .no) .no) .no) .no) .no) .no) .no) (.fork 9 (.fork 5 (.fork 10 (.fork 11 (.fork 12 (.fork 13 (.fork 14 (.fork 15 .leaf .no) .no) .no) .no) .no) .no) (.fork 10 (.fork 5 (.fork 11 (.fork 12 (.fork 13 (.fork 14 (.fork 15 .leaf .no) .no) .no) .no) .no) .no) .no)) .no)) .no))
      ⟨[(1, vRows l), (2, .ptr 0 0), (6, .ptr 2 0), (38, vi (p.ins.length : Int)), (39, vi (i : Int))], [(2, .box [.own 4, .own 1, vSs p.lev, vU p.up, vChs p.ins, vChs p.outs, vi p.depth, .own 3]), (4, vecR ((rowsN p l).take (i + 1)))], 5⟩ rfl trivial mixedP rfl (by kernel_rfl) Ret.noPanic rfl trivial (fun C2 x2 => ?_) ?_
    · repeat' first
        | exact True.intro
        | refine And.intro ?_ ?_
        | refine x2.pure rfl trivial rfl (qrow_spec l i hl) ⟨veq_d rfl, rfl, trivial⟩ (x2.back rfl trivial ?_)
        | refine x2.pure rfl trivial rfl (cloneI_spec (n := (l.getD i []).length) (f := fun j => [.int .i64 ((l.getD i []).getD j 0)]) hrow) ⟨veq_d rfl, trivial⟩ (x2.back rfl trivial ?_)
        | refine x2.back rfl trivial ?_
        | refine x2.back rfl (by simp only [AllP, big, htl]; omega) ?_
        | exact Or.inl ⟨⟨veq_d rfl, ⟨rfl, rfl⟩, ⟨rfl, rfl⟩, rfl, rfl, trivial⟩, ⟨⟨rfl, rfl, veq0_d rfl, veq0_d rfl, veq0_d rfl, veq0_d rfl, rfl, rfl, trivial⟩, ⟨rfl, rfl, by rw [rowsN_take h1]; simp, fun j hj => by rw [rowsN_take h1]; exact app_gen6 (fun r : List Int => [dInts r]) 1 (fun _ => rfl) [] ((rowsN p l).take i) (l.getD i []) j hj⟩, trivial⟩, rfl⟩
    refine x.back rfl (by simp only [AllP, inI64]; omega) ⟨⟨i + 1, by omega⟩, by show p.ins.length - (i + 1) < p.ins.length - i; omega, ⟨veq_d rfl, ⟨rfl, rfl⟩, ⟨rfl, rfl⟩, rfl, (show VEq0 (vi ((i : Int) + 1)) (vi ((i + 1 : Nat) : Int)) by rw [Int.natCast_add]; rfl), trivial⟩, ⟨polB_eq p, ⟨rfl, rfl, rfl, fun _ _ => rfl⟩, ⟨rfl, rfl, veq0_d rfl, veq0_d rfl, veq0_d rfl, veq0_d rfl, rfl, rfl, trivial⟩, ⟨rfl, rfl, rfl, fun _ _ => rfl⟩, ⟨rfl, rfl, rfl, fun _ _ => rfl⟩, trivial⟩, rfl⟩
  have h1 : i = p.ins.length := by have := of_decide_eq_false h1; omega
  subst h1
  rw [show (rowsN p l).take p.ins.length = rowsN p l from List.take_of_length_le (by rw [rowsN_len]; exact Nat.le_refl _)]
  refine Sx.Go.freeze 4 ?_
  exact x.exit rfl trivial ⟨.inr rfl, ⟨⟨rfl, rfl⟩, rfl, trivial⟩, ⟨⟨veq0_d rfl, rfl, veq0_d rfl, veq0_d rfl, veq0_d rfl, veq0_d rfl, rfl, rfl, trivial⟩, ⟨rfl, rfl, rfl, fun _ _ => rfl⟩, ⟨rfl, rfl, rfl, fun _ _ => rfl⟩, trivial⟩, rfl⟩
end Go.Proofs.YtgnnglfbpcjadaaGreatDoor

/- Boxes: the program's own: inputs alike, mixed. -/
namespace Go.Proofs.YtgnnglfbpcjadaaGreatDoor
open Go.Sx
set_option linter.unusedVariables false
set_option linter.unusedSimpArgs false
set_option maxRecDepth 100000

/-- Does a level see an input? -/
def seesI (p : Pol) (lv : Nat) (k : Nat) : Bool := bit (upA p.up (p.ins.getD k chan0).2.toNat) lv
def askB (p : Pol) (lv : Int) (a b : Rows) : Bool := ((inB p a && inB p b) && decide (0 ≤ lv)) && decide (lv < (p.lev.length : Int))
def alikeQ (p : Pol) (lv : Nat) (a b : Rows) (k : Nat) : Bool := !seesI p lv k || decide (a.getD k [] = b.getD k [])
def alikeB (p : Pol) (lv : Int) (a b : Rows) : Bool := askB p lv a b && allF (alikeQ p lv.toNat a b) p.ins.length 0
def mixK (p : Pol) (lv : Nat) (a b : Rows) (k : Nat) : List Int := if seesI p lv k then a.getD k [] else b.getD k []
def mixL (p : Pol) (lv : Nat) (a b : Rows) : Rows := (List.range p.ins.length).map (mixK p lv a b)
def mixedV (p : Pol) (lv : Int) (a b : Rows) : Rows × Int := if askB p lv a b then (mixL p lv.toNat a b, 0) else ([], 1)
theorem not4 {a b c d : Bool} (h : (((!a || !b) || c) || d) = true) : (((a && b) && !c) && !d) = false := by
  cases a <;> cases b <;> cases c <;> cases d <;> simp_all
theorem not4' {a b c d : Bool} (h : (((!a || !b) || c) || d) = false) : (((a && b) && !c) && !d) = true := by
  cases a <;> cases b <;> cases c <;> cases d <;> simp_all
theorem ask_eq (p : Pol) (lv : Int) (a b : Rows) : askB p lv a b = (((inB p a && inB p b) && !decide (lv < 0)) && !decide ((p.lev.length : Int) ≤ lv)) := by
  unfold askB
  rw [← decide_not, ← decide_not, show decide (¬ lv < 0) = decide (0 ≤ lv) by rw [decide_eq_decide]; omega, show decide (¬ (p.lev.length : Int) ≤ lv) = decide (lv < (p.lev.length : Int)) by rw [decide_eq_decide]; omega]
structure RgtP (p : Pol) : Prop where
  up : rightM p.up = true
  len : p.up.length = p.lev.length
  il : p.ins.length ≤ 32
  iok : ∀ c ∈ p.ins, 0 ≤ c.2 ∧ c.2 < (p.lev.length : Int)
theorem rgt_p {p : Pol} (h : rightP p = true) : RgtP p := by
  unfold rightP headB at h
  simp only [Bool.and_eq_true, decide_eq_true_eq] at h
  obtain ⟨⟨⟨⟨⟨h1, h2⟩, h3⟩, h4⟩, h5⟩, h6, h7⟩ := h
  unfold chansB at h6
  rw [Bool.and_eq_true, decide_eq_true_eq, allF_iff] at h6
  refine ⟨h2, h1.symm, h6.1, fun c hc => ?_⟩
  obtain ⟨i, hi, rfl⟩ := List.getElem_of_mem hc
  have := h6.2 i (Nat.zero_le _) (by omega)
  unfold chnB at this
  simp only [Bool.and_eq_true, decide_eq_true_eq] at this
  rw [List.getD_eq_getElem?_getD, List.getElem?_eq_getElem hi] at this
  exact ⟨this.1.2, this.2⟩
structure AskR (p : Pol) (lv : Int) (a b : Rows) : Prop where
  r : RgtP p
  a1 : a.length ≤ p.ins.length
  a2 : ∀ r ∈ a, r.length ≤ 4096
  b1 : b.length ≤ p.ins.length
  b2 : ∀ r ∈ b, r.length ≤ 4096
  l1 : 0 ≤ lv
  l2 : lv < (p.lev.length : Int)
theorem ask_r {p : Pol} {lv : Int} {a b : Rows} (h : askB p lv a b = true) : AskR p lv a b := by
  unfold askB at h
  simp only [Bool.and_eq_true, decide_eq_true_eq] at h
  obtain ⟨⟨⟨h1, h2⟩, h3⟩, h4⟩ := h
  obtain ⟨q1, q2, q3⟩ := inB_facts h1
  obtain ⟨_, r2, r3⟩ := inB_facts h2
  exact ⟨rgt_p q1, q2, q3, r2, r3, h3, h4⟩
theorem leq_sees {p : Pol} (h : RgtP p) {lv : Int} (l1 : 0 ≤ lv) (l2 : lv < (p.lev.length : Int)) {k : Nat} (hk : k < p.ins.length) : leqB p.up (p.ins.getD k chan0).2 lv = seesI p lv.toNat k := by
  have hm : p.ins.getD k chan0 ∈ p.ins := by rw [List.getD_eq_getElem?_getD, List.getElem?_eq_getElem hk]; exact List.getElem_mem hk
  obtain ⟨c2, c3⟩ := h.iok _ hm
  have hl := h.len
  obtain ⟨n, rfl⟩ : ∃ n : Nat, lv = n := ⟨lv.toNat, by omega⟩
  exact leq_bit h.up c2 (by omega) (by omega)
theorem row_small {l : Rows} (h : ∀ r ∈ l, r.length ≤ 4096) (k : Nat) : (l.getD k []).length ≤ 4096 := by
  by_cases hi : k < l.length
  · rw [List.getD_eq_getElem?_getD, List.getElem?_eq_getElem hi]; exact h _ (List.getElem_mem hi)
  · rw [List.getD_eq_getElem?_getD, List.getElem?_eq_none (by omega)]; exact Nat.zero_le _
set_option maxHeartbeats 4000000 in
theorem alike_spec (p : Pol) (hz : PolZ p) (lv : Int) (hlv : inI64 lv) (a b : Rows) (ha : RowsOK a) (hb : RowsOK b) : Pure PG 20 [vPol p, vi lv, vRows a, vRows b] (vb (alikeB p lv a b)) [] := by
  obtain ⟨i1, i2, i3, i4⟩ := polSz_i64 hz.toPolSz
  refine Proc.mk (cfg 57) tysOK [] Tryz.func20 rfl (by kernel_rfl) rfl rfl rfl ?_
  intro C x
  refine x.pure rfl trivial rfl (qright_spec p hz a ha) ⟨⟨veq0_d rfl, veq0_d rfl, veq0_d rfl, veq0_d rfl, rfl, trivial⟩, veq_d rfl, trivial⟩ ?_
  refine x.pureG rfl trivial rfl (fun _ => qright_spec p hz b hb) rfl ⟨⟨veq0_d rfl, veq0_d rfl, veq0_d rfl, veq0_d rfl, rfl, trivial⟩, veq_d rfl, trivial⟩ ?_
  refine x.cond rfl trivial (fun h => ?_) (fun h => ?_)
  · have h : (((!inB p a || !inB p b) || decide (lv < 0)) || decide ((p.lev.length : Int) ≤ lv)) = true := h
    refine x.exit rfl trivial ⟨.inr rfl, ?_, trivial, rfl⟩
    rw [alikeB, ask_eq, not4 h]; exact rfl
  have h : (((!inB p a || !inB p b) || decide (lv < 0)) || decide ((p.lev.length : Int) ≤ lv)) = false := h
  have hq : askB p lv a b = true := by rw [ask_eq, not4' h]
  have hA := ask_r hq
  have hil := hA.r.il
  refine x.loop (α := { i : Nat // i ≤ p.ins.length ∧ allF (alikeQ p lv.toNat a b) (p.ins.length - i) i = allF (alikeQ p lv.toNat a b) p.ins.length 0 }) (fun y => ⟨[(1, vi lv), (2, vRows a), (3, vRows b), (4, .ptr 0 0), (33, vChs p.ins), (34, vi (p.ins.length : Int)), (35, vi (y.1 : Int))], [(0, polB p)], 1⟩) (fun y => p.ins.length - y.1) ⟨0, by omega, rfl⟩ rfl trivial ⟨⟨rfl, veq_d rfl, veq_d rfl, ⟨rfl, rfl⟩, veq_d rfl, rfl, rfl, trivial⟩, ⟨polB_eq p, trivial⟩, rfl⟩ (fun y => ?_)
  obtain ⟨i, hi, hs⟩ := y
  change Go C _ ⟨[(1, vi lv), (2, vRows a), (3, vRows b), (4, .ptr 0 0), (33, vChs p.ins), (34, vi (p.ins.length : Int)), (35, vi (i : Int))], [(0, polB p)], 1⟩ _
  refine x.cond rfl trivial (fun h1 => ?_) (fun h1 => ?_)
  · have h1 : i < p.ins.length := by have := of_decide_eq_true h1; omega
    rw [allF_step h1] at hs
    have r1 := row_small hA.a2 i
    refine x.pure rfl (by simp only [AllP]; omega) rfl (leq_spec p.up (p.ins.getD i chan0).2 lv i2) ⟨veq_d rfl, rfl, rfl, trivial⟩ ?_
    rw [leq_sees hA.r hA.l1 hA.l2 h1]
    refine x.pureG rfl trivial rfl (fun _ => qrow_spec a i ha) rfl ⟨veq_d rfl, rfl, trivial⟩ ?_
    refine x.pureG rfl trivial rfl (fun _ => qrow_spec b i hb) rfl ⟨veq_d rfl, rfl, trivial⟩ ?_
    refine x.pureG rfl trivial rfl (fun _ => equal_spec (a.getD i []) (b.getD i []) (by omega)) rfl ⟨veq_d rfl, veq_d rfl, trivial⟩ ?_
    refine x.cond rfl trivial (fun h2 => ?_) (fun h2 => ?_)
    · have h2 : (seesI p lv.toNat i && !decide (a.getD i [] = b.getD i [])) = true := h2
      have e : alikeQ p lv.toNat a b i = false := by
        unfold alikeQ
        cases hx : seesI p lv.toNat i <;> rw [hx] at h2 <;> simp_all
      refine x.exit rfl trivial ⟨.inr rfl, ?_, trivial, rfl⟩
      rw [e, Bool.false_and] at hs
      rw [alikeB, ← hs, Bool.and_false]; exact rfl
    · have h2 : (seesI p lv.toNat i && !decide (a.getD i [] = b.getD i [])) = false := h2
      have e : alikeQ p lv.toNat a b i = true := by
        unfold alikeQ
        cases hx : seesI p lv.toNat i <;> rw [hx] at h2 <;> simp_all
      rw [e, Bool.true_and] at hs
      refine x.back rfl (by simp only [AllP, inI64]; omega) ⟨⟨i + 1, by omega, hs⟩, by show p.ins.length - (i + 1) < p.ins.length - i; omega, ⟨rfl, veq_d rfl, veq_d rfl, ⟨rfl, rfl⟩, veq_d rfl, rfl, (show VEq0 (vi ((i : Int) + 1)) (vi ((i + 1 : Nat) : Int)) by rw [Int.natCast_add]; rfl), trivial⟩, ⟨polB_eq p, trivial⟩, rfl⟩
  · have h1 : i = p.ins.length := by have := of_decide_eq_false h1; omega
    refine x.exit rfl trivial ⟨.inr rfl, ?_, trivial, rfl⟩
    rw [h1, Nat.sub_self] at hs
    rw [alikeB, ← hs, hq]; exact rfl
theorem mix_small {p : Pol} {lv : Int} {a b : Rows} (h : AskR p lv a b) (k : Nat) : (mixK p lv.toNat a b k).length ≤ 4096 := by
  unfold mixK
  split
  · exact row_small h.a2 k
  · exact row_small h.b2 k
theorem mix_take {p : Pol} {lv : Nat} {a b : Rows} {i : Nat} (h : i < p.ins.length) : (mixL p lv a b).take (i + 1) = (mixL p lv a b).take i ++ [mixK p lv a b i] := by
  have e : (mixL p lv a b)[i]? = some (mixK p lv a b i) := by unfold mixL; rw [List.getElem?_map, List.getElem?_range h]; rfl
  exact take_succ e
theorem mix_len (p : Pol) (lv : Nat) (a b : Rows) : (mixL p lv a b).length = p.ins.length := by simp [mixL]
set_option maxHeartbeats 4000000 in
theorem mixed_spec (p : Pol) (hz : PolZ p) (lv : Int) (hlv : inI64 lv) (a b : Rows) (ha : RowsOK a) (hb : RowsOK b) : Pure PG 21 [vPol p, vi lv, vRows a, vRows b] (.tup [vRows (mixedV p lv a b).1, vi (mixedV p lv a b).2]) [] := by
  obtain ⟨i1, i2, i3, i4⟩ := polSz_i64 hz.toPolSz
  refine Proc.mk (cfg 61) tysOK [] Tryz.func21 rfl (by kernel_rfl) rfl rfl rfl ?_
  intro C x
  refine x.pure rfl trivial rfl (qright_spec p hz a ha) ⟨⟨veq0_d rfl, veq0_d rfl, veq0_d rfl, veq0_d rfl, rfl, trivial⟩, veq_d rfl, trivial⟩ ?_
  refine x.pureG rfl trivial rfl (fun _ => qright_spec p hz b hb) rfl ⟨⟨veq0_d rfl, veq0_d rfl, veq0_d rfl, veq0_d rfl, rfl, trivial⟩, veq_d rfl, trivial⟩ ?_
  refine x.cond rfl trivial (fun h => ?_) (fun h => ?_)
  · have h : (((!inB p a || !inB p b) || decide (lv < 0)) || decide ((p.lev.length : Int) ≤ lv)) = true := h
    have hq : askB p lv a b = false := by rw [ask_eq, not4 h]
    refine x.exit rfl trivial ?_
    rw [mixedV, hq, if_neg (by simp)]
    exact ⟨.inr rfl, ⟨rfl, rfl, trivial⟩, trivial, rfl⟩
  have h : (((!inB p a || !inB p b) || decide (lv < 0)) || decide ((p.lev.length : Int) ≤ lv)) = false := h
  have hq : askB p lv a b = true := by rw [ask_eq, not4' h]
  have hA := ask_r hq
  have hil := hA.r.il
  rw [mixedV, hq, if_pos rfl]
  refine x.toLoop rfl trivial ?_
  refine Go.own 10 29 1 (fun i => [dInts (([] : Rows).getD i [])]) rfl ?_
  refine x.loop (α := { i : Nat // i ≤ p.ins.length }) (fun y => ⟨[(1, vi lv), (2, vRows a), (3, vRows b), (4, .ptr 0 0), (10, .own 1), (36, vChs p.ins), (37, vi (p.ins.length : Int)), (38, vi (y.1 : Int))], [(0, polB p), (1, vecR ((mixL p lv.toNat a b).take y.1))], 2⟩) (fun y => p.ins.length - y.1) ⟨0, by omega⟩ rfl trivial ⟨⟨rfl, veq_d rfl, veq_d rfl, ⟨rfl, rfl⟩, rfl, veq_d rfl, rfl, rfl, trivial⟩, ⟨polB_eq p, ⟨rfl, rfl, rfl, fun _ h => absurd h (Nat.not_lt_zero _)⟩, trivial⟩, rfl⟩ (fun y => ?_)
  obtain ⟨i, hi⟩ := y
  change Go C _ ⟨[(1, vi lv), (2, vRows a), (3, vRows b), (4, .ptr 0 0), (10, .own 1), (36, vChs p.ins), (37, vi (p.ins.length : Int)), (38, vi (i : Int))], [(0, polB p), (1, vecR ((mixL p lv.toNat a b).take i))], 2⟩ _
  refine x.cond rfl trivial (fun h1 => ?_) (fun h1 => ?_)
  rotate_left
  · have h1 : i = p.ins.length := by have := of_decide_eq_false h1; omega
    subst h1
    rw [show (mixL p lv.toNat a b).take p.ins.length = mixL p lv.toNat a b from List.take_of_length_le (by rw [mix_len]; exact Nat.le_refl _)]
    refine Sx.Go.freeze 1 ?_
    exact x.exit rfl trivial ⟨.inr rfl, ⟨veq0_d rfl, rfl, trivial⟩, trivial, rfl⟩
  have h1 : i < p.ins.length := by have := of_decide_eq_true h1; omega
  have htl : ((mixL p lv.toNat a b).take i).length = i := by rw [List.length_take, mix_len]; omega
  have hsm := mix_small hA i
  refine x.pure rfl (by simp only [AllP]; omega) rfl (leq_spec p.up (p.ins.getD i chan0).2 lv i2) ⟨veq_d rfl, rfl, rfl, trivial⟩ ?_
  rw [leq_sees hA.r hA.l1 hA.l2 h1]
  have fin : ∀ m : List Int, mixK p lv.toNat a b i = m → ∀ j, j < ((mixL p lv.toNat a b).take i).length + 1 → app ((mixL p lv.toNat a b).take i).length (fun i' => [dInts (((mixL p lv.toNat a b).take i).getD i' [])]) (fun _ => [dInts m]) j = [dInts (((mixL p lv.toNat a b).take (i + 1)).getD j [])] := fun m hm j hj => by
    rw [mix_take h1, hm]
    exact app_gen6 (fun r : List Int => [dInts r]) 1 (fun _ => rfl) [] ((mixL p lv.toNat a b).take i) m j hj
  refine x.cond rfl trivial (fun h2 => ?_) (fun h2 => ?_)
  · have h2 : seesI p lv.toNat i = true := h2
    have hm : mixK p lv.toNat a b i = a.getD i [] := by unfold mixK; rw [if_pos h2]
    rw [hm] at hsm
    refine x.pure rfl trivial rfl (qrow_spec a i ha) ⟨veq_d rfl, rfl, trivial⟩ ?_
    refine x.pure rfl trivial rfl (cloneI_spec (n := (a.getD i []).length) (f := fun j => [.int .i64 ((a.getD i []).getD j 0)]) (by omega)) ⟨veq_d rfl, trivial⟩ ?_
    refine x.pure rfl trivial rfl (clipI_spec (n := (a.getD i []).length) (f := fun j => [.int .i64 ((a.getD i []).getD j 0)]) (by omega)) ⟨veq_d rfl, trivial⟩ ?_
    refine x.back rfl (by simp only [AllP, inI64, big, htl]; omega) ⟨⟨i + 1, by omega⟩, by show p.ins.length - (i + 1) < p.ins.length - i; omega, ⟨rfl, veq_d rfl, veq_d rfl, ⟨rfl, rfl⟩, rfl, veq_d rfl, rfl, (show VEq0 (vi ((i : Int) + 1)) (vi ((i + 1 : Nat) : Int)) by rw [Int.natCast_add]; rfl), trivial⟩, ⟨polB_eq p, ⟨rfl, rfl, by rw [mix_take h1]; simp, fin _ hm⟩, trivial⟩, rfl⟩
  · have h2 : seesI p lv.toNat i = false := h2
    have hm : mixK p lv.toNat a b i = b.getD i [] := by unfold mixK; rw [if_neg (by rw [h2]; simp)]
    rw [hm] at hsm
    refine x.pure rfl trivial rfl (qrow_spec b i hb) ⟨veq_d rfl, rfl, trivial⟩ ?_
    refine x.pure rfl trivial rfl (cloneI_spec (n := (b.getD i []).length) (f := fun j => [.int .i64 ((b.getD i []).getD j 0)]) (by omega)) ⟨veq_d rfl, trivial⟩ ?_
    refine x.pure rfl trivial rfl (clipI_spec (n := (b.getD i []).length) (f := fun j => [.int .i64 ((b.getD i []).getD j 0)]) (by omega)) ⟨veq_d rfl, trivial⟩ ?_
    refine x.back rfl (by simp only [AllP, inI64, big, htl]; omega) ⟨⟨i + 1, by omega⟩, by show p.ins.length - (i + 1) < p.ins.length - i; omega, ⟨rfl, veq_d rfl, veq_d rfl, ⟨rfl, rfl⟩, rfl, veq_d rfl, rfl, (show VEq0 (vi ((i : Int) + 1)) (vi ((i + 1 : Nat) : Int)) by rw [Int.natCast_add]; rfl), trivial⟩, ⟨polB_eq p, ⟨rfl, rfl, by rw [mix_take h1]; simp, fin _ hm⟩, trivial⟩, rfl⟩
end Go.Proofs.YtgnnglfbpcjadaaGreatDoor

/- Boxes: the answer's rows. -/
namespace Go.Proofs.YtgnnglfbpcjadaaGreatDoor
open Go.Sx
set_option linter.unusedVariables false
set_option linter.unusedSimpArgs false
set_option maxRecDepth 100000

theorem polZ_ok {p : Pol} (h : PolOK p) : PolZ p := ⟨h.sz, fun s hs => Nat.le_trans (h.lev s hs) (by decide), fun c hc => Nat.le_trans (h.ins c hc).1 (by decide), fun c hc => Nat.le_trans (h.outs c hc).1 (by decide)⟩
theorem row15_spec (l : Rows) (k : Nat) (hl : RowsOK l) : Pure PG 18 [vRows l, vi (k : Int)] (vInts (l.getD k [])) [] := by
  refine Proc.mk (cfg 17) tysOK [] Tryz.func18 rfl (by kernel_rfl) rfl rfl rfl ?_
  intro C x
  refine x.cond rfl trivial (fun h => ?_) (fun h => ?_)
  · have h : (decide ((k : Int) < 0) || decide ((l.length : Int) ≤ (k : Int))) = true := h
    have h : l.length ≤ k := by
      rw [Bool.or_eq_true, decide_eq_true_eq, decide_eq_true_eq] at h; omega
    refine x.exit rfl trivial ⟨.inr rfl, ?_, trivial, rfl⟩
    rw [List.getD_eq_getElem?_getD, List.getElem?_eq_none h]
    exact rfl
  · have h : (decide ((k : Int) < 0) || decide ((l.length : Int) ≤ (k : Int))) = false := h
    have h : k < l.length := by
      rw [Bool.or_eq_false_iff, decide_eq_false_iff_not, decide_eq_false_iff_not] at h; omega
    refine x.exit rfl (by simp only [AllP]; omega) ⟨.inr rfl, ?_, trivial, rfl⟩
    exact veq_d rfl
theorem same15_spec (a b : List Int) (ha : a.length * 8 ≤ 140737488355328) : Pure PG 47 [vInts a, vInts b] (vb (decide (a = b))) [] := by
  refine Proc.mk (cfg 26) tysOK [] Tryz.func47 rfl (by kernel_rfl) rfl rfl rfl ?_
  intro C x
  refine x.cond rfl trivial (fun h => ?_) (fun h => ?_)
  · have h : (!decide ((a.length : Int) = (b.length : Int))) = true := h
    have h : ¬ (a.length : Int) = b.length := by simpa using h
    refine x.exit rfl trivial ⟨.inr rfl, ?_, trivial, rfl⟩
    rw [decide_eq_false (show ¬ a = b from fun e => h (by rw [e]))]; exact rfl
  have h : (!decide ((a.length : Int) = (b.length : Int))) = false := h
  have hl : a.length = b.length := by
    have : (a.length : Int) = b.length := by simpa using h
    omega
  refine x.loop (α := { i : Nat // i ≤ a.length ∧ ∀ j, j < i → a.getD j 0 = b.getD j 0 }) (fun y => ⟨[(0, vInts a), (1, vInts b), (5, vi (y.1 : Int))], [], 0⟩) (fun y => a.length - y.1) ⟨0, Nat.zero_le _, fun j hj => by omega⟩ rfl trivial ⟨⟨veq_d rfl, veq_d rfl, rfl, trivial⟩, trivial, rfl⟩ (fun y => ?_)
  obtain ⟨i, hi, hs⟩ := y
  change Go C _ ⟨[(0, vInts a), (1, vInts b), (5, vi (i : Int))], [], 0⟩ _
  refine x.cond rfl trivial (fun h1 => ?_) (fun h1 => ?_)
  · have h1 : i < a.length := by have := of_decide_eq_true h1; omega
    refine x.quiet rfl trivial mixedP (by kernel_rfl) ?_
    refine x.qdone rfl (by simp only [AllP]; omega) ?_
    refine x.cond rfl trivial (fun h2 => ?_) (fun h2 => ?_)
    · have h2 : (!decide (a.getD i 0 = b.getD i 0)) = true := h2
      refine x.exit rfl trivial ⟨.inr rfl, ?_, trivial, rfl⟩
      rw [decide_eq_false (show ¬ a = b from fun e => by rw [e] at h2; simp at h2)]; exact rfl
    · have h2 : (!decide (a.getD i 0 = b.getD i 0)) = false := h2
      have h2 : a.getD i 0 = b.getD i 0 := by
        rw [Bool.not_eq_false', decide_eq_true_eq] at h2; exact h2
      refine x.back rfl (by simp only [AllP, inI64]; omega) ⟨⟨i + 1, by omega, fun j hj => ?_⟩, by show a.length - (i + 1) < a.length - i; omega, ⟨veq_d rfl, veq_d rfl, (show VEq0 (vi ((i : Int) + 1)) (vi ((i + 1 : Nat) : Int)) by rw [Int.natCast_add]; rfl), trivial⟩, trivial, rfl⟩
      by_cases e : j = i
      · rw [e]; exact h2
      · exact hs j (by omega)
  · have h1 : i = a.length := by have := of_decide_eq_false h1; omega
    refine x.exit rfl trivial ⟨.inr rfl, ?_, trivial, rfl⟩
    rw [decide_eq_true (ints_ext hl fun j hj => hs j (by omega))]; exact rfl
theorem rows_ext {a b : Rows} (h1 : a.length = b.length) (h2 : ∀ j, j < a.length → a.getD j [] = b.getD j []) : a = b := List.ext_getElem h1 fun j hj hj' => by
  have := h2 j hj
  rwa [List.getD_eq_getElem?_getD, List.getD_eq_getElem?_getD, List.getElem?_eq_getElem hj, List.getElem?_eq_getElem hj'] at this
theorem rows_at {l : Rows} (h : RowsOK l) {i : Nat} (hi : i < l.length) : (l.getD i []).length * 8 ≤ 140737488355328 := by
  rw [List.getD_eq_getElem?_getD, List.getElem?_eq_getElem hi]; exact h.row _ (List.getElem_mem hi)
set_option maxHeartbeats 2000000 in
theorem samerows_spec (a b : Rows) (ha : RowsOK a) (hb : RowsOK b) : Pure PG 25 [vRows a, vRows b] (vb (decide (a = b))) [] := by
  have hal := ha.len
  refine Proc.mk (cfg 27) tysOK [] Tryz.func25 rfl (by kernel_rfl) rfl rfl rfl ?_
  intro C x
  refine x.cond rfl trivial (fun h => ?_) (fun h => ?_)
  · have h : (!decide ((a.length : Int) = (b.length : Int))) = true := h
    have h : ¬ (a.length : Int) = b.length := by simpa using h
    refine x.exit rfl trivial ⟨.inr rfl, ?_, trivial, rfl⟩
    rw [decide_eq_false (show ¬ a = b from fun e => h (by rw [e]))]; exact rfl
  have h : (!decide ((a.length : Int) = (b.length : Int))) = false := h
  have hl : a.length = b.length := by
    have : (a.length : Int) = b.length := by simpa using h
    omega
  refine x.loop (α := { i : Nat // i ≤ a.length ∧ ∀ j, j < i → a.getD j [] = b.getD j [] }) (fun y => ⟨[(0, vRows a), (1, vRows b), (5, vi (y.1 : Int))], [], 0⟩) (fun y => a.length - y.1) ⟨0, Nat.zero_le _, fun j hj => by omega⟩ rfl trivial ⟨⟨veq_d rfl, veq_d rfl, rfl, trivial⟩, trivial, rfl⟩ (fun y => ?_)
  obtain ⟨i, hi, hs⟩ := y
  change Go C _ ⟨[(0, vRows a), (1, vRows b), (5, vi (i : Int))], [], 0⟩ _
  refine x.cond rfl trivial (fun h1 => ?_) (fun h1 => ?_)
  · have h1 : i < a.length := by have := of_decide_eq_true h1; omega
    refine x.quiet rfl trivial mixedP (by kernel_rfl) ?_
    refine x.qcall rfl ?_ rfl (same15_spec (a.getD i []) (b.getD i []) (rows_at ha h1)) rfl rfl ⟨veq_d rfl, veq_d rfl, trivial⟩ ?_
    · simp only [AllP]; omega
    refine x.qdone rfl trivial ?_
    refine x.cond rfl trivial (fun h2 => ?_) (fun h2 => ?_)
    · have h2 : (!decide (a.getD i [] = b.getD i [])) = true := h2
      refine x.exit rfl trivial ⟨.inr rfl, ?_, trivial, rfl⟩
      rw [decide_eq_false (show ¬ a = b from fun e => by rw [e] at h2; simp at h2)]; exact rfl
    · have h2 : (!decide (a.getD i [] = b.getD i [])) = false := h2
      have h2 : a.getD i [] = b.getD i [] := by
        rw [Bool.not_eq_false', decide_eq_true_eq] at h2; exact h2
      refine x.back rfl (by simp only [AllP, inI64]; omega) ⟨⟨i + 1, by omega, fun j hj => ?_⟩, by show a.length - (i + 1) < a.length - i; omega, ⟨veq_d rfl, veq_d rfl, (show VEq0 (vi ((i : Int) + 1)) (vi ((i + 1 : Nat) : Int)) by rw [Int.natCast_add]; rfl), trivial⟩, trivial, rfl⟩
      by_cases e : j = i
      · rw [e]; exact h2
      · exact hs j (by omega)
  · have h1 : i = a.length := by have := of_decide_eq_false h1; omega
    refine x.exit rfl trivial ⟨.inr rfl, ?_, trivial, rfl⟩
    rw [decide_eq_true (rows_ext hl fun j hj => hs j (by omega))]; exact rfl
end Go.Proofs.YtgnnglfbpcjadaaGreatDoor

/- Policies, plain: the words of a line, byte by byte. -/
namespace Go.Proofs.YtgnnglfbpcjadaaGreatDoor
open Go.Sx
set_option linter.unusedVariables false
set_option linter.unusedSimpArgs false

/-- Is a byte a blank? -/
def blkB (b : UInt8) : Bool := decide (b = 32) || decide (b = 9)
/-- The words of the rest, of which one is under way. -/
def wordsG : List UInt8 → List UInt8 → List (List UInt8)
  | cur, [] => if cur = [] then [] else [cur]
  | cur, b :: r => if blkB b then (if cur = [] then wordsG [] r else cur :: wordsG [] r) else wordsG (cur ++ [b]) r
theorem wordsG_more : ∀ (l cur r : List UInt8), (∀ b ∈ l, blkB b = false) → wordsG cur (l ++ r) = wordsG (cur ++ l) r
  | [], cur, r, _ => by simp
  | b :: l, cur, r, h => by
    rw [List.cons_append, wordsG, if_neg (by rw [h b (.head _)]; simp), wordsG_more l (cur ++ [b]) r (fun x hx => h x (.tail _ hx)), List.append_assoc]
    rfl
theorem dec_low (sz p a b c d : Nat) (ha : a < 256) : (((dec sz p a b c d).1 = 32 ∨ (dec sz p a b c d).1 = 9) ↔ (a = 32 ∨ a = 9)) ∧ ((a = 32 ∨ a = 9) → (dec sz p a b c d).2 = 1) ∧
    (¬ (a = 32 ∨ a = 9) → ∀ k, k < (dec sz p a b c d).2 → (k = 1 → 127 < b) ∧ (k = 2 → 127 < c) ∧ (k = 3 → 127 < d) ∧ k < 4) := by
  unfold dec
  repeat' split
  all_goals refine ⟨by dsimp only; omega, by dsimp only; omega, fun _ k hk => ?_⟩
  all_goals dsimp only at hk
  all_goals omega
def byt (s : ByteArray) (i : Nat) : UInt8 := s.data.toList.getD i 0
theorem byt_bt (s : ByteArray) (i : Nat) : (byt s i).toNat = bt s i := by
  have h := sb_bt s i
  unfold sb at h
  unfold byt
  omega
theorem blk_bt (s : ByteArray) (i : Nat) : blkB (byt s i) = true ↔ (bt s i = 32 ∨ bt s i = 9) := by
  rw [← byt_bt]
  unfold blkB
  simp only [Bool.or_eq_true, decide_eq_true_eq, ← UInt8.toNat_inj]
  exact Iff.rfl
theorem decode_blk (s : ByteArray) (p : Nat) : blankP (Utf8.decode s p).1 = blkB (byt s p) ∧ (blkB (byt s p) = true → (Utf8.decode s p).2 = 1) ∧
    (blkB (byt s p) = false → ∀ k, k < (Utf8.decode s p).2 → blkB (byt s (p + k)) = false) := by
  have h := dec_low s.size p (bt s p) (bt s (p + 1)) (bt s (p + 2)) (bt s (p + 3)) (bt_lt s p)
  rw [decode_eq]
  have hb := blk_bt s p
  refine ⟨?_, fun e => h.2.1 (hb.1 e), fun hn k hk => ?_⟩
  · rw [Bool.eq_iff_iff, hb, ← h.1]
    unfold blankP
    simp only [Bool.or_eq_true, decide_eq_true_eq]
    omega
  · have hn' : ¬ (bt s p = 32 ∨ bt s p = 9) := fun e => by rw [hb.2 e] at hn; cases hn
    obtain ⟨h1, h2, h3, h4⟩ := h.2.2 hn' k hk
    have key : ∀ j, 127 < bt s j → blkB (byt s j) = false := fun j hj => by
      cases e : blkB (byt s j) with
      | false => rfl
      | true => have := (blk_bt s j).1 e; omega
    match k, h4 with
    | 0, _ => exact hn
    | 1, _ => exact key _ (h1 rfl)
    | 2, _ => exact key _ (h2 rfl)
    | 3, _ => exact key _ (h3 rfl)
theorem ext_l (s : ByteArray) (a b : Nat) : (s.extract a b).data.toList = (s.data.toList.drop a).take (b - a) := by
  rw [show (s.extract a b).data = s.data.extract a b from ByteArray.data_extract, Array.toList_extract]
theorem size_l (s : ByteArray) : s.data.toList.length = s.size := Array.length_toList
theorem drop_byt {s : ByteArray} {p : Nat} (h : p < s.size) : s.data.toList.drop p = byt s p :: s.data.toList.drop (p + 1) := by
  have h' : p < s.data.toList.length := by rw [size_l]; exact h
  rw [List.drop_eq_getElem_cons h']
  unfold byt
  rw [List.getD_eq_getElem?_getD, List.getElem?_eq_getElem h']; rfl
theorem ext_more {s : ByteArray} {a p w : Nat} (h1 : a ≤ p) (h2 : p + w ≤ s.size) : (s.extract a (p + w)).data.toList = (s.extract a p).data.toList ++ (s.data.toList.drop p).take w := by
  rw [ext_l, ext_l, show p + w - a = (p - a) + w by omega, List.take_add, List.drop_drop, show a + (p - a) = p by omega]
abbrev wl (s : ByteArray) (x : Nat × Nat) : List UInt8 := (s.extract x.1 x.2).data.toList
def curW (s : ByteArray) (pos : Nat) : Option Nat → List UInt8
  | none => []
  | some a => wl s (a, pos)
theorem spans_words (s : ByteArray) : ∀ (n pos : Nat) (st : Option Nat) (acc : List (Nat × Nat)), s.size ≤ pos + n → pos ≤ s.size → (∀ a, st = some a → a < pos) →
    (Lib.closeSpans s (Lib.spansFromP blankP s n pos st acc)).map (wl s) = acc.map (wl s) ++ wordsG (curW s pos st) (s.data.toList.drop pos)
  | 0, pos, st, acc, hn, hp, hst => by
    obtain rfl : pos = s.size := by omega
    have e : s.data.toList.drop s.size = [] := List.drop_eq_nil_of_le (by rw [size_l]; exact Nat.le_refl _)
    rw [e, Lib.spansFromP.eq_def]
    cases st with
    | none => simp [Lib.closeSpans, curW, wordsG]
    | some a =>
      have ha := hst a rfl
      have hne : curW s s.size (some a) ≠ [] := fun h0 => by
        have := congrArg List.length h0
        simp only [curW, wl, ext_l, List.length_take, List.length_drop, size_l, List.length_nil] at this
        omega
      simp [Lib.closeSpans, wordsG, hne]
      rfl
  | n + 1, pos, st, acc, hn, hp, hst => by
    rw [Lib.spansFromP.eq_def]
    simp only
    by_cases hlt : pos < s.size
    · rw [if_pos hlt]
      obtain ⟨d1, d2, d3⟩ := decode_blk s pos
      have hroom := decode_room hlt
      have hpos := (decode_pos s pos).1
      generalize hw : (Utf8.decode s pos).2 = w at d2 d3 hroom hpos ⊢
      rw [d1]
      cases hb : blkB (byt s pos) with
      | true =>
        have hw1 := d2 hb
        subst hw1
        rw [if_pos rfl, drop_byt hlt, wordsG, if_pos hb]
        cases st with
        | none =>
          rw [spans_words s n (pos + 1) none acc (by omega) (by omega) (fun a ha => by cases ha)]
          simp [curW]
        | some a =>
          have ha := hst a rfl
          have hne : curW s pos (some a) ≠ [] := fun h0 => by
            have := congrArg List.length h0
            simp only [curW, wl, ext_l, List.length_take, List.length_drop, size_l, List.length_nil] at this
            omega
          rw [if_neg hne]
          simp only
          rw [spans_words s n (pos + 1) none (acc ++ [(a, pos)]) (by omega) (by omega) (fun a ha => by cases ha)]
          simp [curW]
      | false =>
        rw [if_neg (by simp)]
        have hcut : s.data.toList.drop pos = (s.data.toList.drop pos).take w ++ s.data.toList.drop (pos + w) := by
          rw [← List.drop_drop, List.take_append_drop]
        have hall : ∀ b ∈ (s.data.toList.drop pos).take w, blkB b = false := fun b hbm => by
          obtain ⟨k, hk, rfl⟩ := List.getElem_of_mem hbm
          have hk' : k < w := by simp only [List.length_take] at hk; omega
          have := d3 hb k hk'
          have e : ((s.data.toList.drop pos).take w)[k] = byt s (pos + k) := by
            have hk2 : pos + k < s.data.toList.length := by rw [size_l]; omega
            unfold byt
            rw [List.getElem_take, List.getElem_drop, List.getD_eq_getElem?_getD, List.getElem?_eq_getElem hk2]; rfl
          rw [e]; exact this
        cases st with
        | none =>
          simp only
          rw [spans_words s n (pos + w) (some pos) acc (by omega) (by omega) (fun a ha => by cases ha; omega)]
          conv => rhs; rw [hcut]
          rw [wordsG_more _ _ _ hall]
          congr 2
          show wl s (pos, pos + w) = [] ++ _
          rw [wl, ext_more (Nat.le_refl _) hroom, ext_l]
          simp
        | some a =>
          have ha := hst a rfl
          simp only
          rw [spans_words s n (pos + w) (some a) acc (by omega) (by omega) (fun a' ha' => by cases ha'; omega)]
          conv => rhs; rw [hcut]
          rw [wordsG_more _ _ _ hall]
          congr 2
          exact ext_more (by omega) hroom
    · rw [if_neg hlt]
      exact spans_words s 0 pos st acc (by omega) hp hst
/-- A line's words are those of its bytes. -/
theorem fields_words (s : ByteArray) : (fieldsL s).map (fun w => w.data.toList) = wordsG [] s.data.toList := by
  have h := spans_words s s.size 0 none [] (by omega) (Nat.zero_le _) (fun a ha => by cases ha)
  unfold fieldsL Lib.goFieldsP Lib.spansOfP
  rw [List.map_map]
  exact h
abbrev tl (s : ByteArray) : List UInt8 := s.data.toList
theorem tl_nil (s : ByteArray) : tl s = [] ↔ s.size = 0 := by
  rw [← List.length_eq_zero_iff, size_l]
theorem map_tl_inj : ∀ {a b : List ByteArray}, a.map tl = b.map tl → a = b
  | [], [], _ => rfl
  | [], _ :: _, h => by cases h
  | _ :: _, [], h => by cases h
  | x :: a, y :: b, h => by
    simp only [List.map_cons, List.cons.injEq] at h
    rw [map_tl_inj h.2, show x = y by rw [ba_eq x, ba_eq y, show x.data.toList = y.data.toList from h.1]]
end Go.Proofs.YtgnnglfbpcjadaaGreatDoor

/- Policies, plain: the lines of a text, byte by byte; where the first word stands. -/
namespace Go.Proofs.YtgnnglfbpcjadaaGreatDoor
open Go.Sx
set_option linter.unusedVariables false
set_option linter.unusedSimpArgs false

/-- The lines of the rest, of which one is under way. -/
def linesG : List UInt8 → List UInt8 → List (List UInt8)
  | cur, [] => [cur]
  | cur, b :: r => if b = 10 then cur :: linesG [] r else linesG (cur ++ [b]) r
theorem pre10 (b : UInt8) (l : List UInt8) : List.isPrefixOf [10] (b :: l) = decide (b = 10) := by
  simp only [List.isPrefixOf, Bool.and_true]
  by_cases h : b = 10
  · subst h; decide
  · rw [decide_eq_false h]
    exact beq_false_of_ne fun e => h e.symm
theorem linesG_idx : ∀ (s cur : List UInt8), (Lib.index s [10] = -1 → linesG cur s = [cur ++ s]) ∧ ∀ i : Nat, Lib.index s [10] = i → linesG cur s = (cur ++ s.take i) :: linesG [] (s.drop (i + 1))
  | [], cur => by
    have e : Lib.index [] [10] = -1 := rfl
    exact ⟨fun _ => by simp [linesG], fun i hi => by rw [e] at hi; omega⟩
  | b :: s, cur => by
    rw [Lib.index, pre10, linesG]
    by_cases hb : b = 10
    · rw [if_pos (decide_eq_true hb), if_pos hb]
      refine ⟨fun h => (by cases h), fun i hi => ?_⟩
      obtain rfl : i = 0 := by omega
      simp
    · obtain ⟨h1, h2⟩ := linesG_idx s (cur ++ [b])
      rw [if_neg (by simpa using hb), if_neg hb]
      have hg := Lib.index_ge s [10]
      by_cases hm : Lib.index s [10] = -1
      · rw [if_pos (beq_iff_eq.2 hm)]
        exact ⟨fun _ => by rw [h1 hm]; simp, fun i hi => by omega⟩
      · rw [if_neg (fun e => hm (beq_iff_eq.1 e))]
        refine ⟨fun h => by omega, fun i hi => ?_⟩
        have hj : Lib.index s [10] = ((i - 1 : Nat) : Int) := by omega
        rw [h2 (i - 1) hj]
        obtain ⟨j, rfl⟩ : ∃ j, i = j + 1 := ⟨i - 1, by omega⟩
        simp
theorem split_lines : ∀ (k : Nat) (s : List UInt8), Lib.count s [10] = k → Lib.splitK [10] 0 k s = linesG [] s
  | 0, s, h => by
    have hg := Lib.index_ge s [10]
    by_cases hm : Lib.index s [10] = -1
    · rw [(linesG_idx s []).1 hm]; rfl
    · have := Lib.count_hit (s := s) (sub := [10]) (i := (Lib.index s [10]).toNat) (by simp) (by omega)
      omega
  | k + 1, s, h => by
    have hg := Lib.index_ge s [10]
    by_cases hm : Lib.index s [10] = -1
    · rw [Lib.count_miss hm] at h; omega
    · have hc := Lib.count_hit (s := s) (sub := [10]) (i := (Lib.index s [10]).toNat) (by simp) (by omega)
      rw [Lib.splitK, if_neg (fun e => hm (beq_iff_eq.1 e)), (linesG_idx s []).2 (Lib.index s [10]).toNat (by omega)]
      have hk : Lib.count (s.drop ((Lib.index s [10]).toNat + ([10] : List UInt8).length)) [10] = k := by
        rw [List.length_singleton] at hc ⊢
        omega
      rw [split_lines k _ hk]
      simp
theorem lines_lines (s : ByteArray) : (linesL s).map (fun w => w.data.toList) = linesG [] s.data.toList := by
  unfold linesL
  rw [Lib.splitB_data]
  exact split_lines _ _ rfl

/-! ### the first word -/
def lead : List UInt8 → Nat
  | [] => 0
  | b :: r => if blkB b then lead r + 1 else 0
theorem word_pre : ∀ (r cur : List UInt8) (w : List UInt8) (ws : List (List UInt8)), cur ≠ [] → wordsG cur r = w :: ws → w.isPrefixOf (cur ++ r) = true ∧ cur.isPrefixOf w = true
  | [], cur, w, ws, hc, h => by
    rw [wordsG, if_neg hc] at h
    cases h
    simp
  | b :: r, cur, w, ws, hc, h => by
    rw [wordsG] at h
    by_cases hb : blkB b = true
    · rw [if_pos hb, if_neg hc] at h
      cases h
      simp
    · rw [if_neg hb] at h
      obtain ⟨h1, h2⟩ := word_pre r (cur ++ [b]) w ws (by simp) h
      refine ⟨by simpa using h1, ?_⟩
      rw [List.isPrefixOf_iff_prefix] at h2 ⊢
      exact (List.prefix_append _ _).trans h2
theorem words_ne : ∀ (r cur : List UInt8) (w : List UInt8), (cur ≠ [] → ∀ b, cur.head? = some b → blkB b = false) → w ∈ wordsG cur r → ∃ b t, w = b :: t ∧ blkB b = false
  | [], cur, w, hc, h => by
    rw [wordsG] at h
    by_cases h0 : cur = []
    · rw [if_pos h0] at h; cases h
    · rw [if_neg h0, List.mem_singleton] at h
      subst h
      cases w with
      | nil => exact absurd rfl h0
      | cons b t => exact ⟨b, t, rfl, hc h0 b rfl⟩
  | b :: r, cur, w, hc, h => by
    rw [wordsG] at h
    by_cases hb : blkB b = true
    · rw [if_pos hb] at h
      by_cases h0 : cur = []
      · rw [if_pos h0] at h
        exact words_ne r [] w (fun h => absurd rfl h) h
      · rw [if_neg h0] at h
        rcases List.mem_cons.1 h with rfl | h
        · cases w with
          | nil => exact absurd rfl h0
          | cons b' t => exact ⟨b', t, rfl, hc h0 b' rfl⟩
        · exact words_ne r [] w (fun h => absurd rfl h) h
    · rw [if_neg hb] at h
      refine words_ne r (cur ++ [b]) w (fun _ b' hb' => ?_) h
      cases cur with
      | nil => simp at hb'; subst hb'; simpa using hb
      | cons x t => exact hc (by simp) b' (by simpa using hb')
theorem index_first : ∀ (l : List UInt8) (w : List UInt8) (ws : List (List UInt8)), wordsG [] l = w :: ws → Lib.index l w = (lead l : Int)
  | [], w, ws, h => by simp [wordsG] at h
  | b :: r, w, ws, h => by
    obtain ⟨c, t, hw, hc⟩ := words_ne (b :: r) [] w (fun h => absurd rfl h) (by rw [h]; exact .head _)
    rw [wordsG] at h
    by_cases hb : blkB b = true
    · rw [if_pos hb, if_pos rfl] at h
      have ih := index_first r w ws h
      have hne : w.isPrefixOf (b :: r) = false := by
        rw [hw]
        simp only [List.isPrefixOf, Bool.and_eq_false_iff]
        left
        exact beq_false_of_ne fun e => by rw [e, hb] at hc; cases hc
      rw [Lib.index, if_neg (by rw [hne]; simp), ih, if_neg (by intro e; have := beq_iff_eq.1 e; omega), lead, if_pos hb]
      omega
    · rw [if_neg hb] at h
      obtain ⟨h1, _⟩ := word_pre r ([] ++ [b]) w ws (by simp) h
      rw [Lib.index, if_pos (by simpa using h1), lead, if_neg hb]
      rfl
end Go.Proofs.YtgnnglfbpcjadaaGreatDoor

/- The reference for letters, and the law on letters. -/
namespace Go.Proofs.YtgnnglfbpcjadaaGreatDoor
open Go.Sx
set_option linter.unusedVariables false
set_option maxRecDepth 100000
theorem ref_digit_spec (r : Int) : Pure PG 118 [vi r] (vb (decide (48 ≤ r) && decide (r ≤ 57))) [] := by
  refine Proc.mk (cfg 9) tysOK [] Tryz.func118 rfl (by kernel_rfl) rfl rfl rfl ?_
  intro C x
  refine x.exit rfl trivial ?_
  exact ⟨.inr rfl, rfl, trivial, rfl⟩

theorem ref_letter_spec (r : Int) : Pure PG 117 [vi r] (vb (decide (97 ≤ r) && decide (r ≤ 122) || decide (65 ≤ r) && decide (r ≤ 90) || decide (r = 95) || decide (945 ≤ r) && decide (r ≤ 969) || decide (913 ≤ r) && decide (r ≤ 937) && !decide (r = 930))) [] := by
  refine Proc.mk (cfg 39) tysOK [] Tryz.func117 rfl (by kernel_rfl) rfl rfl rfl ?_
  intro C x
  refine x.cond rfl trivial (fun h => ?_) (fun h => ?_)
  · refine x.exit rfl trivial ?_
    refine ⟨.inr rfl, ?_, trivial, rfl⟩
    show true = _
    simp only [Bool.or_eq_true, Bool.and_eq_true, decide_eq_true_eq] at h
    symm
    simp only [Bool.or_eq_true, Bool.and_eq_true, decide_eq_true_eq]
    omega
  · refine x.exit rfl trivial ?_
    refine ⟨.inr rfl, ?_, trivial, rfl⟩
    show _ = _
    simp only [h, Bool.false_or]

end Go.Proofs.YtgnnglfbpcjadaaGreatDoor

/- Is it a name? The reference's answer. -/
namespace Go.Proofs.YtgnnglfbpcjadaaGreatDoor
open Go.Sx
set_option linter.unusedVariables false
set_option linter.unusedSimpArgs false
set_option maxRecDepth 100000

def refNameW (s : ByteArray) : Nat → Int → Bool
  | 0, _ => true
  | n + 1, i => if i < s.size then
      if (!letB (formV s i).1 && (decide (i = 0) || !digB (formV s i).1)) = true then false else refNameW s n (nextV s i)
    else true
theorem refNameW_end {s : ByteArray} {n : Nat} {i : Int} (h : ¬ i < s.size) : refNameW s n i = true := by
  cases n with
  | zero => rfl
  | succ n => rw [refNameW, if_neg h]
def refNameV (s : ByteArray) : Bool :=
  if (decide ((s.size : Int) = 0) || decide (0 ≤ badV s s.size 0) || decide (24 < runesV s s.size 0 0)) = true then false else refNameW s s.size 0

structure OI (s : ByteArray) where
  n : Nat
  i : Int
  fuel : (s.size : Int) ≤ i + n
  same : refNameW s n i = refNameW s s.size 0
  hi : 0 ≤ i ∧ i ≤ s.size

theorem ref_name_spec (s : ByteArray) (hs : s.size ≤ 9223372036854775807) : Pure PG 89 [vs s] (vb (refNameV s)) [] := by
  refine Proc.mk (cfg 44) tysOK [] Tryz.func89 rfl (by kernel_rfl) rfl rfl rfl ?_
  intro C x
  refine x.pureG rfl trivial rfl (fun _ => bad_spec s hs) rfl ⟨rfl, trivial⟩ ?_
  refine x.pureG rfl trivial rfl (fun _ => runes_spec s hs) rfl ⟨rfl, trivial⟩ ?_
  refine x.cond rfl trivial (fun h0 => ?_) (fun h0 => ?_)
  · refine x.exit rfl trivial ?_
    refine ⟨.inr rfl, ?_, trivial, rfl⟩
    rw [refNameV, if_pos h0]
    exact rfl
  have h0' : refNameV s = refNameW s s.size 0 := by
    rw [refNameV, if_neg (by rw [h0]; simp)]
  refine x.loop (α := OI s) (fun y => ⟨[(0, vs s), (3, vi y.i)], [], 0⟩) (fun y => (s.size + 4 - y.i).toNat) ⟨s.size, 0, by omega, rfl, by omega⟩ rfl trivial ?_ (fun y => ?_)
  · exact ⟨⟨rfl, rfl, trivial⟩, trivial, rfl⟩
  obtain ⟨n, i, fuel, same, hi⟩ := y
  change Go C _ ⟨[(0, vs s), (3, vi i)], [], 0⟩ _
  refine x.cond rfl trivial (fun h => ?_) (fun h => ?_)
  · have h' : i < s.size := by simpa using h
    have hn := nextV_gt s i
    have hr := nextV_room s i (by omega)
    refine x.pure rfl trivial rfl (form_spec s i hs) ⟨rfl, rfl, trivial⟩ ?_
    refine x.pure rfl trivial rfl (ref_letter_spec _) ⟨rfl, trivial⟩ ?_
    refine x.pureG rfl trivial rfl (fun _ _ => ref_digit_spec _) rfl ⟨rfl, trivial⟩ ?_
    cases n with
    | zero => omega
    | succ n =>
      rw [refNameW, if_pos h'] at same
      refine x.cond rfl trivial (fun h2 => ?_) (fun h2 => ?_)
      · rw [if_pos (show (!letB (formV s i).1 && (decide (i = 0) || !digB (formV s i).1)) = true from h2)] at same
        refine x.exit rfl trivial ?_
        refine ⟨.inr rfl, ?_, trivial, rfl⟩
        rw [h0', ← same]
        exact rfl
      · rw [if_neg (by rw [show (!letB (formV s i).1 && (decide (i = 0) || !digB (formV s i).1)) = false from h2]; simp)] at same
        refine x.pure rfl trivial rfl (next_spec s i hs (by omega)) ⟨rfl, rfl, trivial⟩ ?_
        refine x.back rfl trivial ?_
        refine ⟨⟨n, nextV s i, by omega, same, by omega⟩, by show ((s.size : Int) + 4 - nextV s i).toNat < ((s.size : Int) + 4 - i).toNat; omega, ?_⟩
        exact ⟨⟨rfl, rfl, trivial⟩, trivial, rfl⟩
  · have h' : ¬ i < s.size := by simpa using h
    refine x.exit rfl trivial ?_
    refine ⟨.inr rfl, ?_, trivial, rfl⟩
    rw [h0', ← same, refNameW_end h']
    exact rfl
end Go.Proofs.YtgnnglfbpcjadaaGreatDoor

/- Names: both answer alike; the law. -/
namespace Go.Proofs.YtgnnglfbpcjadaaGreatDoor
open Go.Sx
set_option linter.unusedVariables false
set_option linter.unusedSimpArgs false
set_option maxRecDepth 100000

theorem runesV_ge (s : ByteArray) : ∀ (n : Nat) (i c : Int), c ≤ runesV s n i c
  | 0, i, c => Int.le_refl c
  | n + 1, i, c => by
    rw [runesV]
    split
    · have := runesV_ge s n (nextV s i) (c + 1); omega
    · exact Int.le_refl c

theorem nameW_eq (s : ByteArray) : ∀ (n p : Nat) (c : Int), s.size ≤ p + n → c ≤ 24 →
    nameW s n p c = (!decide (0 ≤ badV s n p) && decide (runesV s n p c ≤ 24) && refNameW s n p && decide (0 < runesV s n p c)) := by
  intro n
  induction n with
  | zero =>
    intro p c h1 h2
    rw [nameW, badV, runesV, refNameW]
    simp [h2]
  | succ n ih =>
    intro p c h1 h2
    by_cases hp : p < s.size
    · have hp' : (p : Int) < s.size := by omega
      have hf := formV_at hp
      rw [nameW, badV, runesV, refNameW, if_pos hp, if_pos hp', if_pos hp', if_pos hp', nextV_at hp, hf]
      by_cases hb : (Utf8.decode s p).2 = 1 ∧ 128 ≤ bt s p
      · have hr : (Utf8.decode s p).1 = 65533 := by
          rw [decode_eq] at hb ⊢
          exact dec_bad _ _ _ _ _ _ hb.1 hb.2
        rw [if_pos hb, hr]
        simp [letB, digB]
      · obtain ⟨d1, d2, d3⟩ := decode_pos s p
        have hz : ¬ (((Utf8.decode s p).2 : Int) = 0) := by omega
        rw [if_neg hb]
        simp only
        rw [if_neg hz]
        by_cases hc : (!letB (Utf8.decode s p).1 && (decide ((p : Int) = 0) || !digB (Utf8.decode s p).1)) = true
        · rw [if_pos hc, if_pos hc]; simp
        · rw [if_neg hc, if_neg hc]
          by_cases h24 : 24 < c + 1
          · have := runesV_ge s n ((p + (Utf8.decode s p).2 : Nat) : Int) (c + 1)
            rw [if_pos h24, decide_eq_false (p := runesV s n ((p + (Utf8.decode s p).2 : Nat) : Int) (c + 1) ≤ 24) (by omega)]
            simp
          · rw [if_neg h24, ih (p + (Utf8.decode s p).2) (c + 1) (by omega) (by omega)]
            simp
    · rw [nameW_end hp, badV_end (by omega), runesV_end (by omega), refNameW_end (by omega)]
      simp [h2]

theorem name_eq (s : ByteArray) : nameW s s.size 0 0 = refNameV s := by
  rw [nameW_eq s s.size 0 0 (by omega) (by omega), refNameV]
  by_cases h0 : s.size = 0
  · rw [if_pos (by simp [h0]), h0]
    simp [runesV]
  · have h1 : 0 < runesV s s.size 0 0 := by
      obtain ⟨k, hk⟩ : ∃ k, s.size = k + 1 := ⟨s.size - 1, by omega⟩
      rw [hk, runesV, if_pos (by omega)]
      have := runesV_ge s k (nextV s 0) (0 + 1)
      omega
    rw [decide_eq_false (p := ((s.size : Int) = 0)) (by omega), Bool.false_or]
    by_cases h2 : 0 ≤ badV s s.size 0
    · simp [h2]
    · by_cases h3 : 24 < runesV s s.size 0 0
      · rw [if_pos (by simp [h3]), decide_eq_false (p := runesV s s.size ((0 : Nat) : Int) 0 ≤ 24) (by simp; omega)]
        simp
      · rw [if_neg (by simp [h2]; omega)]
        simp [h1, h2]
        omega
end Go.Proofs.YtgnnglfbpcjadaaGreatDoor

/- Policies: the answer's words, first, Name. -/
namespace Go.Proofs.YtgnnglfbpcjadaaGreatDoor
open Go.Sx
set_option linter.unusedVariables false
set_option linter.unusedSimpArgs false
set_option maxRecDepth 100000

theorem sbE (s : ByteArray) (i : Nat) (c : UInt8) : sb s i = (c.toNat : Int) ↔ byt s i = c := by
  rw [sb_bt, ← byt_bt, ← UInt8.toNat_inj]; omega
theorem blkE (s : ByteArray) (i : Nat) : (decide (sb s i = 32) || decide (sb s i = 9)) = blkB (byt s i) := by
  unfold blkB
  have e1 : decide (sb s i = 32) = decide (byt s i = 32) := by rw [decide_eq_decide]; exact sbE s i 32
  have e2 : decide (sb s i = 9) = decide (byt s i = 9) := by rw [decide_eq_decide]; exact sbE s i 9
  rw [e1, e2]
theorem toNat_sc (i : Nat) : ((i : Int) + 1).toNat = i + 1 := rfl
structure WS (s : ByteArray) where
  i : Nat
  out : List ByteArray
  one : ByteArray
  hi : i ≤ s.size + 1
  hl : out.length ≤ i
  hz : one.size ≤ i
  same : i ≤ s.size → out.map tl ++ wordsG (tl one) ((tl s).drop i) = wordsG [] (tl s)
  fin : i = s.size + 1 → out.map tl = wordsG [] (tl s)
def outW (out : List ByteArray) (one : ByteArray) : List ByteArray := if 0 < one.size then out ++ [one] else out
theorem out_step {s one : ByteArray} {i : Nat} {out : List ByteArray} (hi : i ≤ s.size) (h : out.map tl ++ wordsG (tl one) ((tl s).drop i) = wordsG [] (tl s)) (hb : i = s.size ∨ blkB (byt s i) = true) :
    (i < s.size → (outW out one).map tl ++ wordsG [] ((tl s).drop (i + 1)) = wordsG [] (tl s)) ∧ (i = s.size → (outW out one).map tl = wordsG [] (tl s)) := by
  have hn := tl_nil one
  constructor
  · intro hlt
    have hbl : blkB (byt s i) = true := hb.elim (fun e => by omega) id
    rw [show (tl s).drop i = byt s i :: (tl s).drop (i + 1) from drop_byt hlt, wordsG, if_pos hbl] at h
    unfold outW
    by_cases h0 : one.size = 0
    · rw [if_pos (hn.2 h0)] at h
      rw [if_neg (by omega)]; exact h
    · rw [if_neg (fun e => h0 (hn.1 e))] at h
      rw [if_pos (by omega), ← h]; simp
  · intro e
    subst e
    rw [show (tl s).drop s.size = [] from List.drop_eq_nil_of_le (by rw [size_l]; exact Nat.le_refl _), wordsG] at h
    unfold outW
    by_cases h0 : one.size = 0
    · rw [if_pos (hn.2 h0)] at h
      rw [if_neg (by omega), ← h]; simp
    · rw [if_neg (fun e => h0 (hn.1 e))] at h
      rw [if_pos (by omega), ← h]; simp

/-! ### where the first word begins -/
theorem lead_le : ∀ l : List UInt8, lead l ≤ l.length
  | [] => Nat.le_refl _
  | b :: r => by
    have := lead_le r
    rw [lead]; split <;> simp <;> omega
theorem rname6_spec (s : ByteArray) (hs : s.size ≤ 9223372036854775807) : Pure PG 65 [vs s] (vb (nameB s)) [] := by
  refine Proc.mk (cfg 10) tysOK [] Tryz.func65 rfl (by kernel_rfl) rfl rfl rfl ?_
  intro C x
  refine x.pure rfl trivial rfl (ref_name_spec s hs) ⟨rfl, trivial⟩ ?_
  refine x.pureG rfl trivial rfl (fun _ => refword_spec s) rfl ⟨rfl, trivial⟩ ?_
  refine x.exit rfl trivial ⟨.inr rfl, ?_, trivial, rfl⟩
  show VEq0 (vb (refNameV s && !wordB s)) (vb (nameB s))
  rw [nameB, name_eq]; exact rfl
end Go.Proofs.YtgnnglfbpcjadaaGreatDoor

/- Policies: the answer's: which may be. -/
namespace Go.Proofs.YtgnnglfbpcjadaaGreatDoor
open Go.Sx
set_option linter.unusedVariables false
set_option linter.unusedSimpArgs false
set_option maxRecDepth 100000

theorem dec_nc (a b : Nat) : decide ((a : Int) = (b : Int)) = decide (a = b) := by rw [decide_eq_decide]; omega
theorem rchans_spec (lev : List ByteArray) (l : List Chan) (hlev : inI64 (lev.length : Int)) (hl : inI64 (l.length : Int)) (hz : ∀ c ∈ l, c.1.size ≤ 9223372036854775807) :
    Pure PG 67 [.agg [vSs lev, .dead, .dead, .dead, .dead], vChs l] (vb (chansB lev.length l)) [] := by
  refine Proc.mk (cfg 52) tysOK [] Tryz.func67 rfl (by kernel_rfl) rfl rfl rfl ?_
  intro C x
  have hl0 := hl
  unfold inI64 at hl
  refine x.cond rfl trivial (fun h => ?_) (fun h => ?_)
  · have h : (32 : Int) < l.length := of_decide_eq_true h
    refine x.exit rfl trivial ⟨.inr rfl, ?_, trivial, rfl⟩
    rw [chansB, decide_eq_false (show ¬ l.length ≤ 32 by omega)]; exact rfl
  have h : ¬ (32 : Int) < l.length := of_decide_eq_false h
  have hle : l.length ≤ 32 := by omega
  refine x.loop (α := { i : Nat // i ≤ l.length ∧ allF (chnB lev.length l) (l.length - i) i = allF (chnB lev.length l) l.length 0 }) (fun y => ⟨[(1, vChs l), (2, .ptr 0 0), (5, vi (y.1 : Int))], [(0, .box [vSs lev, .dead, .dead, .dead, .dead])], 1⟩) (fun y => l.length - y.1) ⟨0, by omega, rfl⟩ rfl trivial ⟨⟨veq_d rfl, ⟨rfl, rfl⟩, rfl, trivial⟩, ⟨⟨veq0_d rfl, rfl, rfl, rfl, rfl, trivial⟩, trivial⟩, rfl⟩ (fun y => ?_)
  obtain ⟨i, hi, hsame⟩ := y
  change Go C _ ⟨[(1, vChs l), (2, .ptr 0 0), (5, vi (i : Int))], [(0, .box [vSs lev, .dead, .dead, .dead, .dead])], 1⟩ _
  refine x.cond rfl trivial (fun h1 => ?_) (fun h1 => ?_)
  · have h1 : i < l.length := by have := of_decide_eq_true h1; omega
    have hsz : (l.getD i chan0).1.size ≤ 9223372036854775807 := hz _ (by rw [List.getD_eq_getElem?_getD, List.getElem?_eq_getElem h1]; exact List.getElem_mem h1)
    rw [allF_step h1] at hsame
    refine x.quiet rfl trivial mixedP (by kernel_rfl) ?_
    refine x.qcall rfl (by simp only [AllP]; omega) rfl (rname6_spec (l.getD i chan0).1 hsz) rfl rfl ⟨rfl, trivial⟩ ?_
    refine x.qcallG rfl (by simp only [AllP]; intros; omega) rfl (fun _ => chn6_spec l (l.getD i chan0).1 hl0) rfl rfl ⟨veq_d rfl, rfl, trivial⟩ ?_
    refine x.qdone rfl (by simp only [AllP]; refine ⟨fun _ => by omega, fun _ => by omega⟩) ?_
    refine x.cond rfl trivial (fun h2 => ?_) (fun h2 => ?_)
    · have h2 : (((!nameB (l.getD i chan0).1 || !decide (idxC l (l.getD i chan0).1 = (i : Int))) || decide ((l.getD i chan0).2 < 0)) || decide ((lev.length : Int) ≤ (l.getD i chan0).2)) = true := h2
      have e : chnB lev.length l i = false := by
        rw [← notAny h2]
        unfold chnB
        rw [Bool.not_not, show (!decide ((l.getD i chan0).2 < 0)) = decide (0 ≤ (l.getD i chan0).2) by rw [← decide_not, decide_eq_decide]; omega, show (!decide ((lev.length : Int) ≤ (l.getD i chan0).2)) = decide ((l.getD i chan0).2 < (lev.length : Int)) by rw [← decide_not, decide_eq_decide]; omega]
      refine x.exit rfl trivial ⟨.inr rfl, ?_, trivial, rfl⟩
      rw [e, Bool.false_and] at hsame
      rw [chansB, ← hsame, Bool.and_false]; exact rfl
    · have h2 : (((!nameB (l.getD i chan0).1 || !decide (idxC l (l.getD i chan0).1 = (i : Int))) || decide ((l.getD i chan0).2 < 0)) || decide ((lev.length : Int) ≤ (l.getD i chan0).2)) = false := h2
      simp only [Bool.or_eq_false_iff, Bool.not_eq_false', decide_eq_false_iff_not, decide_eq_true_eq] at h2
      obtain ⟨⟨⟨e1, e2⟩, e3⟩, e4⟩ := h2
      have e : chnB lev.length l i = true := by
        unfold chnB
        rw [e1, decide_eq_true e2, decide_eq_true (show 0 ≤ (l.getD i chan0).2 by omega), decide_eq_true (show (l.getD i chan0).2 < (lev.length : Int) by omega)]; rfl
      rw [e, Bool.true_and] at hsame
      refine x.back rfl ?_ ⟨⟨i + 1, by omega, hsame⟩, by show l.length - (i + 1) < l.length - i; omega, ⟨veq_d rfl, ⟨rfl, rfl⟩, (show VEq0 (vi ((i : Int) + 1)) (vi ((i + 1 : Nat) : Int)) by rw [Int.natCast_add]; rfl), trivial⟩, ⟨⟨veq0_d rfl, rfl, rfl, rfl, rfl, trivial⟩, trivial⟩, rfl⟩
      simp only [AllP, inI64]; omega
  · have h1 : i = l.length := by have := of_decide_eq_false h1; omega
    refine x.exit rfl trivial ⟨.inr rfl, ?_, trivial, rfl⟩
    rw [h1, Nat.sub_self] at hsame
    rw [chansB, ← hsame, decide_eq_true hle]; exact rfl
set_option maxHeartbeats 2000000 in
theorem rright6_spec (p : Pol) (h : PolZ p) : Pure PG 45 [vPol p] (vb (rightP p)) [] := by
  obtain ⟨i1, i2, i3, i4⟩ := polSz_i64 h.toPolSz
  refine Proc.mk (cfg 62) tysOK [] Tryz.func45 rfl (by kernel_rfl) rfl rfl rfl ?_
  intro C x
  refine x.pureG rfl trivial rfl (fun _ => rright_spec p.up i2) rfl ⟨veq_d rfl, trivial⟩ ?_
  rw [right_eq]
  refine x.cond rfl trivial (fun h1 => ?_) (fun h1 => ?_)
  · have h1 : (((!decide ((p.lev.length : Int) = (p.up.length : Int)) || !rightM p.up) || decide (p.depth < 1)) || decide (64 < p.depth)) = true := h1
    refine x.exit rfl trivial ⟨.inr rfl, ?_, trivial, rfl⟩
    rw [dec_nc] at h1
    have e := notAny h1
    rw [Bool.not_not, show (!decide (p.depth < 1)) = decide (1 ≤ p.depth) by rw [← decide_not, decide_eq_decide]; omega, show (!decide (64 < p.depth)) = decide (p.depth ≤ 64) by rw [← decide_not, decide_eq_decide]; omega] at e
    rw [rightP, headB, e]; exact rfl
  have h1 : (((!decide ((p.lev.length : Int) = (p.up.length : Int)) || !rightM p.up) || decide (p.depth < 1)) || decide (64 < p.depth)) = false := h1
  simp only [Bool.or_eq_false_iff, Bool.not_eq_false', decide_eq_false_iff_not, decide_eq_true_eq] at h1
  obtain ⟨⟨⟨e1, e2⟩, e3⟩, e4⟩ := h1
  have eh : headB p = true := by
    unfold headB
    rw [e2, decide_eq_true (show p.lev.length = p.up.length by omega), decide_eq_true (show 1 ≤ p.depth by omega), decide_eq_true (show p.depth ≤ 64 by omega)]; rfl
  have hl := i1
  unfold inI64 at hl
  refine x.loop (α := { i : Nat // i ≤ p.lev.length ∧ allF (levB p.lev) (p.lev.length - i) i = allF (levB p.lev) p.lev.length 0 }) (fun y => ⟨[(1, .ptr 0 0), (3, vi (y.1 : Int))], [(0, polB p)], 1⟩) (fun y => p.lev.length - y.1) ⟨0, by omega, rfl⟩ rfl trivial ⟨⟨⟨rfl, rfl⟩, rfl, trivial⟩, ⟨polB_eq p, trivial⟩, rfl⟩ (fun y => ?_)
  obtain ⟨i, hi, hsame⟩ := y
  change Go C _ ⟨[(1, .ptr 0 0), (3, vi (i : Int))], [(0, polB p)], 1⟩ _
  refine x.cond rfl trivial (fun h1 => ?_) (fun h1 => ?_)
  · have h1 : i < p.lev.length := by have := of_decide_eq_true h1; omega
    have hsz : (p.lev.getD i .empty).size ≤ 9223372036854775807 := h.levZ _ (by rw [List.getD_eq_getElem?_getD, List.getElem?_eq_getElem h1]; exact List.getElem_mem h1)
    rw [allF_step h1] at hsame
    refine x.quiet rfl trivial mixedP (by kernel_rfl) ?_
    refine x.qcall rfl (by simp only [AllP]; omega) rfl (rname6_spec (p.lev.getD i .empty) hsz) rfl rfl ⟨rfl, trivial⟩ ?_
    refine x.qcallG rfl (by simp only [AllP]; intros; omega) rfl (fun _ => lev6_spec p.lev (p.lev.getD i .empty) i1) rfl rfl ⟨⟨veq0_d rfl, rfl, rfl, rfl, rfl, trivial⟩, rfl, trivial⟩ ?_
    refine x.qdone rfl trivial ?_
    refine x.cond rfl trivial (fun h2 => ?_) (fun h2 => ?_)
    · have h2 : (!nameB (p.lev.getD i .empty) || !decide (idxS p.lev (p.lev.getD i .empty) = (i : Int))) = true := h2
      have e : levB p.lev i = false := by
        unfold levB
        rw [← Bool.not_and, Bool.not_eq_true'] at h2
        exact h2
      refine x.exit rfl trivial ⟨.inr rfl, ?_, trivial, rfl⟩
      rw [e, Bool.false_and] at hsame
      rw [rightP, ← hsame, Bool.and_false]; exact rfl
    · have h2 : (!nameB (p.lev.getD i .empty) || !decide (idxS p.lev (p.lev.getD i .empty) = (i : Int))) = false := h2
      have e : levB p.lev i = true := by
        unfold levB
        rw [← Bool.not_and, Bool.not_eq_false'] at h2
        exact h2
      rw [e, Bool.true_and] at hsame
      refine x.back rfl ?_ ⟨⟨i + 1, by omega, hsame⟩, by show p.lev.length - (i + 1) < p.lev.length - i; omega, ⟨⟨rfl, rfl⟩, (show VEq0 (vi ((i : Int) + 1)) (vi ((i + 1 : Nat) : Int)) by rw [Int.natCast_add]; rfl), trivial⟩, ⟨polB_eq p, trivial⟩, rfl⟩
      simp only [AllP, inI64]; omega
  · have h1 : i = p.lev.length := by have := of_decide_eq_false h1; omega
    rw [h1, Nat.sub_self] at hsame
    have e : rightP p = (chansB p.lev.length p.ins && chansB p.lev.length p.outs) := by rw [rightP, ← hsame, eh]; rfl
    refine x.pure rfl trivial rfl (rchans_spec p.lev p.ins i1 i3 h.insZ) ⟨⟨veq0_d rfl, rfl, rfl, rfl, rfl, trivial⟩, veq_d rfl, trivial⟩ ?_
    refine x.pureG rfl trivial rfl (fun _ => rchans_spec p.lev p.outs i1 i4 h.outsZ) rfl ⟨⟨veq0_d rfl, rfl, rfl, rfl, rfl, trivial⟩, veq_d rfl, trivial⟩ ?_
    refine x.exit rfl trivial ⟨.inr rfl, ?_, trivial, rfl⟩
    rw [e]; exact rfl
end Go.Proofs.YtgnnglfbpcjadaaGreatDoor

/- Boxes: the answer's: what a box has left, takes, and is told. -/
namespace Go.Proofs.YtgnnglfbpcjadaaGreatDoor
open Go.Sx
set_option linter.unusedVariables false
set_option linter.unusedSimpArgs false
set_option maxRecDepth 100000

abbrev vBx (b : Bx) : V := .agg [vSs b.p.lev, vU b.p.up, vChs b.p.ins, vChs b.p.outs, vi b.p.depth, vRows b.rows, vInts b.taken, vEvs b.trace]
abbrev bxQ (b : Bx) : Ch := .box [vSs b.p.lev, vU b.p.up, vChs b.p.ins, vChs b.p.outs, vi b.p.depth, vRows b.rows, vInts b.taken, vEvs b.trace]
theorem bxQ_eq (b : Bx) : ChEq (bxQ b) (bxQ b) := ⟨veq0_d rfl, veq0_d rfl, veq0_d rfl, veq0_d rfl, rfl, veq0_d rfl, veq0_d rfl, veq0_d rfl, trivial⟩
theorem vBx_eq (b : Bx) : VEq (vBx b) (vBx b) := ⟨veq0_d rfl, veq0_d rfl, veq0_d rfl, veq0_d rfl, rfl, veq0_d rfl, veq0_d rfl, veq0_d rfl, trivial⟩
/-- What holds of a box of the answer's. -/
structure BqOK (b : Bx) : Prop where
  rows : RowsOK b.rows
  small : ∀ r ∈ b.rows, r.length ≤ 4096
  few : b.taken.length ≤ 32
  t0 : ∀ i, 0 ≤ b.taken.getD i 0 ∧ b.taken.getD i 0 ≤ ((b.rows.getD i []).length : Int)
  tr : b.trace.length ≤ 100000
theorem BqOK.row {b : Bx} (h : BqOK b) (i : Nat) : (b.rows.getD i []).length ≤ 4096 := by
  by_cases hi : i < b.rows.length
  · rw [List.getD_eq_getElem?_getD, List.getElem?_eq_getElem hi]; exact h.small _ (List.getElem_mem hi)
  · rw [List.getD_eq_getElem?_getD, List.getElem?_eq_none (by omega)]; exact Nat.zero_le _
def leftR (b : Bx) (k : Int) : Int := if k < 0 ∨ (b.taken.length : Int) ≤ k then 0 else ((b.rows.getD k.toNat []).length : Int) - b.taken.getD k.toNat 0
theorem left15_spec (b : Bx) (hb : BqOK b) (k : Int) (hk : inI64 k) : Pure PG 13 [vBx b, vi k] (vi (leftR b k)) [] := by
  refine Proc.mk (cfg 25) tysOK [] Tryz.func13 rfl (by kernel_rfl) rfl rfl rfl ?_
  intro C x
  have hfew := hb.few
  unfold inI64 at hk
  refine x.cond rfl trivial (fun h => ?_) (fun h => ?_)
  · have h : (decide (k < 0) || decide ((b.taken.length : Int) ≤ k)) = true := h
    simp only [Bool.or_eq_true, decide_eq_true_eq] at h
    refine x.exit rfl trivial ⟨.inr rfl, ?_, trivial, rfl⟩
    rw [leftR, if_pos h]; exact rfl
  have h : (decide (k < 0) || decide ((b.taken.length : Int) ≤ k)) = false := h
  simp only [Bool.or_eq_false_iff, decide_eq_false_iff_not] at h
  have h0 := hb.t0 k.toNat
  have h4 := hb.row k.toNat
  obtain ⟨n, rfl⟩ : ∃ n : Nat, k = n := ⟨k.toNat, by omega⟩
  rw [Int.toNat_natCast] at h0 h4
  refine x.every2 [] [0, 1, 2, 5, 6, 7, 8, 9] (.fork 3 (.fork 4 (.fork 10 (.fork 11 .leaf .no) .no) .no) .no)
    ⟨[(4, vi (((b.rows.getD n []).length : Int) - b.taken.getD n 0))], [], 1⟩ rfl trivial mixedP (by kernel_rfl) Ret.noPanic rfl (by simp only [AllP]; omega) (fun C2 x2 => ?_) ?_
  · refine ⟨x2.pure rfl trivial rfl (row15_spec b.rows n hb.rows) ⟨veq_d rfl, rfl, trivial⟩ (x2.back rfl trivial ⟨x2.back rfl trivial ⟨x2.back rfl (by simp only [AllP, inI64, Int.toNat_natCast]; omega) ⟨x2.back rfl trivial (Or.inl ⟨⟨rfl, trivial⟩, trivial, rfl⟩), trivial⟩, trivial⟩, trivial⟩), trivial⟩
  refine x.exit rfl trivial ⟨.inr rfl, ?_, trivial, rfl⟩
  rw [leftR, if_neg (by omega)]; exact rfl
/-- What is taken: the number, an error's number, how many are taken then. -/
def takeR (b : Bx) (k : Int) : Int × Int × List Int := if k < 0 ∨ (b.taken.length : Int) ≤ k then (0, 1, b.taken) else if leftR b k ≤ 0 then (0, 23, b.taken) else ((b.rows.getD k.toNat []).getD (b.taken.getD k.toNat 0).toNat 0, 0, b.taken.set k.toNat (b.taken.getD k.toNat 0 + 1))
theorem take15_spec (b : Bx) (hb : BqOK b) (k : Int) (hk : inI64 k) : Pure PG 11 [vBx b, vi k] (.tup [vBx { b with taken := (takeR b k).2.2 }, vi (takeR b k).1, vi (takeR b k).2.1]) [] := by
  refine Proc.mk (cfg 48) tysOK [] Tryz.func11 rfl (by kernel_rfl) rfl rfl rfl ?_
  intro C x
  have hfew := hb.few
  have hk0 := hk
  unfold inI64 at hk
  refine x.cond rfl trivial (fun h => ?_) (fun h => ?_)
  · have h : (decide (k < 0) || decide ((b.taken.length : Int) ≤ k)) = true := h
    simp only [Bool.or_eq_true, decide_eq_true_eq] at h
    refine x.exit rfl trivial ?_
    rw [takeR, if_pos h]
    exact ⟨.inr rfl, ⟨rfl, rfl, rfl, trivial⟩, trivial, rfl⟩
  have h : (decide (k < 0) || decide ((b.taken.length : Int) ≤ k)) = false := h
  simp only [Bool.or_eq_false_iff, decide_eq_false_iff_not] at h
  refine x.pure rfl trivial rfl (left15_spec b hb k hk0) ⟨vBx_eq b, rfl, trivial⟩ ?_
  refine x.cond rfl trivial (fun h2 => ?_) (fun h2 => ?_)
  · have h2 : leftR b k ≤ 0 := of_decide_eq_true h2
    refine x.exit rfl trivial ?_
    rw [takeR, if_neg (by omega), if_pos h2]
    exact ⟨.inr rfl, ⟨rfl, rfl, rfl, trivial⟩, trivial, rfl⟩
  have h2 : ¬ leftR b k ≤ 0 := of_decide_eq_false h2
  have h0 := hb.t0 k.toNat
  have h4 := hb.row k.toNat
  have hlt : b.taken.getD k.toNat 0 < ((b.rows.getD k.toNat []).length : Int) := by
    rw [leftR, if_neg (by omega)] at h2; omega
  rw [takeR, if_neg (by omega), if_neg h2]
  obtain ⟨n, rfl⟩ : ∃ n : Nat, k = n := ⟨k.toNat, by omega⟩
  rw [Int.toNat_natCast] at h0 h4 hlt ⊢
  refine x.code rfl (by simp only [AllP, big]; omega) ?_
  refine x.le (s' := ⟨[(1, vi (n : Int)), (2, .ptr 0 0), (4, .ptr 1 0)], [(0, .box [vSs b.p.lev, vU b.p.up, vChs b.p.ins, vChs b.p.outs, vi b.p.depth, vRows b.rows, .own 2, vEvs b.trace]), (1, .box [.dead, .dead, .dead, .dead, .dead, .dead, .dead, .dead]), (2, vecN b.taken)], 3⟩) ?_ ?_
  · refine ⟨⟨rfl, ⟨rfl, rfl⟩, ⟨rfl, rfl⟩, trivial⟩, ⟨⟨veq0_d rfl, veq0_d rfl, veq0_d rfl, veq0_d rfl, rfl, veq0_d rfl, rfl, veq0_d rfl, trivial⟩, ⟨rfl, rfl, rfl, rfl, rfl, rfl, rfl, rfl, trivial⟩, ⟨rfl, rfl, Nat.zero_add _, fun i hi => app0_1 _ i⟩, trivial⟩, rfl⟩
  refine x.every2 [] [0, 1, 2, 4, 5, 6, 7, 8] (.fork 3 (.fork 9 (.fork 10 (.fork 11 .leaf .no) .no) .no) .no)
    ⟨[(1, vi (n : Int)), (2, .ptr 0 0), (4, .ptr 1 0), (7, vi ((b.rows.getD n []).getD (b.taken.getD n 0).toNat 0))], [], 3⟩ rfl trivial mixedP (by kernel_rfl) Ret.noPanic rfl (by simp only [AllP, Int.toNat_natCast]; omega) (fun C2 x2 => ?_) ?_
  · refine ⟨x2.pure rfl trivial rfl (row15_spec b.rows n hb.rows) ⟨veq_d rfl, rfl, trivial⟩ (x2.back rfl trivial ⟨x2.back rfl (by simp only [AllP, Int.toNat_natCast]; omega) ⟨x2.back rfl trivial ⟨x2.back rfl trivial (Or.inl ⟨⟨rfl, ⟨rfl, rfl⟩, ⟨rfl, rfl⟩, rfl, trivial⟩, trivial, rfl⟩), trivial⟩, trivial⟩, trivial⟩), trivial⟩
  refine Go.atExit [2] ?_
  refine x.leExit ?_
  refine x.exit rfl (by simp only [AllP, inI64, Int.toNat_natCast, List.length_cons, List.length_nil]; omega) ⟨⟨[(4, .ptr 1 0), (5, vi ((b.rows.getD n []).getD (b.taken.getD n 0).toNat 0)), (6, vi 0)], [(1, .box [vSs b.p.lev, vU b.p.up, vChs b.p.ins, vChs b.p.outs, vi b.p.depth, vRows b.rows, .own 2, vEvs b.trace]), (2, vecN (b.taken.set n (b.taken.getD n 0 + 1)))], 3⟩, ⟨⟨⟨rfl, rfl⟩, rfl, rfl, trivial⟩, ⟨⟨veq0_d rfl, veq0_d rfl, veq0_d rfl, veq0_d rfl, rfl, veq0_d rfl, rfl, veq0_d rfl, trivial⟩, ⟨rfl, rfl, (List.length_set ..).symm, fun i hi => ?_⟩, trivial⟩, rfl⟩, .inr rfl, ⟨rfl, rfl, rfl, trivial⟩, trivial, rfl⟩
  rw [put2_int]
  show [D.int .i64 (if i = n then _ else _)] = [D.int .i64 ((b.taken.set n (b.taken.getD n 0 + 1)).getD i 0)]
  rw [set_get (by omega)]; rfl
/-- Good. -/
theorem app0_ev (f : Nat → Ev) (i : Nat) : app 0 (tab (List.replicate 0 (evD ev0))) (fun i => evD (f i)) i = evD (f i) := by
  unfold app
  show zipIte (i < 0) _ (evD (f (i - 0))) = _
  rw [zipIte_neg (by omega)]; rfl
theorem good15_spec (p : Pol) (e : Ev) : Pure PG 36 [vPol p, vEv e] (vb (goodB p e)) [] := by
  refine Proc.mk (cfg 37) tysOK [] Tryz.func36 rfl (by kernel_rfl) rfl rfl rfl ?_
  intro C x
  have key : ∀ most : Int, ((e.kind = 1 → most = (p.outs.length : Int)) ∧ (e.kind = 2 → most = (p.lev.length : Int)) ∧ (e.kind ≠ 1 → e.kind ≠ 2 → most = -1)) → (((decide (0 ≤ e.ref) && decide (e.ref < most)) && decide (0 ≤ e.fn)) && decide (0 ≤ e.at_)) = goodB p e := by
    intro most hm
    obtain ⟨m1, m2, m3⟩ := hm
    unfold goodB
    rw [Bool.eq_iff_iff]
    simp only [Bool.and_eq_true, Bool.or_eq_true, Bool.not_eq_true', Bool.or_eq_false_iff, decide_eq_true_eq, decide_eq_false_iff_not]
    by_cases c1 : e.kind = 1
    · have := m1 c1; omega
    · by_cases c2 : e.kind = 2
      · have := m2 c2; omega
      · have := m3 c1 c2; omega
  refine x.cond rfl trivial (fun h => ?_) (fun h => ?_)
  · have h : e.kind = 1 := of_decide_eq_true h
    refine x.cond rfl trivial (fun h2 => ?_) (fun h2 => ?_)
    · have h2 : e.kind = 2 := of_decide_eq_true h2
      omega
    · have h2 : ¬ e.kind = 2 := of_decide_eq_false h2
      refine x.exit rfl trivial ⟨.inr rfl, ?_, trivial, rfl⟩
      rw [← key (p.outs.length : Int) ⟨fun _ => rfl, fun c => absurd c h2, fun c => absurd h c⟩]; exact rfl
  · have h : ¬ e.kind = 1 := of_decide_eq_false h
    refine x.cond rfl trivial (fun h2 => ?_) (fun h2 => ?_)
    · have h2 : e.kind = 2 := of_decide_eq_true h2
      refine x.exit rfl trivial ⟨.inr rfl, ?_, trivial, rfl⟩
      rw [← key (p.lev.length : Int) ⟨fun c => absurd c h, fun _ => rfl, fun _ c => absurd h2 c⟩]; exact rfl
    · have h2 : ¬ e.kind = 2 := of_decide_eq_false h2
      refine x.exit rfl trivial ⟨.inr rfl, ?_, trivial, rfl⟩
      rw [← key (-1) ⟨fun c => absurd c h, fun c => absurd c h2, fun _ _ => rfl⟩]; exact rfl
abbrev putR (b : Bx) (e : Ev) : Int × List Ev := putN b e
set_option maxHeartbeats 4000000 in
theorem put15_spec (b : Bx) (hb : BqOK b) (e : Ev) : Pure PG 15 [vBx b, vEv e] (.tup [vBx { b with trace := (putR b e).2 }, vi (putR b e).1]) [] := by
  refine Proc.mk (cfg 21) tysOK [] Tryz.func15 rfl (by kernel_rfl) rfl rfl rfl ?_
  intro C x
  have htr := hb.tr
  refine x.pure rfl trivial rfl (good15_spec b.p e) ⟨⟨veq0_d rfl, veq0_d rfl, veq0_d rfl, veq0_d rfl, rfl, trivial⟩, ⟨rfl, rfl, rfl, rfl, rfl, trivial⟩, trivial⟩ ?_
  refine x.cond rfl trivial (fun h => ?_) (fun h => ?_)
  · have h : (!goodB b.p e) = true := h
    have h : goodB b.p e = false := by simpa using h
    refine x.exit rfl trivial ?_
    rw [putR, putN, h, if_neg (by simp)]
    exact ⟨.inr rfl, ⟨rfl, rfl, trivial⟩, trivial, rfl⟩
  have h : (!goodB b.p e) = false := h
  have h : goodB b.p e = true := by simpa using h
  rw [putR, putN, h, if_pos rfl]
  refine x.every2 [0] [1, 4] (.fork 0 (.fork 2 (.fork 3 (.fork 5 (.fork 6 (.fork 7 (.fork 8 .leaf .no) .no) .no) .no) (.fork 5 (.fork 3 (.fork 6 (.fork 7 (.fork 8 .leaf .no) .no) .no) .no) .no)) (.fork 5 (.fork 2 (.fork 3 (.fork 6 (.fork 7 (.fork 8 .leaf .no) .no) .no) .no) .no) .no)) (.fork 2 (.fork 0 (.fork 3 (.fork 5 (.fork 6 (.fork 7 (.fork 8 .leaf .no) .no) .no) .no) (.fork 5 (.fork 3 (.fork 6 (.fork 7 (.fork 8 .leaf .no) .no) .no) .no) .no)) (.fork 5 (.fork 0 (.fork 3 (.fork 6 (.fork 7 (.fork 8 .leaf .no) .no) .no) .no) .no) .no)) (.fork 5 (.fork 0 (.fork 2 (.fork 3 (.fork 6 (.fork 7 (.fork 8 .leaf .no) .no) .no) .no) .no) (.fork 2 (.fork 0 (.fork 3 (.fork 6 (.fork 7 (.fork 8 .leaf .no) .no) .no) .no) .no) .no)) .no)))
    ⟨[(2, .ptr 0 0), (4, .ptr 2 0)], [(0, .box [vSs b.p.lev, vU b.p.up, vChs b.p.ins, vChs b.p.outs, vi b.p.depth, vRows b.rows, vInts b.taken, .own 3]), (3, vecE (b.trace ++ [e]))], 5⟩ rfl trivial mixedP (by kernel_rfl) Ret.noPanic rfl trivial (fun C2 x2 => ?_) ?_
  · have fin : ∀ j, j < 0 + b.trace.length + 1 → app (0 + b.trace.length) (app 0 (tab (List.replicate 0 (evD ev0))) fun i => evD (b.trace.getD i ev0)) (fun _ => evD e) j = evD ((b.trace ++ [e]).getD j ev0) := by
      intro j hj
      have e0 : app 0 (tab (List.replicate 0 (evD ev0))) (fun i => evD (b.trace.getD i ev0)) = fun i => evD (b.trace.getD i ev0) := funext fun i => app0_ev _ i
      rw [e0, Nat.zero_add]
      rw [Nat.zero_add] at hj
      exact app_gen6 evD 5 (fun _ => rfl) ev0 b.trace e j hj
    repeat' first
      | exact True.intro
      | refine And.intro ?_ ?_
      | refine x2.back rfl trivial ?_
      | refine x2.back rfl (by simp only [AllP, big]; omega) ?_
      | exact Or.inl ⟨⟨⟨rfl, rfl⟩, ⟨rfl, rfl⟩, trivial⟩, ⟨⟨veq0_d rfl, veq0_d rfl, veq0_d rfl, veq0_d rfl, rfl, veq0_d rfl, veq0_d rfl, rfl, trivial⟩, ⟨rfl, rfl, by simp, fin⟩, trivial⟩, rfl⟩
      | exact Or.inr ⟨[0, 1, 2, 4, 3], rfl, ⟨⟨rfl, rfl⟩, ⟨rfl, rfl⟩, trivial⟩, ⟨⟨veq0_d rfl, veq0_d rfl, veq0_d rfl, veq0_d rfl, rfl, veq0_d rfl, veq0_d rfl, rfl, trivial⟩, ⟨rfl, rfl, by simp, fin⟩, trivial⟩, rfl⟩
  refine Sx.Go.freeze 3 ?_
  exact x.exit rfl trivial ⟨.inr rfl, ⟨rfl, rfl, trivial⟩, trivial, rfl⟩
theorem right15_spec (p : Pol) (hz : PolZ p) (l : Rows) (hl : RowsOK l) : Pure PG 32 [vPol p, vRows l] (vb (inB p l)) [] := by
  obtain ⟨i1, i2, i3, i4⟩ := polSz_i64 hz.toPolSz
  have hlen := hl.len
  refine Proc.mk (cfg 29) tysOK [] Tryz.func32 rfl (by kernel_rfl) rfl rfl rfl ?_
  intro C x
  refine x.pure rfl trivial rfl (rright6_spec p hz) ⟨⟨veq0_d rfl, veq0_d rfl, veq0_d rfl, veq0_d rfl, rfl, trivial⟩, trivial⟩ ?_
  refine x.cond rfl trivial (fun h => ?_) (fun h => ?_)
  · have h : (!rightP p || decide ((p.ins.length : Int) < (l.length : Int))) = true := h
    refine x.exit rfl trivial ⟨.inr rfl, ?_, trivial, rfl⟩
    have e : inB p l = false := by
      unfold inB
      rw [Bool.or_eq_true, Bool.not_eq_true', decide_eq_true_eq] at h
      rcases h with h | h
      · rw [h]; rfl
      · rw [decide_eq_false (show ¬ l.length ≤ p.ins.length by omega), Bool.and_false]; rfl
    rw [e]; exact rfl
  have h : (!rightP p || decide ((p.ins.length : Int) < (l.length : Int))) = false := h
  rw [Bool.or_eq_false_iff, Bool.not_eq_false', decide_eq_false_iff_not] at h
  obtain ⟨h1, h2⟩ := h
  have e : inB p l = allF (fun i => !longB l i) l.length 0 := by
    unfold inB
    rw [h1, decide_eq_true (show l.length ≤ p.ins.length by omega), Bool.true_and, Bool.true_and, Bool.eq_iff_iff, allF_iff, List.all_eq_true]
    constructor
    · intro hh i _ hi
      have hi : i < l.length := by omega
      have := hh _ (List.getElem_mem hi)
      have := of_decide_eq_true this
      unfold longB
      rw [List.getD_eq_getElem?_getD, List.getElem?_eq_getElem hi, Bool.not_eq_true', decide_eq_false_iff_not]
      show ¬ (4096 < ((l[i]).length : Int))
      omega
    · intro hh r hr
      obtain ⟨i, hi, rfl⟩ := List.getElem_of_mem hr
      have := hh i (Nat.zero_le _) (by omega)
      unfold longB at this
      rw [List.getD_eq_getElem?_getD, List.getElem?_eq_getElem hi, Bool.not_eq_true', decide_eq_false_iff_not] at this
      have : ¬ (4096 < ((l[i]).length : Int)) := this
      exact decide_eq_true (by omega)
  rw [e]
  refine x.loop (α := { i : Nat // i ≤ l.length ∧ allF (fun i => !longB l i) (l.length - i) i = allF (fun i => !longB l i) l.length 0 }) (fun y => ⟨[(1, vRows l), (5, vi (y.1 : Int))], [], 0⟩) (fun y => l.length - y.1) ⟨0, by omega, rfl⟩ rfl trivial ⟨⟨veq_d rfl, rfl, trivial⟩, trivial, rfl⟩ (fun y => ?_)
  obtain ⟨i, hi, hs⟩ := y
  change Go C _ ⟨[(1, vRows l), (5, vi (i : Int))], [], 0⟩ _
  refine x.cond rfl trivial (fun h1 => ?_) (fun h1 => ?_)
  · have h1 : i < l.length := by have := of_decide_eq_true h1; omega
    rw [allF_step h1] at hs
    refine x.cond rfl (by simp only [AllP]; omega) (fun h2 => ?_) (fun h2 => ?_)
    · have h2 : longB l i = true := h2
      refine x.exit rfl trivial ⟨.inr rfl, ?_, trivial, rfl⟩
      rw [← hs, h2]; exact rfl
    · have h2 : longB l i = false := h2
      rw [h2, Bool.not_false, Bool.true_and] at hs
      refine x.back rfl (by simp only [AllP, inI64]; omega) ⟨⟨i + 1, by omega, hs⟩, by show l.length - (i + 1) < l.length - i; omega, ⟨veq_d rfl, (show VEq0 (vi ((i : Int) + 1)) (vi ((i + 1 : Nat) : Int)) by rw [Int.natCast_add]; rfl), trivial⟩, trivial, rfl⟩
  · have h1 : i = l.length := by have := of_decide_eq_false h1; omega
    refine x.exit rfl trivial ⟨.inr rfl, ?_, trivial, rfl⟩
    rw [h1, Nat.sub_self] at hs
    rw [← hs]; exact rfl
theorem new15_no (p : Pol) (hz : PolZ p) (l : Rows) (hl : RowsOK l) (h : inB p l = false) : Pure PG 8 [vPol p, vRows l] (.tup [.agg [.dead, .dead, .dead, .dead, .dead, .dead, .dead, .dead], vi 1]) [] := by
  refine Proc.mk (cfg 18) tysOK [] Tryz.func8 rfl (by kernel_rfl) rfl rfl rfl ?_
  intro C x
  refine x.pure rfl trivial rfl (right15_spec p hz l hl) ⟨⟨veq0_d rfl, veq0_d rfl, veq0_d rfl, veq0_d rfl, rfl, trivial⟩, veq_d rfl, trivial⟩ ?_
  rw [h]
  refine x.cond rfl trivial (fun h => ?_) (fun h => ?_)
  · refine x.leExit ?_
    exact x.exit rfl trivial ⟨⟨[(4, .ptr 1 0), (5, vi 1)], [(1, .box [.dead, .dead, .dead, .dead, .dead, .dead, .dead, .dead])], 2⟩, ⟨⟨⟨rfl, rfl⟩, rfl, trivial⟩, ⟨⟨rfl, rfl, rfl, rfl, rfl, rfl, rfl, rfl, trivial⟩, trivial⟩, rfl⟩, .inr rfl, ⟨rfl, rfl, trivial⟩, trivial, rfl⟩
  · cases (show true = false from h)
theorem new15_spec (p : Pol) (hz : PolZ p) (l : Rows) (hl : RowsOK l) (h : inB p l = true) : Pure PG 8 [vPol p, vRows l] (.tup [vBx ⟨p, l, List.replicate p.ins.length 0, []⟩, vi 0]) [] := by
  obtain ⟨s1, s2, s3, s4⟩ := hz.toPolSz
  refine Proc.mk (cfg 18) tysOK [] Tryz.func8 rfl (by kernel_rfl) rfl rfl rfl ?_
  intro C x
  refine x.pure rfl trivial rfl (right15_spec p hz l hl) ⟨⟨veq0_d rfl, veq0_d rfl, veq0_d rfl, veq0_d rfl, rfl, trivial⟩, veq_d rfl, trivial⟩ ?_
  rw [h]
  refine x.cond rfl trivial (fun h => ?_) (fun _ => ?_)
  · cases (show false = true from h)
  refine x.every2 [1] [0, 1, 2, 3, 4] (.fork 5 (.fork 6 (.fork 7 (.fork 8 .leaf .no) .no) .no) .no)
    ⟨[(4, .ptr 1 0), (5, vi 0)], [(1, .box [vSs p.lev, vU p.up, vChs p.ins, vChs p.outs, vi p.depth, vRows l, .own 2, .nils]), (2, vecN (List.replicate p.ins.length 0))], 3⟩ rfl trivial mixedP (by kernel_rfl) Ret.noPanic rfl trivial (fun C2 x2 => ?_) ?_
  · repeat' first
      | exact True.intro
      | refine And.intro ?_ ?_
      | refine x2.back rfl trivial ?_
      | refine x2.back rfl (by simp only [AllP, big, Int.toNat_natCast]; omega) ?_
      | exact Or.inl ⟨⟨⟨rfl, rfl⟩, rfl, trivial⟩, ⟨⟨veq0_d rfl, veq0_d rfl, veq0_d rfl, veq0_d rfl, rfl, veq0_d rfl, rfl, trivial, trivial⟩, ⟨rfl, rfl, by simp, fun i hi => congrArg (fun z => [D.int .i64 z]) (rep0 _ i).symm⟩, trivial⟩, rfl⟩
  refine Sx.Go.freeze 2 ?_
  refine x.leExit ?_
  exact x.exit rfl trivial ⟨⟨[(4, .ptr 1 0), (5, vi 0)], [(1, bxQ ⟨p, l, List.replicate p.ins.length 0, []⟩)], 3⟩, ⟨⟨⟨rfl, rfl⟩, rfl, trivial⟩, ⟨⟨veq0_d rfl, veq0_d rfl, veq0_d rfl, veq0_d rfl, rfl, veq0_d rfl, veq0_d rfl, rfl, trivial⟩, trivial⟩, rfl⟩, .inr rfl, ⟨rfl, rfl, trivial⟩, trivial, rfl⟩
theorem events_spec (l : List Ev) (hl : l.length * 40 ≤ 140737488355328) : Pure PG 16 [vEvs l, vEvs l] (vb true) [] := by
  refine Proc.mk (cfg 26) tysOK [] Tryz.func16 rfl (by kernel_rfl) rfl rfl rfl ?_
  intro C x
  refine x.cond rfl trivial (fun h => ?_) (fun h => ?_)
  · have h : (!decide ((l.length : Int) = (l.length : Int))) = true := h
    simp at h
  refine x.loop (α := { i : Nat // i ≤ l.length }) (fun y => ⟨[(0, vEvs l), (1, vEvs l), (5, vi (y.1 : Int))], [], 0⟩) (fun y => l.length - y.1) ⟨0, Nat.zero_le _⟩ rfl trivial ⟨⟨veq_d rfl, veq_d rfl, rfl, trivial⟩, trivial, rfl⟩ (fun y => ?_)
  obtain ⟨i, hi⟩ := y
  change Go C _ ⟨[(0, vEvs l), (1, vEvs l), (5, vi (i : Int))], [], 0⟩ _
  refine x.cond rfl trivial (fun h1 => ?_) (fun h1 => ?_)
  · have h1 : i < l.length := by have := of_decide_eq_true h1; omega
    refine x.quiet rfl trivial mixedP (by kernel_rfl) ?_
    refine x.qdone rfl (by simp only [AllP]; omega) ?_
    refine x.cond rfl trivial (fun h2 => ?_) (fun h2 => ?_)
    · have h2 : (!(decide ((l.getD i ev0).kind = (l.getD i ev0).kind) && (decide ((l.getD i ev0).ref = (l.getD i ev0).ref) && (decide ((l.getD i ev0).val = (l.getD i ev0).val) && (decide ((l.getD i ev0).fn = (l.getD i ev0).fn) && (decide ((l.getD i ev0).at_ = (l.getD i ev0).at_) && true)))))) = true := h2
      simp at h2
    · refine x.back rfl (by simp only [AllP, inI64]; omega) ⟨⟨i + 1, by omega⟩, by show l.length - (i + 1) < l.length - i; omega, ⟨veq_d rfl, veq_d rfl, (show VEq0 (vi ((i : Int) + 1)) (vi ((i + 1 : Nat) : Int)) by rw [Int.natCast_add]; rfl), trivial⟩, trivial, rfl⟩
  · exact x.exit rfl trivial ⟨.inr rfl, rfl, trivial, rfl⟩
end Go.Proofs.YtgnnglfbpcjadaaGreatDoor

/- Boxes: the chapter's examples; the law QueueNil. -/
namespace Go.Proofs.YtgnnglfbpcjadaaGreatDoor
open Go.Sx
set_option linter.unusedVariables false
set_option linter.unusedSimpArgs false
set_option maxRecDepth 100000

theorem dq_ints {n : Nat} {f : Nat → List D} (l : List Int) (hl : l.length = n) (h : ∀ i, i < n → f i = [.int .i64 (l.getD i 0)]) : DQ (.sl 1 n f) (dInts l) := by
  subst hl
  refine .sl 1 _ _ _ (fun i hi => by rw [h i hi]) fun i j d d' hi hd hd' => ?_
  rw [h i hi] at hd
  rw [hd] at hd'
  cases hd'; exact .refl _
def exIn : Rows := [[7, 8]]
abbrev exB (P : Pol) (taken : List Int) : Bx := ⟨P, [[7, 8]], taken, []⟩
theorem exB_ok (P : Pol) {t : Int} (h0 : 0 ≤ t) (h2 : t ≤ 2) : BxOK (exB P [t]) := by
  refine ⟨⟨by show (1 : Nat) * 24 ≤ _; omega, ?_⟩, ?_, rfl, by show (1 : Nat) ≤ 32; omega, ?_, by show (0 : Nat) ≤ 100000; omega⟩
  · show ∀ r ∈ [[(7 : Int), 8]], r.length * 8 ≤ 140737488355328; decide
  · show ∀ r ∈ [[(7 : Int), 8]], r.length ≤ 4096; decide
  · intro i
    show 0 ≤ [t].getD i 0 ∧ [t].getD i 0 ≤ ((([[(7 : Int), 8]] : Rows).getD i []).length : Int)
    match i with
    | 0 => exact ⟨h0, h2⟩
    | i + 1 => simp
theorem ex_new {P : Pol} (hP : P.ins.length = 1) : newB P exIn = exB P [0] := by
  unfold newB rowsN
  rw [hP]; rfl
theorem ex_left (P : Pol) (t : Int) : leftN (exB P [t]) 0 = 2 - t := by
  unfold leftN
  rw [if_neg (show ¬ ((0 : Int) < 0 ∨ ((exB P [t]).rows.length : Int) ≤ 0) by show ¬ ((0 : Int) < 0 ∨ (1 : Int) ≤ 0); decide)]; rfl
theorem ex_take (P : Pol) {t n : Int} (h : (n, t) = (7, 0) ∨ (n, t) = (8, 1)) : takeN (exB P [t]) 0 = (n, 0, [t + 1]) := by
  unfold takeN
  rw [ex_left, if_neg (show ¬ ((0 : Int) < 0 ∨ ((exB P [t]).rows.length : Int) ≤ 0) by show ¬ ((0 : Int) < 0 ∨ (1 : Int) ≤ 0); decide)]
  rcases h with h | h <;> cases h <;> rfl
theorem ex_dry (P : Pol) : takeN (exB P [2]) 0 = (0, 23, [2]) := by
  unfold takeN
  rw [ex_left, if_neg (show ¬ ((0 : Int) < 0 ∨ ((exB P [2]).rows.length : Int) ≤ 0) by show ¬ ((0 : Int) < 0 ∨ (1 : Int) ≤ 0); decide)]
  rfl
theorem exP_z : PolZ (parseP exP).1 := by
  have h : (decide ((parseP exP).1.lev.length * 16 ≤ 140737488355328) && decide ((parseP exP).1.up.length * 8 ≤ 140737488355328) && decide ((parseP exP).1.ins.length * 24 ≤ 140737488355328) && decide ((parseP exP).1.outs.length * 24 ≤ 140737488355328) && (parseP exP).1.lev.all (fun s => decide (s.size ≤ 9223372036854775807)) && (parseP exP).1.ins.all (fun c => decide (c.1.size ≤ 9223372036854775807)) && (parseP exP).1.outs.all (fun c => decide (c.1.size ≤ 9223372036854775807))) = true := by decide +kernel
  simp only [Bool.and_eq_true, decide_eq_true_eq, List.all_eq_true] at h
  obtain ⟨⟨⟨⟨⟨⟨h1, h2⟩, h3⟩, h4⟩, h5⟩, h6⟩, h7⟩ := h
  exact ⟨⟨h1, h2, h3, h4⟩, h5, h6, h7⟩
theorem ex_alike : alikeB (parseP exP).1 0 [[1]] [] = true := by decide +kernel
theorem ex_in : inB (parseP exP).1 exIn = true := by decide +kernel
set_option maxHeartbeats 4000000 in
theorem awake15_spec : Pure PG 9 [] (vb true) [] := by
  refine Proc.mk (cfg 73) tysOK [] Tryz.func9 rfl (by kernel_rfl) rfl rfl rfl ?_
  intro C x
  have s1 : exP.size ≤ 9223372036854775807 := by show (72 : Nat) ≤ _; decide
  have eA := ex_alike
  have eI := ex_in
  have hin : (parseP exP).1.ins.length ≤ 32 := by rw [exP_e.2.2.1]; decide
  have hz := exP_z
  have e0 := exP_e.1
  have hP := exP_e.2.2.1
  have px := parse6_spec exP s1
  revert eA eI hin hz e0 hP px
  obtain ⟨q, hq⟩ : ∃ q, parseP exP = q := ⟨_, rfl⟩
  rw [hq]
  obtain ⟨P, eat, eno⟩ := q
  intro eA eI hin hz e0 hP px
  have e0 : eno = 0 := e0
  subst e0
  have eN := ex_new hP
  have T0 := take_spec (exB P [0]) (exB_ok P (by decide) (by decide)) 0 (by unfold inI64; omega)
  have T1 := take_spec (exB P [1]) (exB_ok P (by decide) (by decide)) 0 (by unfold inI64; omega)
  have T2 := take_spec (exB P [2]) (exB_ok P (by decide) (by decide)) 0 (by unfold inI64; omega)
  rw [ex_take P (t := 0) (n := 7) (.inl rfl)] at T0
  rw [ex_take P (t := 1) (n := 8) (.inr rfl)] at T1
  rw [ex_dry] at T2
  refine x.pure rfl trivial rfl px ⟨rfl, trivial⟩ ?_
  refine x.op rfl trivial ?_
  refine Sx.Go.freeze 1 ?_
  refine Sx.Go.dq 19 (dInts [7, 8]) rfl (dq_ints [7, 8] rfl fun i hi => by match i, hi with | 0, _ => rfl | 1, _ => rfl | i + 2, hi => omega) ?_
  refine x.op rfl trivial ?_
  refine Sx.Go.freeze 2 ?_
  refine x.pure rfl trivial rfl (new_spec P hz exIn ⟨by decide, by decide⟩ eI hin) ⟨⟨veq0_d rfl, veq0_d rfl, veq0_d rfl, veq0_d rfl, rfl, trivial⟩, ⟨rfl, fun _ => rfl, fun i hi => by match i, hi with | 0, _ => rfl | i + 1, hi => exact absurd hi (by omega)⟩, trivial⟩ ?_
  rw [eN]
  refine x.cond rfl trivial (fun h => ?_) (fun h => ?_)
  · cases (show false = true from h)
  refine x.call [3, 4, 5] rfl trivial rfl T0 rfl ⟨⟨rfl, rfl⟩, rfl, trivial⟩ ⟨⟨veq0_d rfl, rfl, veq0_d rfl, veq0_d rfl, veq0_d rfl, veq0_d rfl, rfl, rfl, trivial⟩, ⟨rfl, rfl, rfl, fun _ _ => rfl⟩, ⟨rfl, rfl, rfl, fun _ _ => rfl⟩, trivial⟩ ?_
  refine x.call [3, 4, 5] rfl trivial rfl T1 rfl ⟨⟨rfl, rfl⟩, rfl, trivial⟩ ⟨⟨veq0_d rfl, rfl, veq0_d rfl, veq0_d rfl, veq0_d rfl, veq0_d rfl, rfl, rfl, trivial⟩, ⟨rfl, rfl, rfl, fun _ _ => rfl⟩, ⟨rfl, rfl, rfl, fun _ _ => rfl⟩, trivial⟩ ?_
  refine x.call [3, 4, 5] rfl trivial rfl T2 rfl ⟨⟨rfl, rfl⟩, rfl, trivial⟩ ⟨⟨veq0_d rfl, rfl, veq0_d rfl, veq0_d rfl, veq0_d rfl, veq0_d rfl, rfl, rfl, trivial⟩, ⟨rfl, rfl, rfl, fun _ _ => rfl⟩, ⟨rfl, rfl, rfl, fun _ _ => rfl⟩, trivial⟩ ?_
  refine x.want rfl trivial rfl ?_ ?_
  · rfl
  refine x.op rfl trivial ?_
  refine Sx.Go.freeze 6 ?_
  refine Sx.Go.dq 69 (dInts [1]) rfl (dq_ints [1] rfl fun i hi => by match i, hi with | 0, _ => rfl | i + 1, hi => omega) ?_
  refine x.want rfl trivial rfl ?_ ?_
  · rfl
  refine x.op rfl trivial ?_
  refine Sx.Go.freeze 7 ?_
  refine x.pureG rfl trivial rfl (fun _ => alike_spec P hz 0 (by unfold inI64; omega) [[1]] [] ⟨by decide, by decide⟩ ⟨by decide, by decide⟩) rfl ?_ ?_
  · refine ⟨⟨veq0_d rfl, veq0_d rfl, veq0_d rfl, veq0_d rfl, rfl, trivial⟩, rfl, ?_, ?_, trivial⟩
    · refine ⟨rfl, fun _ => rfl, fun i hi => ?_⟩
      match i, hi with
      | 0, _ => rfl
      | i + 1, hi => exact absurd hi (by omega)
    · rfl
  rw [eA]
  refine x.exit rfl trivial ⟨.inr rfl, ?_, trivial, rfl⟩
  exact rfl
/-! ### the law -/
end Go.Proofs.YtgnnglfbpcjadaaGreatDoor

/- Boxes: any calls of any box; the law QueuePlays. -/
namespace Go.Proofs.YtgnnglfbpcjadaaGreatDoor
open Go.Sx
set_option linter.unusedVariables false
set_option linter.unusedSimpArgs false
set_option maxRecDepth 100000

theorem rcopy15_spec (l : Rows) (hl : RowsOK l) : Pure PG 7 [vRows l] (vRows l) [] := by
  have hlen := hl.len
  refine Proc.mk (cfg 21) tysOK [] Tryz.func7 rfl (by kernel_rfl) rfl rfl rfl ?_
  intro C x
  refine x.toLoop rfl trivial ?_
  refine Go.own 3 29 1 (fun i => [dInts (([] : Rows).getD i [])]) rfl ?_
  refine x.loop (α := { i : Nat // i ≤ l.length }) (fun y => ⟨[(0, vRows l), (3, .own 0), (4, vi (y.1 : Int))], [(0, vecR (l.take y.1))], 1⟩) (fun y => l.length - y.1) ⟨0, by omega⟩ rfl trivial ⟨⟨veq_d rfl, rfl, rfl, trivial⟩, ⟨⟨rfl, rfl, rfl, fun _ h => absurd h (Nat.not_lt_zero _)⟩, trivial⟩, rfl⟩ (fun y => ?_)
  obtain ⟨i, hi⟩ := y
  change Go C _ ⟨[(0, vRows l), (3, .own 0), (4, vi (i : Int))], [(0, vecR (l.take i))], 1⟩ _
  refine x.cond rfl trivial (fun h1 => ?_) (fun h1 => ?_)
  · have h1 : i < l.length := by have := of_decide_eq_true h1; omega
    have htl : (l.take i).length = i := by rw [List.length_take]; omega
    have hr := rows_at hl h1
    refine x.op rfl (by simp only [AllP, inI64, big, htl, Int.toNat_natCast]; omega) ?_
    refine Sx.Go.freeze 1 ?_
    refine Sx.Go.dq 17 (dInts (l.getD i [])) rfl (show DQ (D.sl 1 (0 + (l.getD i []).length) (app 0 (tab (List.replicate 0 [D.int IntKind.i64 0])) fun j => [D.int IntKind.i64 ((l.getD i []).getD j 0)])) (dInts (l.getD i [])) by rw [sl_app0 rfl (app0_1 _)]; exact .refl _) ?_
    refine x.back rfl (by simp only [AllP, inI64, big, htl]; omega) ⟨⟨i + 1, by omega⟩, by show l.length - (i + 1) < l.length - i; omega, ⟨veq_d rfl, rfl, (show VEq0 (vi ((i : Int) + 1)) (vi ((i + 1 : Nat) : Int)) by rw [Int.natCast_add]; rfl), trivial⟩, ⟨⟨rfl, rfl, ?_, fun j hj => ?_⟩, trivial⟩, rfl⟩
    · show (l.take i).length + 1 = (l.take (i + 1)).length
      rw [htl, List.length_take]; omega
    · have e : l[i]? = some (l.getD i []) := by rw [List.getD_eq_getElem?_getD, List.getElem?_eq_getElem h1]; rfl
      rw [take_succ e]
      exact app_gen6 (fun r : List Int => [dInts r]) 1 (fun _ => rfl) [] (l.take i) (l.getD i []) j hj
  · have h1 : i = l.length := by have := of_decide_eq_false h1; omega
    subst h1
    rw [List.take_length]
    refine Sx.Go.freeze 0 ?_
    exact x.exit rfl trivial ⟨.inr rfl, veq_d rfl, trivial, rfl⟩
theorem len_i64 {n : Nat} (h : n ≤ maxLen) : inI64 (n : Int) := by
  unfold maxLen at h
  unfold inI64; omega
/-! ### boxes go alike -/
structure PlI (p : Pol) (l : Rows) (t : List Int) (tr : List Ev) : Prop where
  len : t.length = p.ins.length
  t0 : ∀ i, 0 ≤ t.getD i 0 ∧ t.getD i 0 ≤ ((l.getD i []).length : Int)
theorem rowsN_get {p : Pol} {l : Rows} (h : l.length ≤ p.ins.length) (k : Nat) : (rowsN p l).getD k [] = l.getD k [] := by
  unfold rowsN
  by_cases hk : k < p.ins.length
  · rw [List.getD_eq_getElem?_getD, List.getElem?_map, List.getElem?_range hk]; rfl
  · rw [List.getD_eq_getElem?_getD, List.getD_eq_getElem?_getD, List.getElem?_eq_none (by simp; omega), List.getElem?_eq_none (by omega)]
abbrev bP (p : Pol) (l : Rows) (t : List Int) (tr : List Ev) : Bx := ⟨p, rowsN p l, t, tr⟩
abbrev bR (p : Pol) (l : Rows) (t : List Int) (tr : List Ev) : Bx := ⟨p, l, t, tr⟩
theorem left_same {p : Pol} {l : Rows} {t : List Int} {tr : List Ev} (h : l.length ≤ p.ins.length) (hi : PlI p l t tr) (k : Int) : leftN (bP p l t tr) k = leftR (bR p l t tr) k := by
  unfold leftN leftR
  show (if k < 0 ∨ ((rowsN p l).length : Int) ≤ k then (0 : Int) else (((rowsN p l).getD k.toNat []).length : Int) - t.getD k.toNat 0) = if k < 0 ∨ (t.length : Int) ≤ k then (0 : Int) else ((l.getD k.toNat []).length : Int) - t.getD k.toNat 0
  rw [rowsN_len, hi.len, rowsN_get h]
theorem left_ge {p : Pol} {l : Rows} {t : List Int} {tr : List Ev} (hi : PlI p l t tr) (k : Int) : 0 ≤ leftR (bR p l t tr) k := by
  unfold leftR
  have := hi.t0 k.toNat
  split
  · omega
  · show (0 : Int) ≤ ((l.getD k.toNat []).length : Int) - t.getD k.toNat 0
    omega
theorem take_same {p : Pol} {l : Rows} {t : List Int} {tr : List Ev} (h : l.length ≤ p.ins.length) (hi : PlI p l t tr) (k : Int) : takeN (bP p l t tr) k = takeR (bR p l t tr) k := by
  unfold takeN takeR
  rw [left_same h hi]
  have hge := left_ge hi k
  show (if k < 0 ∨ ((rowsN p l).length : Int) ≤ k then ((0 : Int), (1 : Int), t) else if leftR (bR p l t tr) k = 0 then (0, 23, t) else (((rowsN p l).getD k.toNat []).getD (t.getD k.toNat 0).toNat 0, 0, t.set k.toNat (t.getD k.toNat 0 + 1))) = if k < 0 ∨ (t.length : Int) ≤ k then (0, 1, t) else if leftR (bR p l t tr) k ≤ 0 then (0, 23, t) else ((l.getD k.toNat []).getD (t.getD k.toNat 0).toNat 0, 0, t.set k.toNat (t.getD k.toNat 0 + 1))
  rw [rowsN_len, hi.len, rowsN_get h]
  by_cases c : leftR (bR p l t tr) k = 0
  · rw [if_pos c, if_pos (show leftR (bR p l t tr) k ≤ 0 by omega)]
  · rw [if_neg c, if_neg (show ¬ leftR (bR p l t tr) k ≤ 0 by omega)]
theorem take_inv {p : Pol} {l : Rows} {t : List Int} {tr : List Ev} (hi : PlI p l t tr) (k : Int) : PlI p l (takeR (bR p l t tr) k).2.2 tr := by
  unfold takeR
  split
  · exact hi
  · rename_i h1
    split
    · exact hi
    · rename_i h2
      have h1 : ¬ (k < 0 ∨ (t.length : Int) ≤ k) := h1
      have h2 : 0 < ((l.getD k.toNat []).length : Int) - t.getD k.toNat 0 := by
        unfold leftR at h2
        rw [if_neg h1] at h2
        have h2 : ¬ ((l.getD k.toNat []).length : Int) - t.getD k.toNat 0 ≤ 0 := h2
        omega
      refine ⟨by show (t.set _ _).length = _; rw [List.length_set]; exact hi.len, fun i => ?_⟩
      show 0 ≤ (t.set k.toNat (t.getD k.toNat 0 + 1)).getD i 0 ∧ _
      rw [set_get (by omega)]
      have := hi.t0 i
      by_cases e : i = k.toNat
      · rw [if_pos e]
        subst e; omega
      · rw [if_neg e]; exact this
theorem bP_ok {p : Pol} {l : Rows} {t : List Int} {tr : List Ev} (hz : PolZ p) (hl : RowsOK l) (hB : inB p l = true) (hi : PlI p l t tr) (hp : p.ins.length ≤ 32) (htr : tr.length ≤ 100000) : BxOK (bP p l t tr) := by
  obtain ⟨b1, b2, b3⟩ := inB_facts hB
  have hr : ∀ r ∈ rowsN p l, r.length ≤ 4096 := fun r hr => by
    obtain ⟨k, hk, rfl⟩ := List.mem_map.1 hr
    by_cases hk : k < l.length
    · rw [List.getD_eq_getElem?_getD, List.getElem?_eq_getElem hk]; exact b3 _ (List.getElem_mem hk)
    · rw [List.getD_eq_getElem?_getD, List.getElem?_eq_none (by omega)]; exact Nat.zero_le _
  refine ⟨⟨by show (rowsN p l).length * 24 ≤ _; rw [rowsN_len]; omega, fun r h => by have := hr r h; omega⟩, hr, by show t.length = (rowsN p l).length; rw [rowsN_len]; exact hi.len, by show (rowsN p l).length ≤ 32; rw [rowsN_len]; exact hp, fun i => ?_, htr⟩
  show 0 ≤ t.getD i 0 ∧ t.getD i 0 ≤ (((rowsN p l).getD i []).length : Int)
  rw [rowsN_get b2]; exact hi.t0 i
theorem bR_ok {p : Pol} {l : Rows} {t : List Int} {tr : List Ev} (hl : RowsOK l) (hB : inB p l = true) (hi : PlI p l t tr) (hp : p.ins.length ≤ 32) (htr : tr.length ≤ 100000) : BqOK (bR p l t tr) := by
  obtain ⟨b1, b2, b3⟩ := inB_facts hB
  exact ⟨hl, b3, by show t.length ≤ 32; rw [hi.len]; exact hp, hi.t0, htr⟩
/-! ### the law -/
abbrev boxP (p : Pol) (l : Rows) : Ch := .box [vRows (rowsN p l), .own 2, vSs p.lev, vU p.up, vChs p.ins, vChs p.outs, vi p.depth, .own 3]
theorem boxP_eq (p : Pol) (l : Rows) : ChEq (boxP p l) (boxP p l) := ⟨veq0_d rfl, rfl, veq0_d rfl, veq0_d rfl, veq0_d rfl, veq0_d rfl, rfl, rfl, trivial⟩
theorem boxP_eq' (p : Pol) (l : Rows) (t : List Int) (tr : List Ev) : ChEq (boxP p l) ((boxC (bP p l t tr)).map (ren0 [1, 2, 3])) := ⟨veq0_d rfl, rfl, veq0_d rfl, veq0_d rfl, veq0_d rfl, veq0_d rfl, rfl, rfl, trivial⟩
theorem vecN_eq (t : List Int) : ChEq (vecN t) (vecN t) := ⟨rfl, rfl, rfl, fun _ _ => rfl⟩
theorem vecE_eq (t : List Ev) : ChEq (vecE t) (vecE t) := ⟨rfl, rfl, rfl, fun _ _ => rfl⟩
theorem vecN_eq' (t : List Int) : ChEq (vecN t) ((vecN t).map (ren0 [1, 2, 3])) := ⟨rfl, rfl, rfl, fun _ _ => rfl⟩
theorem vecE_eq' (t : List Ev) : ChEq (vecE t) ((vecE t).map (ren0 [1, 2, 3])) := ⟨rfl, rfl, rfl, fun _ _ => rfl⟩
abbrev callC (c : Call) : Ch := .box [vi c.kind, vi c.input, .d (.int .u8 c.ev.kind), vi c.ev.ref, vi c.ev.val, vi c.ev.fn, vi c.ev.at_]
set_option maxHeartbeats 16000000 in
theorem plays_spec (p : Pol) (hz : PolZ p) (l : Rows) (hl : RowsOK l) (cs : List Call) (hc : ∀ c ∈ cs, CallOK c) (hcl : inI64 (cs.length : Int)) : Pure PG 3 [vPol p, vRows l, .d (dCalls cs)] (vb true) [] := by
  have hlen := hl.len
  refine Proc.mk (cfg 154) tysOK [] Tryz.func3 rfl (by kernel_rfl) rfl rfl rfl ?_
  intro C x
  refine x.cond rfl trivial (fun h => ?_) (fun h => ?_)
  · exact x.exit rfl trivial ⟨.inr rfl, rfl, trivial, rfl⟩
  have h : (decide (100 < (cs.length : Int)) || decide (40 < (l.length : Int))) = false := h
  rw [Bool.or_eq_false_iff, decide_eq_false_iff_not, decide_eq_false_iff_not] at h
  obtain ⟨hcs, h40⟩ := h
  refine x.loop (α := { i : Nat // i ≤ l.length }) (fun y => ⟨[(1, vRows l), (2, .d (dCalls cs)), (3, .ptr 0 0), (7, vi (y.1 : Int))], [(0, polB p)], 1⟩) (fun y => l.length - y.1) ⟨0, by omega⟩ rfl trivial ⟨⟨veq_d rfl, veq_d rfl, ⟨rfl, rfl⟩, rfl, trivial⟩, ⟨polB_eq p, trivial⟩, rfl⟩ (fun y => ?_)
  obtain ⟨i, hi⟩ := y
  change Go C _ ⟨[(1, vRows l), (2, .d (dCalls cs)), (3, .ptr 0 0), (7, vi (i : Int))], [(0, polB p)], 1⟩ _
  refine x.cond rfl trivial (fun h1 => ?_) (fun h1 => ?_)
  · have h1 : i < l.length := by have := of_decide_eq_true h1; omega
    refine x.cond rfl (by simp only [AllP]; omega) (fun h2 => ?_) (fun h2 => ?_)
    · exact x.exit rfl trivial ⟨.inr rfl, rfl, trivial, rfl⟩
    · exact x.back rfl (by simp only [AllP, inI64]; omega) ⟨⟨i + 1, by omega⟩, by show l.length - (i + 1) < l.length - i; omega, ⟨veq_d rfl, veq_d rfl, ⟨rfl, rfl⟩, (show VEq0 (vi ((i : Int) + 1)) (vi ((i + 1 : Nat) : Int)) by rw [Int.natCast_add]; rfl), trivial⟩, ⟨polB_eq p, trivial⟩, rfl⟩
  refine x.pure rfl trivial rfl (copy6_spec p hz.toPolSz) ⟨⟨veq0_d rfl, veq0_d rfl, veq0_d rfl, veq0_d rfl, rfl, trivial⟩, trivial⟩ ?_
  refine x.pure rfl trivial rfl (rcopy15_spec l hl) ⟨veq_d rfl, trivial⟩ ?_
  cases hB : inB p l with
  | false =>
    refine x.pure rfl trivial rfl (new_no p hz l hl hB) ⟨⟨veq0_d rfl, veq0_d rfl, veq0_d rfl, veq0_d rfl, rfl, trivial⟩, veq_d rfl, trivial⟩ ?_
    refine x.pure rfl trivial rfl (new15_no p hz l hl hB) ⟨⟨veq0_d rfl, veq0_d rfl, veq0_d rfl, veq0_d rfl, rfl, trivial⟩, veq_d rfl, trivial⟩ ?_
    refine x.cond rfl (by simp [AllP]) (fun h => ?_) (fun h => ?_)
    · cases (show false = true from h)
    refine x.cond rfl trivial (fun h => ?_) (fun h => ?_)
    · refine x.pure rfl trivial rfl awake15_spec trivial ?_
      exact x.exit rfl trivial ⟨.inr rfl, rfl, trivial, rfl⟩
    · cases (show true = false from h)
  | true =>
    obtain ⟨b1, b2, b3⟩ := inB_facts hB
    have hp := (rgt_p b1).il
    refine x.pure rfl trivial rfl (new_spec p hz l hl hB hp) ⟨⟨veq0_d rfl, veq0_d rfl, veq0_d rfl, veq0_d rfl, rfl, trivial⟩, veq_d rfl, trivial⟩ ?_
    refine x.pure rfl trivial rfl (new15_spec p hz l hl hB) ⟨⟨veq0_d rfl, veq0_d rfl, veq0_d rfl, veq0_d rfl, rfl, trivial⟩, veq_d rfl, trivial⟩ ?_
    refine x.cond rfl (by simp [AllP]) (fun h => ?_) (fun h => ?_)
    · cases (show false = true from h)
    refine x.cond rfl trivial (fun h => ?_) (fun h => ?_)
    · cases (show false = true from h)
    have hcl2 := hcl
    unfold inI64 at hcl2
    refine x.loop (α := { y : Nat × List Int × List Ev // y.1 ≤ cs.length ∧ PlI p l y.2.1 y.2.2 ∧ y.2.2.length ≤ y.1 }) (fun y => ⟨[(2, .d (dCalls cs)), (8, .ptr 1 0), (10, .ptr 4 0), (12, vi (y.1.1 : Int))], [(1, boxP p l), (2, vecN y.1.2.1), (3, vecE y.1.2.2), (4, bxQ (bR p l y.1.2.1 y.1.2.2))], 5⟩) (fun y => cs.length - y.1.1) ⟨(0, List.replicate p.ins.length 0, []), Nat.zero_le _, ⟨List.length_replicate .., fun i => ?_⟩, Nat.zero_le _⟩ rfl trivial ?_ (fun y => ?_)
    · rw [rep0]; exact ⟨Int.le_refl _, Int.natCast_nonneg _⟩
    · exact ⟨⟨veq_d rfl, ⟨rfl, rfl⟩, ⟨rfl, rfl⟩, rfl, trivial⟩, ⟨boxP_eq p l, vecN_eq _, vecE_eq _, bxQ_eq _, trivial⟩, rfl⟩
    obtain ⟨⟨i, t, tr⟩, hi, hI, htr⟩ := y
    have hi : i ≤ cs.length := hi
    have htr : tr.length ≤ i := htr
    have hok := bP_ok hz hl hB hI hp (by omega)
    have hoq := bR_ok hl hB hI hp (by omega)
    change Go C _ ⟨[(2, .d (dCalls cs)), (8, .ptr 1 0), (10, .ptr 4 0), (12, vi (i : Int))], [(1, boxP p l), (2, vecN t), (3, vecE tr), (4, bxQ (bR p l t tr))], 5⟩ _
    refine x.cond rfl trivial (fun h1 => ?_) (fun h1 => ?_)
    rotate_left
    · refine x.every2 [1, 2, 3] [0, 2, 3] (.fork 1 (.fork 4 (.fork 5 (.fork 6 (.fork 7 (.fork 8 .leaf .no) .no) .no) .no) .no) .no)
        ⟨[(6, vb true)], [], 5⟩ rfl trivial mixedP (by kernel_rfl) Ret.noPanic rfl trivial (fun C2 x2 => ?_) ?_
      · refine ⟨x2.call [1, 2, 3] rfl trivial rfl (trace_spec (bP p l t tr) hok) rfl ⟨⟨rfl, rfl⟩, trivial⟩ ⟨boxP_eq' p l t tr, vecN_eq' _, vecE_eq' _, trivial⟩ (x2.back rfl trivial ⟨?_, trivial⟩), trivial⟩
        refine x2.pure rfl trivial rfl (events_spec tr (by omega)) ⟨veq_d rfl, veq_d rfl, trivial⟩ (x2.back rfl trivial ⟨x2.back rfl trivial ⟨?_, trivial⟩, trivial⟩)
        refine x2.pureG rfl trivial rfl (fun _ => awake15_spec) rfl trivial (x2.back rfl trivial ⟨x2.back rfl trivial ⟨x2.back rfl trivial (.inl ⟨⟨rfl, trivial⟩, trivial, rfl⟩), trivial⟩, trivial⟩)
      exact x.exit rfl trivial ⟨.inr rfl, rfl, trivial, rfl⟩
    have h1 : i < cs.length := by have := of_decide_eq_true h1; omega
    have hcc : CallOK (cs.getD i call0) := hc _ (by rw [List.getD_eq_getElem?_getD, List.getElem?_eq_getElem h1]; exact List.getElem_mem h1)
    have q1 := Int.lt_tmod_of_pos (cs.getD i call0).kind (show (0 : Int) < 4 by decide)
    have q2 := Int.tmod_lt_of_pos (cs.getD i call0).kind (show (0 : Int) < 4 by decide)
    refine x.cond rfl (by simp only [AllP, inI64, Int.toNat_natCast]; omega) (fun h2 => ?_) (fun h2 => ?_)
    · -- Take
      have hT := take_same b2 hI (tr := tr) (cs.getD i call0).input
      have hTi := take_inv (tr := tr) hI (cs.getD i call0).input
      have sT := take_spec (bP p l t tr) hok (cs.getD i call0).input hcc.input
      have sR := take15_spec (bR p l t tr) hoq (cs.getD i call0).input hcc.input
      rw [hT] at sT
      obtain ⟨q, hq⟩ : ∃ q, takeR (bR p l t tr) (cs.getD i call0).input = q := ⟨_, rfl⟩
      rw [hq] at sT sR hTi
      obtain ⟨n, e, t'⟩ := q
      refine x.call [1, 2, 3] rfl trivial rfl sT rfl ⟨⟨rfl, rfl⟩, rfl, trivial⟩ ⟨boxP_eq' p l t tr, vecN_eq' _, vecE_eq' _, trivial⟩ ?_
      refine x.pure rfl trivial rfl sR ⟨⟨veq0_d rfl, veq0_d rfl, veq0_d rfl, veq0_d rfl, rfl, veq0_d rfl, veq0_d rfl, veq0_d rfl, trivial⟩, rfl, trivial⟩ ?_
      refine x.cond rfl trivial (fun h3 => ?_) (fun h3 => ?_)
      · have h3 : (!decide (n = n) || !decide (e = e)) = true := h3
        simp at h3
      · exact x.back rfl (by simp only [AllP, inI64]; omega) ⟨⟨(i + 1, t', tr), h1, hTi, by show (tr).length ≤ i + 1; omega⟩, by show cs.length - (i + 1) < cs.length - i; omega, ⟨veq_d rfl, ⟨rfl, rfl⟩, ⟨rfl, rfl⟩, (show VEq0 (vi ((i : Int) + 1)) (vi ((i + 1 : Nat) : Int)) by rw [Int.natCast_add]; rfl), trivial⟩, ⟨boxP_eq p l, vecN_eq _, vecE_eq _, bxQ_eq _, trivial⟩, rfl⟩
    refine x.cond rfl trivial (fun h3 => ?_) (fun h3 => ?_)
    · -- Left
      refine x.every2 [1, 2, 3] [0, 1, 2, 4, 5, 6] (.fork 3 (.fork 7 (.fork 8 .leaf .no) .no) .no)
        ⟨[(2, .d (dCalls cs)), (8, .ptr 1 0), (10, .ptr 4 0), (12, vi (i : Int)), (120, vb false)], [(1, boxP p l), (2, vecN t), (3, vecE tr)], 6⟩ rfl trivial mixedP (by kernel_rfl) Ret.noPanic rfl trivial (fun C2 x2 => ?_) ?_
      · refine ⟨x2.call [1, 2, 3] rfl trivial rfl (bleft_spec (bP p l t tr) hok (cs.getD i call0).input hcc.input) rfl ⟨⟨rfl, rfl⟩, rfl, trivial⟩ ⟨boxP_eq' p l t tr, vecN_eq' _, vecE_eq' _, trivial⟩ (x2.back rfl trivial ⟨?_, trivial⟩), trivial⟩
        refine x2.pure rfl trivial rfl (left15_spec (bR p l t tr) hoq (cs.getD i call0).input hcc.input) ⟨⟨veq0_d rfl, veq0_d rfl, veq0_d rfl, veq0_d rfl, rfl, veq0_d rfl, veq0_d rfl, veq0_d rfl, trivial⟩, rfl, trivial⟩ (x2.back rfl trivial ⟨x2.back rfl trivial (.inl ⟨⟨veq_d rfl, ⟨rfl, rfl⟩, ⟨rfl, rfl⟩, rfl, ?_, trivial⟩, ⟨boxP_eq p l, vecN_eq _, vecE_eq _, trivial⟩, rfl⟩), trivial⟩)
        show VEq0 (vb (!decide (leftN (bP p l t tr) (cs.getD i call0).input = leftR (bR p l t tr) (cs.getD i call0).input))) (vb false)
        rw [left_same b2 hI, decide_eq_true rfl]; exact rfl
      refine x.cond rfl trivial (fun h => ?_) (fun h => ?_)
      · cases (show false = true from h)
      exact x.back rfl (by simp only [AllP, inI64]; omega) ⟨⟨(i + 1, t, tr), h1, hI, by show tr.length ≤ i + 1; omega⟩, by show cs.length - (i + 1) < cs.length - i; omega, ⟨veq_d rfl, ⟨rfl, rfl⟩, ⟨rfl, rfl⟩, (show VEq0 (vi ((i : Int) + 1)) (vi ((i + 1 : Nat) : Int)) by rw [Int.natCast_add]; rfl), trivial⟩, ⟨boxP_eq p l, vecN_eq _, vecE_eq _, bxQ_eq _, trivial⟩, rfl⟩
    refine x.cond rfl trivial (fun h4 => ?_) (fun h4 => ?_)
    · -- Put
      have sP := put_spec (bP p l t tr) hok (cs.getD i call0).ev
      have sR := put15_spec (bR p l t tr) hoq (cs.getD i call0).ev
      have hq2 : putN (bP p l t tr) (cs.getD i call0).ev = putR (bR p l t tr) (cs.getD i call0).ev := rfl
      rw [hq2] at sP
      have hl2 : (putR (bR p l t tr) (cs.getD i call0).ev).2.length ≤ tr.length + 1 := by
        unfold putR putN
        split
        · show (tr ++ [_]).length ≤ _; simp
        · show tr.length ≤ _; omega
      obtain ⟨q, hq⟩ : ∃ q, putR (bR p l t tr) (cs.getD i call0).ev = q := ⟨_, rfl⟩
      rw [hq] at sP sR hl2
      obtain ⟨e, tr'⟩ := q
      have hl2 : tr'.length ≤ tr.length + 1 := hl2
      refine x.call [1, 2, 3] rfl trivial rfl sP rfl ⟨⟨rfl, rfl⟩, ⟨rfl, rfl, rfl, rfl, rfl, trivial⟩, trivial⟩ ⟨boxP_eq' p l t tr, vecN_eq' _, vecE_eq' _, trivial⟩ ?_
      refine x.pure rfl trivial rfl sR ⟨⟨veq0_d rfl, veq0_d rfl, veq0_d rfl, veq0_d rfl, rfl, veq0_d rfl, veq0_d rfl, veq0_d rfl, trivial⟩, ⟨rfl, rfl, rfl, rfl, rfl, trivial⟩, trivial⟩ ?_
      refine x.cond rfl trivial (fun h5 => ?_) (fun h5 => ?_)
      · have h5 : (!decide (e = e)) = true := h5
        simp at h5
      · exact x.back rfl (by simp only [AllP, inI64]; omega) ⟨⟨(i + 1, t, tr'), h1, ⟨hI.len, hI.t0⟩, by show (tr').length ≤ i + 1; omega⟩, by show cs.length - (i + 1) < cs.length - i; omega, ⟨veq_d rfl, ⟨rfl, rfl⟩, ⟨rfl, rfl⟩, (show VEq0 (vi ((i : Int) + 1)) (vi ((i + 1 : Nat) : Int)) by rw [Int.natCast_add]; rfl), trivial⟩, ⟨boxP_eq p l, vecN_eq _, vecE_eq _, bxQ_eq _, trivial⟩, rfl⟩
    refine x.cond rfl trivial (fun h5 => ?_) (fun h5 => ?_)
    · -- Trace
      refine x.every2 [1, 2, 3] [0, 2, 3] (.fork 1 (.fork 4 (.fork 5 .leaf .no) .no) .no)
        ⟨[(2, .d (dCalls cs)), (8, .ptr 1 0), (10, .ptr 4 0), (12, vi (i : Int)), (145, vb false)], [(1, boxP p l), (2, vecN t), (3, vecE tr)], 6⟩ rfl trivial mixedP (by kernel_rfl) Ret.noPanic rfl trivial (fun C2 x2 => ?_) ?_
      · refine ⟨x2.call [1, 2, 3] rfl trivial rfl (trace_spec (bP p l t tr) hok) rfl ⟨⟨rfl, rfl⟩, trivial⟩ ⟨boxP_eq' p l t tr, vecN_eq' _, vecE_eq' _, trivial⟩ (x2.back rfl trivial ⟨?_, trivial⟩), trivial⟩
        refine x2.pure rfl trivial rfl (events_spec tr (by omega)) ⟨veq_d rfl, veq_d rfl, trivial⟩ (x2.back rfl trivial ⟨x2.back rfl trivial (.inl ⟨⟨veq_d rfl, ⟨rfl, rfl⟩, ⟨rfl, rfl⟩, rfl, rfl, trivial⟩, ⟨boxP_eq p l, vecN_eq _, vecE_eq _, trivial⟩, rfl⟩), trivial⟩)
      refine x.cond rfl trivial (fun h => ?_) (fun h => ?_)
      · cases (show false = true from h)
      exact x.back rfl (by simp only [AllP, inI64]; omega) ⟨⟨(i + 1, t, tr), h1, hI, by show tr.length ≤ i + 1; omega⟩, by show cs.length - (i + 1) < cs.length - i; omega, ⟨veq_d rfl, ⟨rfl, rfl⟩, ⟨rfl, rfl⟩, (show VEq0 (vi ((i : Int) + 1)) (vi ((i + 1 : Nat) : Int)) by rw [Int.natCast_add]; rfl), trivial⟩, ⟨boxP_eq p l, vecN_eq _, vecE_eq _, bxQ_eq _, trivial⟩, rfl⟩
    exact x.back rfl (by simp only [AllP, inI64]; omega) ⟨⟨(i + 1, t, tr), h1, hI, by show tr.length ≤ i + 1; omega⟩, by show cs.length - (i + 1) < cs.length - i; omega, ⟨veq_d rfl, ⟨rfl, rfl⟩, ⟨rfl, rfl⟩, (show VEq0 (vi ((i : Int) + 1)) (vi ((i + 1 : Nat) : Int)) by rw [Int.natCast_add]; rfl), trivial⟩, ⟨boxP_eq p l, vecN_eq _, vecE_eq _, bxQ_eq _, trivial⟩, rfl⟩
end Go.Proofs.YtgnnglfbpcjadaaGreatDoor
