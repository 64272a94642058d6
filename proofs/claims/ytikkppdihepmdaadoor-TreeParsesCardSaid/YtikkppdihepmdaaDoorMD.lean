/- Texts put together: T07W, T07X, T07Y, T07Z, T17A, T17B, T17D, T17E. -/
import Derived.Test.YtikkppdihepmdaaDoorMC
import Derived.Test.YtikkppdihepmdaaDoorSxG

/- The answer's parser: what it makes of a state, plain; and how it goes on behind a fault. -/
namespace Go.Proofs.YtikkppdihepmdaaDoor
open Go.Sx
set_option linter.unusedVariables false
set_option linter.unusedSimpArgs false
set_option maxRecDepth 100000

def namesRF (s : ByteArray) (l : List Tok) : Nat → Rd → List ByteArray → List ByteArray × Rd
  | 0, r, out => (out, r)
  | f + 1, r, out =>
    if r.e = 0 then
      let t := takeR s l (if isR l r 1 = true ∧ 6 ≤ out.length then failR s l r 3 else r) 1
      if (textR s l t.2 0).data.toList = [44] then namesRF s l f (goR t.2) (out ++ [t.1]) else (out ++ [t.1], t.2)
    else (out, r)
def namesR (s : ByteArray) (l : List Tok) (r : Rd) : List ByteArray × Rd :=
  let r1 := needR s l r [40]
  if (textR s l r1 0).data.toList = [41] then ([], goR r1)
  else let q := namesRF s l (l.length + 2) r1 []; (q.1, needR s l q.2 [41])
def pairsRF (s : ByteArray) (l : List Tok) : Nat → Rd → Ins → Ins × Rd
  | 0, r, x => (x, r)
  | f + 1, r, x =>
    if r.e = 0 then
      let a := takeR s l (if isR l r 1 = true ∧ 64 ≤ x.frm.length then failR s l r 3 else r) 1
      let b := takeR s l (needR s l a.2 [58]) 1
      let y : Ins := { x with frm := x.frm ++ [a.1], args := x.args ++ [b.1] }
      if (textR s l b.2 0).data.toList = [44] then pairsRF s l f (goR b.2) y else (y, b.2)
    else (x, r)
def phiR (s : ByteArray) (l : List Tok) (r : Rd) (x : Ins) : Ins × Rd :=
  let q := pairsRF s l (l.length + 2) (needR s l r [91]) x; (q.1, needR s l q.2 [93])
def kindW (w : List UInt8) : Int :=
  if w = [99, 111, 110, 115, 116] then 1 else if w = [112, 104, 105] then 3 else if w = [108, 111, 97, 100] then 4 else if w = [119, 114, 97, 112] then 5 else if w = [99, 97, 108, 108] then 7 else if w = [105, 110, 112, 117, 116] then 8 else if w = [114, 101, 108, 101, 97, 115, 101] then 10 else 0
def valueR (s : ByteArray) (l : List Tok) (r : Rd) (x : Ins) : Ins × Rd :=
  let w := textR s l r 0
  if opV w = 0 ∧ kindW w.data.toList = 0 then (x, failR s l r 7)
  else
    let r1 := goR r
    if opV w ≠ 0 then
      let a := takeR s l r1 1
      let b := takeR s l a.2 1
      ({ x with kind := 2, op := (opV w : Int), args := [a.1, b.1] }, b.2)
    else
      let x : Ins := { x with kind := kindW w.data.toList }
      if w.data.toList = [99, 111, 110, 115, 116] then
        let t := takeR s l r1 3
        ({ x with num := (refNumV t.1).1 }, t.2)
      else if w.data.toList = [112, 104, 105] then phiR s l r1 x
      else if w.data.toList = [108, 111, 97, 100] ∨ w.data.toList = [119, 114, 97, 112] then
        let a := takeR s l r1 1
        let b := takeR s l a.2 1
        ({ x with ref := a.1, args := [b.1] }, b.2)
      else if w.data.toList = [99, 97, 108, 108] then
        let a := takeR s l r1 1
        let b := namesR s l a.2
        ({ x with ref := a.1, args := b.1 }, b.2)
      else if w.data.toList = [105, 110, 112, 117, 116] then
        let a := takeR s l r1 1
        ({ x with ref := a.1 }, a.2)
      else
        let a := takeR s l r1 1
        let b := takeR s l a.2 1
        ({ x with args := [a.1], ref := b.1 }, b.2)
def kindA (w : List UInt8) : Int :=
  if w = [115, 116, 111, 114, 101] then 6 else if w = [111, 117, 116, 112, 117, 116] then 9 else if w = [106, 117, 109, 112] then 11 else if w = [98, 114, 97, 110, 99, 104] then 12 else if w = [114, 101, 116, 117, 114, 110] then 13 else 0
/-- What stands behind the word of an instruction without a value. -/
def actR (s : ByteArray) (l : List Tok) (r : Rd) (x : Ins) (w : List UInt8) : Ins × Rd :=
  let a : Ins × Rd := if w = [98, 114, 97, 110, 99, 104] ∨ w = [114, 101, 116, 117, 114, 110] then ({ x with args := [(takeR s l r 1).1] }, (takeR s l r 1).2) else (x, r)
  let b : Ins × Rd := if w = [114, 101, 116, 117, 114, 110] then a else ({ a.1 with ref := (takeR s l a.2 1).1 }, (takeR s l a.2 1).2)
  let c : Ins × Rd := if w = [98, 114, 97, 110, 99, 104] then ({ b.1 with alt := (takeR s l b.2 1).1 }, (takeR s l b.2 1).2) else b
  let d : Ins × Rd := if w = [115, 116, 111, 114, 101] ∨ w = [111, 117, 116, 112, 117, 116] then ({ c.1 with args := c.1.args ++ [(takeR s l c.2 1).1] }, (takeR s l c.2 1).2) else c
  if w = [115, 116, 111, 114, 101] then ({ d.1 with args := d.1.args ++ [(takeR s l d.2 1).1] }, (takeR s l d.2 1).2) else d
def instrR (s : ByteArray) (l : List Tok) (r : Rd) : Ins × Rd :=
  let x := ins0 (atV s l r.n)
  let w := (textR s l r 0).data.toList
  let k := kindA w
  if k = 0 ∧ isR l r 1 = false then (x, failR s l r 7)
  else if k = 0 ∧ ¬ (textR s l r 1).data.toList = [61] then (x, failR s l (goR r) 7)
  else if 4096 ≤ r.c then (x, failR s l r 3)
  else
    let r1 : Rd := { r with c := r.c + 1 }
    if k = 0 then
      let a := takeR s l r1 1
      valueR s l (needR s l a.2 [61]) { x with dst := a.1 }
    else actR s l (goR r1) { x with kind := k } w
def begR (s : ByteArray) (l : List Tok) (r : Rd) : Bool := isR l r 1 && decide ((textR s l r 1).data.toList = [58])
def codeRF (s : ByteArray) (l : List Tok) : Nat → Rd → List Ins → List Ins × Rd
  | 0, r, xs => (xs, r)
  | f + 1, r, xs =>
    if r.e = 0 ∧ ¬ (textR s l r 0).data.toList = [125] ∧ begR s l r = false then let q := instrR s l r; codeRF s l f q.2 (xs ++ [q.1])
    else (xs, r)
def blockR (s : ByteArray) (l : List Tok) (r : Rd) : Blk × Rd :=
  let a := takeR s l r 1
  let q := codeRF s l 4098 (needR s l a.2 [58]) []
  (⟨a.1, q.1, atV s l r.n⟩, q.2)
def blocksRF (s : ByteArray) (l : List Tok) : Nat → Rd → List Blk → List Blk × Rd × Bool
  | 0, r, bs => (bs, r, true)
  | f + 1, r, bs =>
    if begR s l r = true then
      if 64 ≤ bs.length then (bs, failR s l r 3, true)
      else let q := blockR s l r; blocksRF s l f q.2 (bs ++ [q.1])
    else (bs, r, false)
def funcR (s : ByteArray) (l : List Tok) (r : Rd) : Fun × Rd :=
  let a := takeR s l (needR s l r [102, 110]) 1
  let p := namesR s l a.2
  let b := blockR s l (needR s l p.2 [123])
  let q := blocksRF s l 65 b.2 [b.1]
  (⟨a.1, p.1, q.1, atV s l r.n⟩, if q.2.2 = true then q.2.1 else needR s l q.2.1 [125])
def parseRF (s : ByteArray) (l : List Tok) : Nat → Rd → Prg → Prg × Rd
  | 0, r, p => (p, r)
  | f + 1, r, p =>
    if r.e = 0 ∧ r.n < l.length then
      let w := (textR s l r 0).data.toList
      if (w = [97, 114, 114, 97, 121] ∧ 16 ≤ p.arrays.length) ∨ (w = [102, 110] ∧ 64 ≤ p.funcs.length) then parseRF s l f (failR s l r 3) p
      else if w = [97, 114, 114, 97, 121] then let q := arrR s l r; parseRF s l f q.2 ⟨p.arrays ++ [q.1], p.funcs⟩
      else if w = [102, 110] then let q := funcR s l r; parseRF s l f q.2 ⟨p.arrays, p.funcs ++ [q.1]⟩
      else parseRF s l f (failR s l r 7) p
    else (p, r)

/-! ### where it stands lies in the tokens -/
section
variable {s : ByteArray} {l : List Tok} {r : Rd}
theorem isR_lt {k : Int} (h : isR l r k = true) : r.e = 0 ∧ r.n < l.length := by
  unfold isR at h
  simp only [Bool.and_eq_true, decide_eq_true_eq] at h
  exact ⟨h.1, isV_lt h.2⟩
theorem textR_lt {b : UInt8} {t : List UInt8} {k : Nat} (h : (textR s l r k).data.toList = b :: t) : r.e = 0 ∧ r.n + k < l.length := by
  unfold textR at h
  split at h
  · rename_i h0
    exact ⟨h0, tx_lt h⟩
  · cases h
theorem failR_n {e : Int} : (failR s l r e).n = r.n := by unfold failR; split <;> rfl
theorem failR_c {e : Int} : (failR s l r e).c = r.c := by unfold failR; split <;> rfl
theorem takeR_le {k : Int} (h : r.n ≤ l.length) : (takeR s l r k).2.n ≤ l.length := by
  unfold takeR
  split
  · rename_i h1; exact (isR_lt h1).2
  · show (failR s l r 7).n ≤ _; rw [failR_n]; exact h
theorem takeR_c {k : Int} : (takeR s l r k).2.c = r.c := by
  unfold takeR
  split
  · rfl
  · exact failR_c
theorem needR_le {b : UInt8} {t : List UInt8} (h : r.n ≤ l.length) : (needR s l r (b :: t)).n ≤ l.length := by
  unfold needR
  split
  · rename_i h1; exact (textR_lt h1).2
  · rw [failR_n]; exact h
theorem needR_c {t : List UInt8} : (needR s l r t).c = r.c := by
  unfold needR
  split
  · rfl
  · exact failR_c
theorem textR_size (hl : Lies s l) {k : Nat} : (textR s l r k).size ≤ 140737488355328 := by
  have := hl.2.2
  unfold textR txV
  split
  · split
    · rw [ByteArray.size_extract]; omega
    · show (0 : Nat) ≤ _; omega
  · show (0 : Nat) ≤ _; omega
end
end Go.Proofs.YtikkppdihepmdaaDoor

/- Names in brackets, and the pairs of a phi, as the answer reads them: the walks. -/
namespace Go.Proofs.YtikkppdihepmdaaDoor
open Go.Sx
set_option linter.unusedVariables false
set_option linter.unusedSimpArgs false
set_option maxRecDepth 100000

structure NRW (s : ByteArray) (l : List Tok) (R : List ByteArray × Rd) where
  f : Nat
  r : Rd
  out : List ByteArray
  hf : l.length + 1 ≤ f + r.n
  hf0 : 0 < f
  hn : r.n ≤ l.length
  ho : out.length ≤ r.n
  same : namesRF s l f r out = R
abbrev guR (s : ByteArray) (l : List Tok) (r : Rd) (k most : Nat) : Rd := if isR l r 1 = true ∧ most ≤ k then failR s l r 3 else r
theorem gu_n {s : ByteArray} {l : List Tok} {r : Rd} {k most : Nat} : (guR s l r k most).n = r.n := by
  unfold guR; split
  · exact failR_n
  · rfl
section
variable (s : ByteArray) (l : List Tok) (r : Rd) (hl : Lies s l) (hL : l.length ≤ 1000000) (hn : r.n ≤ l.length)
set_option maxHeartbeats 1000000 in
include hl hL hn in
theorem namesR_spec : Proc PG 49 1 [.ptr 0 0] [rC s l r] (.d (dStrs (namesR s l r).1)) [rC s l (namesR s l r).2] := by
  have hll := hl.2.1
  refine Proc.mk (cfgF 48 1) tysOK [0] Tryd.func49 rfl (by kernel_rfl) rfl rfl rfl ?_
  intro C x
  refine x.call [0] rfl trivial rfl (needR_spec s l r hl (by omega) ⟨#[40]⟩) rfl ⟨⟨rfl, rfl⟩, rfl, trivial⟩ ⟨⟨rfl, veq0_d rfl, rfl, rfl, rfl, rfl, trivial⟩, trivial⟩ ?_
  have n1 : (needR s l r [40]).n ≤ l.length := needR_le hn
  obtain ⟨r1, h1⟩ : ∃ q, needR s l r [40] = q := ⟨_, rfl⟩
  rw [show needR s l r (⟨#[40]⟩ : ByteArray).data.toList = r1 from h1]
  have hR : namesR s l r = if (textR s l r1 0).data.toList = [41] then ([], goR r1) else ((namesRF s l (l.length + 2) r1 []).1, needR s l (namesRF s l (l.length + 2) r1 []).2 [41]) := by
    rw [← h1]; rfl
  rw [h1] at n1
  refine x.call [0] rfl trivial rfl (textR_spec s l r1 hl (by omega) 0 (by omega)) rfl ⟨⟨rfl, rfl⟩, rfl, trivial⟩ ⟨⟨rfl, veq0_d rfl, rfl, rfl, rfl, rfl, trivial⟩, trivial⟩ ?_
  refine x.cond rfl trivial (fun b => ?_) (fun b => ?_)
  · have b : (textR s l r1 0).data.toList = [41] := of_decide_eq_true b
    rw [hR, if_pos b]
    refine x.exit rfl (by simp only [AllP, inI64]; omega) ?_
    exact ⟨.inr rfl, rfl, ⟨⟨rfl, veq0_d rfl, by show VEq0 (vi ((r1.n : Int) + 1)) (vi ((r1.n + 1 : Nat) : Int)); rw [Int.natCast_add]; rfl, rfl, rfl, rfl, trivial⟩, trivial⟩, rfl⟩
  have b : ¬ (textR s l r1 0).data.toList = [41] := of_decide_eq_false b
  obtain ⟨R, hRR⟩ : ∃ R, namesRF s l (l.length + 2) r1 [] = R := ⟨_, rfl⟩
  rw [if_neg b, hRR] at hR
  rw [hR]
  refine x.toLoop rfl trivial ?_
  refine Go.own 3 9 1 (fun i => [.str (([] : List ByteArray).getD i .empty)]) rfl ?_
  refine x.loop (α := NRW s l R) (fun y => ⟨[(0, .ptr 0 0), (3, .own 1)], [(0, rC s l y.r), (1, strC y.out)], 2⟩) (fun y => y.f) ⟨l.length + 2, r1, [], by omega, by omega, n1, by simp, hRR⟩ rfl trivial ⟨⟨⟨rfl, rfl⟩, rfl, trivial⟩, ⟨⟨rfl, veq0_d rfl, rfl, rfl, rfl, rfl, trivial⟩, ⟨rfl, rfl, rfl, fun j hj => absurd hj (Nat.not_lt_zero _)⟩, trivial⟩, rfl⟩ (fun y => ?_)
  obtain ⟨f, r, out, hf, hf0, hn, ho, same⟩ := y
  change Go C _ ⟨[(0, .ptr 0 0), (3, .own 1)], [(0, rC s l r), (1, strC out)], 2⟩ _
  obtain ⟨f, rfl⟩ : ∃ f', f = f' + 1 := ⟨f - 1, by omega⟩
  rw [namesRF] at same
  have fin : ∀ (q : Rd) (o : List ByteArray), q.n ≤ l.length → R = (o, q) → Proc PG 44 1 [.ptr 0 0, vs ⟨#[41]⟩] [rC s l q] (.tup []) [rC s l (needR s l R.2 [41])] := fun q o hq e => by
    rw [e]; exact needR_spec s l q hl (by omega) ⟨#[41]⟩
  refine x.cond rfl trivial (fun b => ?_) (fun b => ?_)
  rotate_left
  · have b : ¬ r.e = 0 := of_decide_eq_false b
    rw [if_neg b] at same
    refine x.call [0] rfl trivial rfl (fin r out hn same.symm) rfl ⟨⟨rfl, rfl⟩, rfl, trivial⟩ ⟨⟨rfl, veq0_d rfl, rfl, rfl, rfl, rfl, trivial⟩, trivial⟩ ?_
    refine Sx.Go.freeze 1 ?_
    refine x.exit rfl trivial ?_
    rw [← same]
    exact ⟨.inr rfl, veq_d rfl, ⟨⟨rfl, veq0_d rfl, rfl, rfl, rfl, rfl, trivial⟩, trivial⟩, rfl⟩
  have b : r.e = 0 := of_decide_eq_true b
  rw [if_pos b] at same
  refine x.call [0] rfl trivial rfl (isR_spec s l r 1) rfl ⟨⟨rfl, rfl⟩, rfl, trivial⟩ ⟨⟨rfl, veq0_d rfl, rfl, rfl, rfl, rfl, trivial⟩, trivial⟩ ?_
  have later : ∀ (g q : Rd) (t : ByteArray), g.n = r.n → takeR s l g 1 = (t, q) → q.e = 0 → r.n < q.n := fun g q t hg ht h0 => by
    unfold takeR at ht
    split at ht
    · obtain ⟨_, rfl⟩ := Prod.mk.inj ht
      show r.n < g.n + 1; omega
    · obtain ⟨_, rfl⟩ := Prod.mk.inj ht
      unfold failR at h0
      split at h0
      · cases h0
      · contradiction
  refine x.cond rfl trivial (fun b2 => ?_) (fun b2 => ?_)
  · have b2 : (isR l r 1 && decide ((6 : Int) ≤ (out.length : Int))) = true := b2
    have b2 : isR l r 1 = true ∧ 6 ≤ out.length := by
      simp only [Bool.and_eq_true, decide_eq_true_eq] at b2
      exact ⟨b2.1, by omega⟩
    refine x.call [0] rfl trivial rfl (failR_spec s l r (by omega) 3) rfl ⟨⟨rfl, rfl⟩, rfl, trivial⟩ ⟨⟨rfl, veq0_d rfl, rfl, rfl, rfl, rfl, trivial⟩, trivial⟩ ?_
    have hg : (failR s l r 3).n = r.n := failR_n
    rw [if_pos b2] at same
    have m1 := takeR_le (s := s) (l := l) (r := failR s l r 3) (k := 1) (by omega)
    refine x.call [0] rfl trivial rfl (nameR_spec s l (failR s l r 3) hl (by omega)) rfl ⟨⟨rfl, rfl⟩, trivial⟩ ⟨⟨rfl, veq0_d rfl, rfl, rfl, rfl, rfl, trivial⟩, trivial⟩ ?_
    obtain ⟨⟨t, q⟩, ht⟩ : ∃ z, takeR s l (failR s l r 3) 1 = z := ⟨_, rfl⟩
    have m2 : q.n ≤ r.n + 1 := by have := take_n s l (failR s l r 3) 1; rw [ht] at this; dsimp only at this; omega
    rw [ht] at m1 same ⊢
    dsimp only at m1 same ⊢
    refine x.call [0] rfl (by simp only [AllP, big]; omega) rfl (textR_spec s l q hl (by omega) 0 (by omega)) rfl ⟨⟨rfl, rfl⟩, rfl, trivial⟩ ⟨⟨rfl, veq0_d rfl, rfl, rfl, rfl, rfl, trivial⟩, trivial⟩ ?_
    refine x.cond rfl trivial (fun b3 => ?_) (fun b3 => ?_)
    · have b3 : (!decide ((textR s l q 0).data.toList = [44])) = true := b3
      have b3 : ¬ (textR s l q 0).data.toList = [44] := by simpa using b3
      rw [if_neg b3] at same
      refine x.call [0] rfl trivial rfl (fin q (out ++ [t]) m1 same.symm) rfl ⟨⟨rfl, rfl⟩, rfl, trivial⟩ ⟨⟨rfl, veq0_d rfl, rfl, rfl, rfl, rfl, trivial⟩, trivial⟩ ?_
      refine Sx.Go.freeze 1 ?_
      refine x.exit rfl trivial ?_
      rw [← same]
      exact ⟨.inr rfl, ⟨by simp, fun _ => rfl, fun j hj => app_str out t j hj⟩, ⟨⟨rfl, veq0_d rfl, rfl, rfl, rfl, rfl, trivial⟩, trivial⟩, rfl⟩
    · have b3 : (!decide ((textR s l q 0).data.toList = [44])) = false := b3
      have b3 : (textR s l q 0).data.toList = [44] := by simpa using b3
      rw [if_pos b3] at same
      have m3 := textR_lt b3
      have m4 : r.n < q.n := later _ _ _ hg ht m3.1
      refine x.back rfl (by simp only [AllP, inI64]; omega) ⟨⟨f, goR q, out ++ [t], by show l.length + 1 ≤ f + (q.n + 1); omega, by have : (goR q).n = q.n + 1 := rfl; omega, m3.2, by rw [List.length_append]; simp only [List.length_cons, List.length_nil]; show out.length + 1 ≤ q.n + 1; omega, same⟩, by show f < f + 1; omega, ⟨⟨rfl, rfl⟩, rfl, trivial⟩, ⟨⟨rfl, veq0_d rfl, by show VEq0 (vi ((q.n : Int) + 1)) (vi ((q.n + 1 : Nat) : Int)); rw [Int.natCast_add]; rfl, rfl, rfl, rfl, trivial⟩, ⟨rfl, rfl, by simp, fun j hj => app_str out t j hj⟩, trivial⟩, rfl⟩
  · have b2 : (isR l r 1 && decide ((6 : Int) ≤ (out.length : Int))) = false := b2
    have b2 : ¬ (isR l r 1 = true ∧ 6 ≤ out.length) := by
      rintro ⟨h1, h2⟩
      rw [h1, decide_eq_true (by omega)] at b2
      cases b2
    have hg : (r).n = r.n := rfl
    rw [if_neg b2] at same
    have m1 := takeR_le (s := s) (l := l) (r := r) (k := 1) (by omega)
    refine x.call [0] rfl trivial rfl (nameR_spec s l (r) hl (by omega)) rfl ⟨⟨rfl, rfl⟩, trivial⟩ ⟨⟨rfl, veq0_d rfl, rfl, rfl, rfl, rfl, trivial⟩, trivial⟩ ?_
    obtain ⟨⟨t, q⟩, ht⟩ : ∃ z, takeR s l (r) 1 = z := ⟨_, rfl⟩
    have m2 : q.n ≤ r.n + 1 := by have := take_n s l (r) 1; rw [ht] at this; dsimp only at this; omega
    rw [ht] at m1 same ⊢
    dsimp only at m1 same ⊢
    refine x.call [0] rfl (by simp only [AllP, big]; omega) rfl (textR_spec s l q hl (by omega) 0 (by omega)) rfl ⟨⟨rfl, rfl⟩, rfl, trivial⟩ ⟨⟨rfl, veq0_d rfl, rfl, rfl, rfl, rfl, trivial⟩, trivial⟩ ?_
    refine x.cond rfl trivial (fun b3 => ?_) (fun b3 => ?_)
    · have b3 : (!decide ((textR s l q 0).data.toList = [44])) = true := b3
      have b3 : ¬ (textR s l q 0).data.toList = [44] := by simpa using b3
      rw [if_neg b3] at same
      refine x.call [0] rfl trivial rfl (fin q (out ++ [t]) m1 same.symm) rfl ⟨⟨rfl, rfl⟩, rfl, trivial⟩ ⟨⟨rfl, veq0_d rfl, rfl, rfl, rfl, rfl, trivial⟩, trivial⟩ ?_
      refine Sx.Go.freeze 1 ?_
      refine x.exit rfl trivial ?_
      rw [← same]
      exact ⟨.inr rfl, ⟨by simp, fun _ => rfl, fun j hj => app_str out t j hj⟩, ⟨⟨rfl, veq0_d rfl, rfl, rfl, rfl, rfl, trivial⟩, trivial⟩, rfl⟩
    · have b3 : (!decide ((textR s l q 0).data.toList = [44])) = false := b3
      have b3 : (textR s l q 0).data.toList = [44] := by simpa using b3
      rw [if_pos b3] at same
      have m3 := textR_lt b3
      have m4 : r.n < q.n := later _ _ _ hg ht m3.1
      refine x.back rfl (by simp only [AllP, inI64]; omega) ⟨⟨f, goR q, out ++ [t], by show l.length + 1 ≤ f + (q.n + 1); omega, by have : (goR q).n = q.n + 1 := rfl; omega, m3.2, by rw [List.length_append]; simp only [List.length_cons, List.length_nil]; show out.length + 1 ≤ q.n + 1; omega, same⟩, by show f < f + 1; omega, ⟨⟨rfl, rfl⟩, rfl, trivial⟩, ⟨⟨rfl, veq0_d rfl, by show VEq0 (vi ((q.n : Int) + 1)) (vi ((q.n + 1 : Nat) : Int)); rw [Int.natCast_add]; rfl, rfl, rfl, rfl, trivial⟩, ⟨rfl, rfl, by simp, fun j hj => app_str out t j hj⟩, trivial⟩, rfl⟩

end
/-- Instructions, from the slices. -/
abbrev xD (x : Ins) : V := .agg [.d (.int .u8 x.kind), .d (.int .u8 x.op), vs x.dst, vs x.ref, vs x.alt, .d (dStrs x.args), .d (dStrs x.frm), vi x.num, vi x.at_]
structure PRW (s : ByteArray) (l : List Tok) (R : Ins × Rd) (x : Ins) where
  f : Nat
  r : Rd
  y : Ins
  hf : l.length + 1 ≤ f + r.n
  hf0 : 0 < f
  hn : r.n ≤ l.length
  ho : y.args.length ≤ r.n
  ho2 : y.frm.length ≤ r.n
  h1 : y.kind = x.kind ∧ y.op = x.op ∧ y.dst = x.dst ∧ y.ref = x.ref ∧ y.alt = x.alt ∧ y.num = x.num ∧ y.at_ = x.at_
  same : pairsRF s l f r y = R
theorem take_later {s : ByteArray} {l : List Tok} {g q : Rd} {t : ByteArray} {k : Int} (ht : takeR s l g k = (t, q)) (h0 : q.e = 0) : g.n < q.n ∧ g.e = 0 := by
  unfold takeR at ht
  split at ht
  · rename_i h1
    obtain ⟨_, rfl⟩ := Prod.mk.inj ht
    exact ⟨Nat.lt_succ_self _, (isR_lt h1).1⟩
  · obtain ⟨_, rfl⟩ := Prod.mk.inj ht
    unfold failR at h0
    split at h0
    · cases h0
    · contradiction
theorem need_later {s : ByteArray} {l : List Tok} {g : Rd} {b : UInt8} {t : List UInt8} (h0 : (needR s l g (b :: t)).e = 0) : g.n < (needR s l g (b :: t)).n ∧ g.e = 0 := by
  unfold needR at h0 ⊢
  split
  · rename_i h1
    exact ⟨Nat.lt_succ_self _, (textR_lt h1).1⟩
  · rename_i h1
    rw [if_neg h1] at h0
    unfold failR at h0
    split at h0
    · cases h0
    · contradiction
section
variable (s : ByteArray) (l : List Tok) (r : Rd) (hl : Lies s l) (hL : l.length ≤ 1000000) (hn : r.n ≤ l.length) (x : Ins)
set_option maxHeartbeats 2000000 in
include hl hL hn in
theorem pairsR_spec (h1 : x.args = []) (h2 : x.frm = []) : Proc PG 92 1 [.ptr 0 0, .agg [.d (.int .u8 x.kind), .d (.int .u8 x.op), vs x.dst, vs x.ref, vs x.alt, .nils, .nils, vi x.num, vi x.at_]] [rC s l r] (xD (phiR s l r x).1) [rC s l (phiR s l r x).2] := by
  have hll := hl.2.1
  refine Proc.mk (cfgF 51 1) tysOK [0] Tryd.func92 rfl (by kernel_rfl) rfl rfl rfl ?_
  intro C x'
  refine x'.call [0] rfl trivial rfl (needR_spec s l r hl (by omega) ⟨#[91]⟩) rfl ⟨⟨rfl, rfl⟩, rfl, trivial⟩ ⟨⟨rfl, veq0_d rfl, rfl, rfl, rfl, rfl, trivial⟩, trivial⟩ ?_
  have n1 : (needR s l r [91]).n ≤ l.length := needR_le hn
  obtain ⟨r1, hr1⟩ : ∃ q, needR s l r [91] = q := ⟨_, rfl⟩
  rw [show needR s l r (⟨#[91]⟩ : ByteArray).data.toList = r1 from hr1]
  have hR : phiR s l r x = ((pairsRF s l (l.length + 2) r1 x).1, needR s l (pairsRF s l (l.length + 2) r1 x).2 [93]) := by
    rw [← hr1]; rfl
  rw [hr1] at n1
  obtain ⟨R, hRR⟩ : ∃ R, pairsRF s l (l.length + 2) r1 x = R := ⟨_, rfl⟩
  rw [hRR] at hR
  rw [hR]
  refine x'.toLoop rfl trivial ?_
  refine Go.ownB 1 5 9 1 (fun i => [.str (([] : List ByteArray).getD i .empty)]) rfl rfl ?_
  refine Go.ownB 1 6 9 1 (fun i => [.str (([] : List ByteArray).getD i .empty)]) rfl rfl ?_
  refine x'.loop (α := PRW s l R x) (fun y => ⟨[(0, .ptr 0 0), (3, .ptr 1 0), (4, .ptr 2 0)], [(0, rC s l y.r), (1, .box [.d (.int .u8 x.kind), .d (.int .u8 x.op), vs x.dst, vs x.ref, vs x.alt, .own 3, .own 4, vi x.num, vi x.at_]), (2, .box [.d (.int .u8 0), .d (.int .u8 0), vs .empty, vs .empty, vs .empty, .nils, .nils, vi 0, vi 0]), (3, strC y.y.args), (4, strC y.y.frm)], 5⟩) (fun y => y.f) ⟨l.length + 2, r1, x, by omega, by omega, n1, by rw [h1]; simp, by rw [h2]; simp, ⟨rfl, rfl, rfl, rfl, rfl, rfl, rfl⟩, hRR⟩ rfl trivial ⟨⟨⟨rfl, rfl⟩, ⟨rfl, rfl⟩, ⟨rfl, rfl⟩, trivial⟩, ⟨⟨rfl, veq0_d rfl, rfl, rfl, rfl, rfl, trivial⟩, ⟨rfl, rfl, rfl, rfl, rfl, rfl, rfl, rfl, rfl, trivial⟩, ⟨rfl, rfl, rfl, rfl, rfl, trivial, trivial, rfl, rfl, trivial⟩, ⟨rfl, rfl, by show 0 = x.args.length; rw [h1]; rfl, fun j hj => absurd hj (Nat.not_lt_zero _)⟩, ⟨rfl, rfl, by show 0 = x.frm.length; rw [h2]; rfl, fun j hj => absurd hj (Nat.not_lt_zero _)⟩, trivial⟩, rfl⟩ (fun y => ?_)
  obtain ⟨f, r, y, hf, hf0, hn, ho, ho2, hy, same⟩ := y
  obtain ⟨k1, k2, k3, k4, k5, k6, k7⟩ := hy
  change Go C _ ⟨[(0, .ptr 0 0), (3, .ptr 1 0), (4, .ptr 2 0)], [(0, rC s l r), (1, .box [.d (.int .u8 x.kind), .d (.int .u8 x.op), vs x.dst, vs x.ref, vs x.alt, .own 3, .own 4, vi x.num, vi x.at_]), (2, .box [.d (.int .u8 0), .d (.int .u8 0), vs .empty, vs .empty, vs .empty, .nils, .nils, vi 0, vi 0]), (3, strC y.args), (4, strC y.frm)], 5⟩ _
  obtain ⟨f, rfl⟩ : ∃ f', f = f' + 1 := ⟨f - 1, by omega⟩
  rw [pairsRF] at same
  have fin : ∀ (q : Rd) (o : Ins), q.n ≤ l.length → R = (o, q) → Proc PG 44 1 [.ptr 0 0, vs ⟨#[93]⟩] [rC s l q] (.tup []) [rC s l (needR s l R.2 [93])] := fun q o hq e => by
    rw [e]; exact needR_spec s l q hl (by omega) ⟨#[93]⟩
  have later : ∀ (g q q1 q2 : Rd) (t t2 : ByteArray), g.n = r.n → takeR s l g 1 = (t, q) → needR s l q [58] = q1 → takeR s l q1 1 = (t2, q2) → q2.e = 0 → r.n < q2.n := fun g q q1 q2 t t2 hg ht hq ht2 h0 => by
    obtain ⟨a1, a2⟩ := take_later ht2 h0
    rw [← hq] at a2
    obtain ⟨b1, b2⟩ := need_later a2
    rw [hq] at b1
    obtain ⟨d1, _⟩ := take_later ht b2
    omega
  refine x'.cond rfl trivial (fun b => ?_) (fun b => ?_)
  rotate_left
  · have b : ¬ r.e = 0 := of_decide_eq_false b
    rw [if_neg b] at same
    refine x'.call [0] rfl trivial rfl (fin r y hn same.symm) rfl ⟨⟨rfl, rfl⟩, rfl, trivial⟩ ⟨⟨rfl, veq0_d rfl, rfl, rfl, rfl, rfl, trivial⟩, trivial⟩ ?_
    refine Sx.Go.freeze 3 ?_
    refine Sx.Go.freeze 4 ?_
    refine x'.exit rfl trivial ?_
    rw [← same]
    obtain ⟨a1, a2, a3, a4, a5, a6, a7, a8, a9⟩ := y
    dsimp only at k1 k2 k3 k4 k5 k6 k7
    subst k1 k2 k3 k4 k5 k6 k7
    exact ⟨.inr rfl, ⟨rfl, rfl, rfl, rfl, rfl, veq0_d rfl, veq0_d rfl, rfl, rfl, trivial⟩, ⟨⟨rfl, veq0_d rfl, rfl, rfl, rfl, rfl, trivial⟩, trivial⟩, rfl⟩
  have b : r.e = 0 := of_decide_eq_true b
  rw [if_pos b] at same
  obtain ⟨a1, a2, a3, a4, a5, a6, a7, a8, a9⟩ := y
  dsimp only at k1 k2 k3 k4 k5 k6 k7 ho ho2
  subst k1 k2 k3 k4 k5 k6 k7
  refine x'.call [0] rfl trivial rfl (isR_spec s l r 1) rfl ⟨⟨rfl, rfl⟩, rfl, trivial⟩ ⟨⟨rfl, veq0_d rfl, rfl, rfl, rfl, rfl, trivial⟩, trivial⟩ ?_
  refine x'.cond rfl trivial (fun b2 => ?_) (fun b2 => ?_)
  · have b2 : (isR l r 1 && decide ((64 : Int) ≤ (a7.length : Int))) = true := b2
    have b2 : isR l r 1 = true ∧ 64 ≤ a7.length := by
      simp only [Bool.and_eq_true, decide_eq_true_eq] at b2
      exact ⟨b2.1, by omega⟩
    refine x'.call [0] rfl trivial rfl (failR_spec s l r (by omega) 3) rfl ⟨⟨rfl, rfl⟩, rfl, trivial⟩ ⟨⟨rfl, veq0_d rfl, rfl, rfl, rfl, rfl, trivial⟩, trivial⟩ ?_
    have hg : (failR s l r 3).n = r.n := failR_n
    rw [if_pos b2] at same
    have m1 := takeR_le (s := s) (l := l) (r := failR s l r 3) (k := 1) (by omega)
    obtain ⟨⟨t, q⟩, ht⟩ : ∃ z, takeR s l (failR s l r 3) 1 = z := ⟨_, rfl⟩
    have m2 : q.n ≤ r.n + 1 := by have := take_n s l (failR s l r 3) 1; rw [ht] at this; dsimp only at this; omega
    have c1 := nameR_spec s l (failR s l r 3) hl (by omega)
    rw [ht] at m1 same c1
    dsimp only at m1 same c1
    refine x'.draw [0] [2] [0, 1] [3, 4] [5, 6, 7] rfl trivial mixedP (by kernel_rfl) (NoPanic.quiet Ret.noPanic) rfl trivial (fun C1 x1 => ?_)
    refine x1.call [0] rfl trivial rfl c1 rfl ⟨⟨rfl, rfl⟩, trivial⟩ ⟨⟨rfl, veq0_d rfl, rfl, rfl, rfl, rfl, trivial⟩, trivial⟩ ?_
    refine x1.back rfl trivial ?_
    refine x1.back rfl trivial ?_
    have m3 := needR_le (s := s) (b := 58) (t := []) m1
    have m4 := need_n s l q [58]
    refine x'.call [0] rfl (by simp only [AllP, big]; omega) rfl (needR_spec s l q hl (by omega) ⟨#[58]⟩) rfl ⟨⟨rfl, rfl⟩, rfl, trivial⟩ ⟨⟨rfl, veq0_d rfl, rfl, rfl, rfl, rfl, trivial⟩, trivial⟩ ?_
    obtain ⟨q1, hq1⟩ : ∃ z, needR s l q [58] = z := ⟨_, rfl⟩
    rw [show needR s l q (⟨#[58]⟩ : ByteArray).data.toList = q1 from hq1]
    rw [hq1] at m3 m4 same
    have m5 := takeR_le (s := s) (l := l) (r := q1) (k := 1) m3
    have m6 := take_n s l q1 1
    have c2 := nameR_spec s l q1 hl (by omega)
    obtain ⟨⟨t2, q2⟩, ht2⟩ : ∃ z, takeR s l q1 1 = z := ⟨_, rfl⟩
    rw [ht2] at m5 m6 same c2
    dsimp only at m5 m6 same c2
    refine x'.draw [0] [2] [0, 1] [3, 4] [5, 6, 7] rfl trivial mixedP (by kernel_rfl) (NoPanic.quiet Ret.noPanic) rfl trivial (fun C2 x2 => ?_)
    refine x2.call [0] rfl trivial rfl c2 rfl ⟨⟨rfl, rfl⟩, trivial⟩ ⟨⟨rfl, veq0_d rfl, rfl, rfl, rfl, rfl, trivial⟩, trivial⟩ ?_
    refine x2.back rfl trivial ?_
    refine x2.back rfl trivial ?_
    refine x'.call [0] rfl (by simp only [AllP, big]; omega) rfl (textR_spec s l q2 hl (by omega) 0 (by omega)) rfl ⟨⟨rfl, rfl⟩, rfl, trivial⟩ ⟨⟨rfl, veq0_d rfl, rfl, rfl, rfl, rfl, trivial⟩, trivial⟩ ?_
    refine x'.cond rfl trivial (fun b3 => ?_) (fun b3 => ?_)
    · have b3 : (!decide ((textR s l q2 0).data.toList = [44])) = true := b3
      have b3 : ¬ (textR s l q2 0).data.toList = [44] := by simpa using b3
      rw [if_neg b3] at same
      refine x'.call [0] rfl trivial rfl (fin q2 _ m5 same.symm) rfl ⟨⟨rfl, rfl⟩, rfl, trivial⟩ ⟨⟨rfl, veq0_d rfl, rfl, rfl, rfl, rfl, trivial⟩, trivial⟩ ?_
      refine Sx.Go.freeze 3 ?_
      refine Sx.Go.freeze 4 ?_
      refine x'.exit rfl trivial ?_
      rw [← same]
      exact ⟨.inr rfl, ⟨rfl, rfl, rfl, rfl, rfl, ⟨by simp, fun _ => rfl, fun j hj => app_str a6 t2 j hj⟩, ⟨by simp, fun _ => rfl, fun j hj => app_str a7 t j hj⟩, rfl, rfl, trivial⟩, ⟨⟨rfl, veq0_d rfl, rfl, rfl, rfl, rfl, trivial⟩, trivial⟩, rfl⟩
    · have b3 : (!decide ((textR s l q2 0).data.toList = [44])) = false := b3
      have b3 : (textR s l q2 0).data.toList = [44] := by simpa using b3
      rw [if_pos b3] at same
      have m7 := textR_lt b3
      have m8 : r.n < q2.n := later _ _ _ _ _ _ hg ht hq1 ht2 m7.1
      refine x'.back rfl (by simp only [AllP, inI64]; omega) ⟨⟨f, goR q2, ⟨x.kind, x.op, x.dst, x.ref, x.alt, a6 ++ [t2], a7 ++ [t], x.num, x.at_⟩, by show l.length + 1 ≤ f + (q2.n + 1); omega, by have : (goR q2).n = q2.n + 1 := rfl; omega, m7.2, by show (a6 ++ [t2]).length ≤ q2.n + 1; rw [List.length_append]; simp only [List.length_cons, List.length_nil]; omega, by show (a7 ++ [t]).length ≤ q2.n + 1; rw [List.length_append]; simp only [List.length_cons, List.length_nil]; omega, ⟨rfl, rfl, rfl, rfl, rfl, rfl, rfl⟩, same⟩, by show f < f + 1; omega, ⟨⟨rfl, rfl⟩, ⟨rfl, rfl⟩, ⟨rfl, rfl⟩, trivial⟩, ⟨⟨rfl, veq0_d rfl, by show VEq0 (vi ((q2.n : Int) + 1)) (vi ((q2.n + 1 : Nat) : Int)); rw [Int.natCast_add]; rfl, rfl, rfl, rfl, trivial⟩, ⟨rfl, rfl, rfl, rfl, rfl, rfl, rfl, rfl, rfl, trivial⟩, ⟨rfl, rfl, rfl, rfl, rfl, trivial, trivial, rfl, rfl, trivial⟩, ⟨rfl, rfl, by show a6.length + 1 = (a6 ++ [t2]).length; simp, fun j hj => app_str a6 t2 j hj⟩, ⟨rfl, rfl, by show a7.length + 1 = (a7 ++ [t]).length; simp, fun j hj => app_str a7 t j hj⟩, trivial⟩, rfl⟩
  · have b2 : (isR l r 1 && decide ((64 : Int) ≤ (a7.length : Int))) = false := b2
    have b2 : ¬ (isR l r 1 = true ∧ 64 ≤ a7.length) := by
      rintro ⟨h1, h2⟩
      rw [h1, decide_eq_true (by omega)] at b2
      cases b2
    have hg : (r).n = r.n := rfl
    rw [if_neg b2] at same
    have m1 := takeR_le (s := s) (l := l) (r := r) (k := 1) (by omega)
    obtain ⟨⟨t, q⟩, ht⟩ : ∃ z, takeR s l (r) 1 = z := ⟨_, rfl⟩
    have m2 : q.n ≤ r.n + 1 := by have := take_n s l (r) 1; rw [ht] at this; dsimp only at this; omega
    have c1 := nameR_spec s l (r) hl (by omega)
    rw [ht] at m1 same c1
    dsimp only at m1 same c1
    refine x'.draw [0] [2] [0, 1] [3, 4] [5, 6, 7] rfl trivial mixedP (by kernel_rfl) (NoPanic.quiet Ret.noPanic) rfl trivial (fun C1 x1 => ?_)
    refine x1.call [0] rfl trivial rfl c1 rfl ⟨⟨rfl, rfl⟩, trivial⟩ ⟨⟨rfl, veq0_d rfl, rfl, rfl, rfl, rfl, trivial⟩, trivial⟩ ?_
    refine x1.back rfl trivial ?_
    refine x1.back rfl trivial ?_
    have m3 := needR_le (s := s) (b := 58) (t := []) m1
    have m4 := need_n s l q [58]
    refine x'.call [0] rfl (by simp only [AllP, big]; omega) rfl (needR_spec s l q hl (by omega) ⟨#[58]⟩) rfl ⟨⟨rfl, rfl⟩, rfl, trivial⟩ ⟨⟨rfl, veq0_d rfl, rfl, rfl, rfl, rfl, trivial⟩, trivial⟩ ?_
    obtain ⟨q1, hq1⟩ : ∃ z, needR s l q [58] = z := ⟨_, rfl⟩
    rw [show needR s l q (⟨#[58]⟩ : ByteArray).data.toList = q1 from hq1]
    rw [hq1] at m3 m4 same
    have m5 := takeR_le (s := s) (l := l) (r := q1) (k := 1) m3
    have m6 := take_n s l q1 1
    have c2 := nameR_spec s l q1 hl (by omega)
    obtain ⟨⟨t2, q2⟩, ht2⟩ : ∃ z, takeR s l q1 1 = z := ⟨_, rfl⟩
    rw [ht2] at m5 m6 same c2
    dsimp only at m5 m6 same c2
    refine x'.draw [0] [2] [0, 1] [3, 4] [5, 6, 7] rfl trivial mixedP (by kernel_rfl) (NoPanic.quiet Ret.noPanic) rfl trivial (fun C2 x2 => ?_)
    refine x2.call [0] rfl trivial rfl c2 rfl ⟨⟨rfl, rfl⟩, trivial⟩ ⟨⟨rfl, veq0_d rfl, rfl, rfl, rfl, rfl, trivial⟩, trivial⟩ ?_
    refine x2.back rfl trivial ?_
    refine x2.back rfl trivial ?_
    refine x'.call [0] rfl (by simp only [AllP, big]; omega) rfl (textR_spec s l q2 hl (by omega) 0 (by omega)) rfl ⟨⟨rfl, rfl⟩, rfl, trivial⟩ ⟨⟨rfl, veq0_d rfl, rfl, rfl, rfl, rfl, trivial⟩, trivial⟩ ?_
    refine x'.cond rfl trivial (fun b3 => ?_) (fun b3 => ?_)
    · have b3 : (!decide ((textR s l q2 0).data.toList = [44])) = true := b3
      have b3 : ¬ (textR s l q2 0).data.toList = [44] := by simpa using b3
      rw [if_neg b3] at same
      refine x'.call [0] rfl trivial rfl (fin q2 _ m5 same.symm) rfl ⟨⟨rfl, rfl⟩, rfl, trivial⟩ ⟨⟨rfl, veq0_d rfl, rfl, rfl, rfl, rfl, trivial⟩, trivial⟩ ?_
      refine Sx.Go.freeze 3 ?_
      refine Sx.Go.freeze 4 ?_
      refine x'.exit rfl trivial ?_
      rw [← same]
      exact ⟨.inr rfl, ⟨rfl, rfl, rfl, rfl, rfl, ⟨by simp, fun _ => rfl, fun j hj => app_str a6 t2 j hj⟩, ⟨by simp, fun _ => rfl, fun j hj => app_str a7 t j hj⟩, rfl, rfl, trivial⟩, ⟨⟨rfl, veq0_d rfl, rfl, rfl, rfl, rfl, trivial⟩, trivial⟩, rfl⟩
    · have b3 : (!decide ((textR s l q2 0).data.toList = [44])) = false := b3
      have b3 : (textR s l q2 0).data.toList = [44] := by simpa using b3
      rw [if_pos b3] at same
      have m7 := textR_lt b3
      have m8 : r.n < q2.n := later _ _ _ _ _ _ hg ht hq1 ht2 m7.1
      refine x'.back rfl (by simp only [AllP, inI64]; omega) ⟨⟨f, goR q2, ⟨x.kind, x.op, x.dst, x.ref, x.alt, a6 ++ [t2], a7 ++ [t], x.num, x.at_⟩, by show l.length + 1 ≤ f + (q2.n + 1); omega, by have : (goR q2).n = q2.n + 1 := rfl; omega, m7.2, by show (a6 ++ [t2]).length ≤ q2.n + 1; rw [List.length_append]; simp only [List.length_cons, List.length_nil]; omega, by show (a7 ++ [t]).length ≤ q2.n + 1; rw [List.length_append]; simp only [List.length_cons, List.length_nil]; omega, ⟨rfl, rfl, rfl, rfl, rfl, rfl, rfl⟩, same⟩, by show f < f + 1; omega, ⟨⟨rfl, rfl⟩, ⟨rfl, rfl⟩, ⟨rfl, rfl⟩, trivial⟩, ⟨⟨rfl, veq0_d rfl, by show VEq0 (vi ((q2.n : Int) + 1)) (vi ((q2.n + 1 : Nat) : Int)); rw [Int.natCast_add]; rfl, rfl, rfl, rfl, trivial⟩, ⟨rfl, rfl, rfl, rfl, rfl, rfl, rfl, rfl, rfl, trivial⟩, ⟨rfl, rfl, rfl, rfl, rfl, trivial, trivial, rfl, rfl, trivial⟩, ⟨rfl, rfl, by show a6.length + 1 = (a6 ++ [t2]).length; simp, fun j hj => app_str a6 t2 j hj⟩, ⟨rfl, rfl, by show a7.length + 1 = (a7 ++ [t]).length; simp, fun j hj => app_str a7 t j hj⟩, trivial⟩, rfl⟩
end
end Go.Proofs.YtikkppdihepmdaaDoor

/- What stands behind a =, as the answer reads it: the walk. Written by gen07y.py. -/
namespace Go.Proofs.YtikkppdihepmdaaDoor
open Go.Sx
set_option linter.unusedVariables false
set_option linter.unusedSimpArgs false
set_option maxRecDepth 100000

theorem one_str (t : ByteArray) (j : Nat) (hj : j < 1) : [D.str t] = [D.str (([t] : List ByteArray).getD j .empty)] := by
  have : j = 0 := by omega
  subst this; rfl
section
variable (s : ByteArray) (l : List Tok) (r : Rd) (hl : Lies s l) (hL : l.length ≤ 1000000) (hn : r.n ≤ l.length) (d : ByteArray) (a : Int)
set_option maxHeartbeats 4000000 in
include hl hL hn in
theorem valueR_spec : Proc PG 82 1 [.ptr 0 0, .agg [.d (.int .u8 0), .d (.int .u8 0), vs d, vs .empty, vs .empty, .nils, .nils, vi 0, vi a]] [rC s l r] (xD (valueR s l r { ins0 a with dst := d }).1) [rC s l (valueR s l r { ins0 a with dst := d }).2] := by
  have hll := hl.2.1
  refine Proc.mk (cfgF 101 1) tysOK [0] Tryd.func82 rfl (by kernel_rfl) rfl rfl rfl ?_
  intro C x
  refine x.call [0] rfl trivial rfl (textR_spec s l r hl (by omega) 0 (by omega)) rfl ⟨⟨rfl, rfl⟩, rfl, trivial⟩ ⟨⟨rfl, veq0_d rfl, rfl, rfl, rfl, rfl, trivial⟩, trivial⟩ ?_
  obtain ⟨w, hw⟩ : ∃ w, textR s l r 0 = w := ⟨_, rfl⟩
  rw [hw]
  refine x.pure rfl trivial rfl (refop_spec w) ⟨rfl, trivial⟩ ?_
  refine x.cond rfl (by simp only [AllP, List.map, newKey]; decide) (fun b => ?_) (fun b => ?_)
  · have b : (decide ((opV w : Int) = 0) && decide (kindW w.data.toList = 0)) = true := b
    have b : opV w = 0 ∧ kindW w.data.toList = 0 := by
      simp only [Bool.and_eq_true, decide_eq_true_eq] at b
      exact ⟨by omega, b.2⟩
    refine x.call [0] rfl trivial rfl (failR_spec s l r (by omega) 7) rfl ⟨⟨rfl, rfl⟩, rfl, trivial⟩ ⟨⟨rfl, veq0_d rfl, rfl, rfl, rfl, rfl, trivial⟩, trivial⟩ ?_
    refine x.exit rfl trivial ?_
    have hv : valueR s l r { ins0 a with dst := d } = ({ ins0 a with dst := d }, failR s l r 7) := by
      rw [valueR]; simp only [hw]; rw [if_pos b]
    rw [hv]
    exact ⟨.inr rfl, ⟨rfl, rfl, rfl, rfl, rfl, rfl, rfl, rfl, rfl, trivial⟩, ⟨⟨rfl, veq0_d rfl, rfl, rfl, rfl, rfl, trivial⟩, trivial⟩, rfl⟩
  have b : (decide ((opV w : Int) = 0) && decide (kindW w.data.toList = 0)) = false := b
  have b : ¬ (opV w = 0 ∧ kindW w.data.toList = 0) := by
    rintro ⟨h1, h2⟩
    rw [h1, h2] at b
    simp at b
  have hlt : r.e = 0 ∧ r.n < l.length := by
    rcases hb : w.data.toList with _ | ⟨c, t⟩
    · refine absurd ⟨?_, ?_⟩ b
      · unfold opV; rw [hb]; decide
      · rw [hb]; decide
    · exact textR_lt (s := s) (l := l) (r := r) (k := 0) (by rw [hw]; exact hb)
  have hv : valueR s l r { ins0 a with dst := d } = 
    (if ¬ opV w = 0 then
      ({ ({ ins0 a with dst := d } : Ins) with kind := 2, op := (opV w : Int), args := [(takeR s l (goR r) 1).1, (takeR s l (takeR s l (goR r) 1).2 1).1] }, (takeR s l (takeR s l (goR r) 1).2 1).2)
    else
      if w.data.toList = [99, 111, 110, 115, 116] then ({ ({ ins0 a with dst := d } : Ins) with kind := kindW w.data.toList, num := (refNumV (takeR s l (goR r) 3).1).1 }, (takeR s l (goR r) 3).2)
      else if w.data.toList = [112, 104, 105] then phiR s l (goR r) { ({ ins0 a with dst := d } : Ins) with kind := kindW w.data.toList }
      else if w.data.toList = [108, 111, 97, 100] ∨ w.data.toList = [119, 114, 97, 112] then ({ ({ ins0 a with dst := d } : Ins) with kind := kindW w.data.toList, ref := (takeR s l (goR r) 1).1, args := [(takeR s l (takeR s l (goR r) 1).2 1).1] }, (takeR s l (takeR s l (goR r) 1).2 1).2)
      else if w.data.toList = [99, 97, 108, 108] then ({ ({ ins0 a with dst := d } : Ins) with kind := kindW w.data.toList, ref := (takeR s l (goR r) 1).1, args := (namesR s l (takeR s l (goR r) 1).2).1 }, (namesR s l (takeR s l (goR r) 1).2).2)
      else if w.data.toList = [105, 110, 112, 117, 116] then ({ ({ ins0 a with dst := d } : Ins) with kind := kindW w.data.toList, ref := (takeR s l (goR r) 1).1 }, (takeR s l (goR r) 1).2)
      else ({ ({ ins0 a with dst := d } : Ins) with kind := kindW w.data.toList, args := [(takeR s l (goR r) 1).1], ref := (takeR s l (takeR s l (goR r) 1).2 1).1 }, (takeR s l (takeR s l (goR r) 1).2 1).2)) := by
    rw [valueR]; simp only [hw]; rw [if_neg b]
  have hi : inI64 ((r.n : Int) + 1) := by simp only [inI64]; omega
  have hn1 : (goR r).n ≤ l.length := hlt.2
  rw [hv]
  clear hv
  refine x.cond rfl hi (fun b1 => ?_) (fun b1 => ?_)
  · have b1 : decide (0 < (opV w : Int)) = true := b1
    have b1 : ¬ opV w = 0 := by
      have := of_decide_eq_true b1
      omega
    rw [if_pos b1]
    refine x.call [0] rfl trivial rfl (nameR_spec s l (goR r) hl (by omega)) rfl ⟨⟨rfl, rfl⟩, trivial⟩ ⟨⟨rfl, veq0_d rfl, by show VEq0 (vi ((r.n : Int) + 1)) (vi ((r.n + 1 : Nat) : Int)); rw [Int.natCast_add]; rfl, rfl, rfl, rfl, trivial⟩, trivial⟩ ?_
    have n1 := takeR_le (s := s) (k := 1) hn1
    obtain ⟨⟨t1, r1⟩, h1⟩ : ∃ z, takeR s l (goR r) 1 = z := ⟨_, rfl⟩
    rw [h1] at n1 ⊢
    dsimp only at n1 ⊢
    refine x.call [0] rfl trivial rfl (nameR_spec s l r1 hl (by omega)) rfl ⟨⟨rfl, rfl⟩, trivial⟩ ⟨⟨rfl, veq0_d rfl, rfl, rfl, rfl, rfl, trivial⟩, trivial⟩ ?_
    refine Go.atExit [4] ?_
    refine x.exit rfl trivial ?_
    refine ⟨.inr rfl, ⟨rfl, rfl, rfl, rfl, rfl, ⟨rfl, fun _ => rfl, fun j hj => ?_⟩, rfl, rfl, rfl, trivial⟩, ⟨⟨rfl, veq0_d rfl, rfl, rfl, rfl, rfl, trivial⟩, trivial⟩, rfl⟩
    match j, hj with
    | 0, _ => rfl
    | 1, _ => rfl
    | n + 2, h => exact absurd h (by show ¬ n + 2 < 2; omega)
  have b1 : decide (0 < (opV w : Int)) = false := b1
  have b1 : opV w = 0 := by
    have := of_decide_eq_false b1
    omega
  rw [if_neg (by omega)]
  have hk : kindW w.data.toList ≠ 0 := fun h => b ⟨b1, h⟩

  refine x.cond rfl trivial (fun bconst => ?_) (fun bconst => ?_)
  · have bconst : decide (w.data.toList = [99, 111, 110, 115, 116]) = true := bconst
    have bconst : w.data.toList = [99, 111, 110, 115, 116] := of_decide_eq_true bconst
    rw [if_pos bconst]
    have hk3 : kindW [99, 111, 110, 115, 116] = 1 := by decide
    rw [bconst, hk3]
    refine x.call [0] rfl trivial rfl (takeR_spec s l (goR r) hl (by omega) 3) rfl ⟨⟨rfl, rfl⟩, rfl, trivial⟩ ⟨⟨rfl, veq0_d rfl, by show VEq0 (vi ((r.n : Int) + 1)) (vi ((r.n + 1 : Nat) : Int)); rw [Int.natCast_add]; rfl, rfl, rfl, rfl, trivial⟩, trivial⟩ ?_
    have hz : (takeR s l (goR r) 3).1.size ≤ 9223372036854775807 := by
      have : (takeR s l (goR r) 3).1.size ≤ 140737488355328 := by
        unfold takeR; split
        · exact textR_size hl
        · show (0 : Nat) ≤ _; omega
      omega
    obtain ⟨⟨t1, r1⟩, h1⟩ : ∃ z, takeR s l (goR r) 3 = z := ⟨_, rfl⟩
    rw [h1] at hz ⊢
    dsimp only at hz ⊢
    refine x.pure rfl trivial rfl (ref_number_spec t1 hz) ⟨rfl, trivial⟩ ?_
    refine x.exit rfl trivial ?_
    exact ⟨.inr rfl, ⟨rfl, rfl, rfl, rfl, rfl, rfl, rfl, rfl, rfl, trivial⟩, ⟨⟨rfl, veq0_d rfl, rfl, rfl, rfl, rfl, trivial⟩, trivial⟩, rfl⟩
  have bconst : decide (w.data.toList = [99, 111, 110, 115, 116]) = false := bconst
  have bconst : ¬ w.data.toList = [99, 111, 110, 115, 116] := of_decide_eq_false bconst
  refine x.cond rfl trivial (fun bphi => ?_) (fun bphi => ?_)
  · have bphi : decide (w.data.toList = [112, 104, 105]) = true := bphi
    have bphi : w.data.toList = [112, 104, 105] := of_decide_eq_true bphi
    rw [if_neg bconst, if_pos bphi]
    have hk3 : kindW [112, 104, 105] = 3 := by decide
    rw [bphi, hk3]
    refine x.call [0] rfl trivial rfl (pairsR_spec s l (goR r) hl hL hn1 ⟨3, 0, d, .empty, .empty, [], [], 0, a⟩ rfl rfl) rfl ⟨⟨rfl, rfl⟩, ⟨rfl, rfl, rfl, rfl, rfl, trivial, trivial, rfl, rfl, trivial⟩, trivial⟩ ⟨⟨rfl, veq0_d rfl, by show VEq0 (vi ((r.n : Int) + 1)) (vi ((r.n + 1 : Nat) : Int)); rw [Int.natCast_add]; rfl, rfl, rfl, rfl, trivial⟩, trivial⟩ ?_
    refine x.exit rfl trivial ?_
    exact ⟨.inr rfl, ⟨rfl, rfl, rfl, rfl, rfl, veq0_d rfl, veq0_d rfl, rfl, rfl, trivial⟩, ⟨⟨rfl, veq0_d rfl, rfl, rfl, rfl, rfl, trivial⟩, trivial⟩, rfl⟩
  have bphi : decide (w.data.toList = [112, 104, 105]) = false := bphi
  have bphi : ¬ w.data.toList = [112, 104, 105] := of_decide_eq_false bphi
  refine x.cond rfl trivial (fun bload => ?_) (fun bload => ?_)
  · have bload : decide (w.data.toList = [108, 111, 97, 100]) = true := bload
    have bload : w.data.toList = [108, 111, 97, 100] := of_decide_eq_true bload
    refine x.cond rfl trivial (fun _ => ?_) (fun bb => ?_)
    rotate_left
    · have bb : decide (w.data.toList = [108, 111, 97, 100]) = false := bb
      exact absurd bload (of_decide_eq_false bb)
    rw [if_neg bconst, if_neg bphi, if_pos (.inl bload)]
    have hk3 : kindW [108, 111, 97, 100] = 4 := by decide
    rw [bload, hk3]
    refine x.call [0] rfl trivial rfl (nameR_spec s l (goR r) hl (by omega)) rfl ⟨⟨rfl, rfl⟩, trivial⟩ ⟨⟨rfl, veq0_d rfl, by show VEq0 (vi ((r.n : Int) + 1)) (vi ((r.n + 1 : Nat) : Int)); rw [Int.natCast_add]; rfl, rfl, rfl, rfl, trivial⟩, trivial⟩ ?_
    have n1 := takeR_le (s := s) (k := 1) hn1
    obtain ⟨⟨t1, r1⟩, h1⟩ : ∃ z, takeR s l (goR r) 1 = z := ⟨_, rfl⟩
    rw [h1] at n1 ⊢
    dsimp only at n1 ⊢
    refine x.call [0] rfl trivial rfl (nameR_spec s l r1 hl (by omega)) rfl ⟨⟨rfl, rfl⟩, trivial⟩ ⟨⟨rfl, veq0_d rfl, rfl, rfl, rfl, rfl, trivial⟩, trivial⟩ ?_
    refine Go.atExit [4] ?_
    refine x.exit rfl trivial ?_
    exact ⟨.inr rfl, ⟨rfl, rfl, rfl, rfl, rfl, ⟨rfl, fun _ => rfl, fun j hj => one_str _ j hj⟩, rfl, rfl, rfl, trivial⟩, ⟨⟨rfl, veq0_d rfl, rfl, rfl, rfl, rfl, trivial⟩, trivial⟩, rfl⟩
  have bload : decide (w.data.toList = [108, 111, 97, 100]) = false := bload
  have bload : ¬ w.data.toList = [108, 111, 97, 100] := of_decide_eq_false bload
  refine x.cond rfl trivial (fun bwrap => ?_) (fun bwrap => ?_)
  · have bwrap : decide (w.data.toList = [119, 114, 97, 112]) = true := bwrap
    have bwrap : w.data.toList = [119, 114, 97, 112] := of_decide_eq_true bwrap
    rw [if_neg bconst, if_neg bphi, if_pos (.inr bwrap)]
    have hk3 : kindW [119, 114, 97, 112] = 5 := by decide
    rw [bwrap, hk3]
    refine x.call [0] rfl trivial rfl (nameR_spec s l (goR r) hl (by omega)) rfl ⟨⟨rfl, rfl⟩, trivial⟩ ⟨⟨rfl, veq0_d rfl, by show VEq0 (vi ((r.n : Int) + 1)) (vi ((r.n + 1 : Nat) : Int)); rw [Int.natCast_add]; rfl, rfl, rfl, rfl, trivial⟩, trivial⟩ ?_
    have n1 := takeR_le (s := s) (k := 1) hn1
    obtain ⟨⟨t1, r1⟩, h1⟩ : ∃ z, takeR s l (goR r) 1 = z := ⟨_, rfl⟩
    rw [h1] at n1 ⊢
    dsimp only at n1 ⊢
    refine x.call [0] rfl trivial rfl (nameR_spec s l r1 hl (by omega)) rfl ⟨⟨rfl, rfl⟩, trivial⟩ ⟨⟨rfl, veq0_d rfl, rfl, rfl, rfl, rfl, trivial⟩, trivial⟩ ?_
    refine Go.atExit [4] ?_
    refine x.exit rfl trivial ?_
    exact ⟨.inr rfl, ⟨rfl, rfl, rfl, rfl, rfl, ⟨rfl, fun _ => rfl, fun j hj => one_str _ j hj⟩, rfl, rfl, rfl, trivial⟩, ⟨⟨rfl, veq0_d rfl, rfl, rfl, rfl, rfl, trivial⟩, trivial⟩, rfl⟩
  have bwrap : decide (w.data.toList = [119, 114, 97, 112]) = false := bwrap
  have bwrap : ¬ w.data.toList = [119, 114, 97, 112] := of_decide_eq_false bwrap
  refine x.cond rfl trivial (fun bcall => ?_) (fun bcall => ?_)
  · have bcall : decide (w.data.toList = [99, 97, 108, 108]) = true := bcall
    have bcall : w.data.toList = [99, 97, 108, 108] := of_decide_eq_true bcall
    rw [if_neg bconst, if_neg bphi, if_neg (fun h => h.elim bload bwrap), if_pos bcall]
    have hk3 : kindW [99, 97, 108, 108] = 7 := by decide
    rw [bcall, hk3]
    refine x.call [0] rfl trivial rfl (nameR_spec s l (goR r) hl (by omega)) rfl ⟨⟨rfl, rfl⟩, trivial⟩ ⟨⟨rfl, veq0_d rfl, by show VEq0 (vi ((r.n : Int) + 1)) (vi ((r.n + 1 : Nat) : Int)); rw [Int.natCast_add]; rfl, rfl, rfl, rfl, trivial⟩, trivial⟩ ?_
    have n1 := takeR_le (s := s) (k := 1) hn1
    obtain ⟨⟨t1, r1⟩, h1⟩ : ∃ z, takeR s l (goR r) 1 = z := ⟨_, rfl⟩
    rw [h1] at n1 ⊢
    dsimp only at n1 ⊢
    refine x.call [0] rfl trivial rfl (namesR_spec s l r1 hl hL n1) rfl ⟨⟨rfl, rfl⟩, trivial⟩ ⟨⟨rfl, veq0_d rfl, rfl, rfl, rfl, rfl, trivial⟩, trivial⟩ ?_
    refine x.exit rfl trivial ?_
    exact ⟨.inr rfl, ⟨rfl, rfl, rfl, rfl, rfl, veq0_d rfl, rfl, rfl, rfl, trivial⟩, ⟨⟨rfl, veq0_d rfl, rfl, rfl, rfl, rfl, trivial⟩, trivial⟩, rfl⟩
  have bcall : decide (w.data.toList = [99, 97, 108, 108]) = false := bcall
  have bcall : ¬ w.data.toList = [99, 97, 108, 108] := of_decide_eq_false bcall
  refine x.cond rfl trivial (fun binput => ?_) (fun binput => ?_)
  · have binput : decide (w.data.toList = [105, 110, 112, 117, 116]) = true := binput
    have binput : w.data.toList = [105, 110, 112, 117, 116] := of_decide_eq_true binput
    rw [if_neg bconst, if_neg bphi, if_neg (fun h => h.elim bload bwrap), if_neg bcall, if_pos binput]
    have hk3 : kindW [105, 110, 112, 117, 116] = 8 := by decide
    rw [binput, hk3]
    refine x.call [0] rfl trivial rfl (nameR_spec s l (goR r) hl (by omega)) rfl ⟨⟨rfl, rfl⟩, trivial⟩ ⟨⟨rfl, veq0_d rfl, by show VEq0 (vi ((r.n : Int) + 1)) (vi ((r.n + 1 : Nat) : Int)); rw [Int.natCast_add]; rfl, rfl, rfl, rfl, trivial⟩, trivial⟩ ?_
    refine x.exit rfl trivial ?_
    exact ⟨.inr rfl, ⟨rfl, rfl, rfl, rfl, rfl, rfl, rfl, rfl, rfl, trivial⟩, ⟨⟨rfl, veq0_d rfl, rfl, rfl, rfl, rfl, trivial⟩, trivial⟩, rfl⟩
  have binput : decide (w.data.toList = [105, 110, 112, 117, 116]) = false := binput
  have binput : ¬ w.data.toList = [105, 110, 112, 117, 116] := of_decide_eq_false binput
  refine x.cond rfl trivial (fun brelease => ?_) (fun brelease => ?_)
  · have brelease : decide (w.data.toList = [114, 101, 108, 101, 97, 115, 101]) = true := brelease
    have brelease : w.data.toList = [114, 101, 108, 101, 97, 115, 101] := of_decide_eq_true brelease
    rw [if_neg bconst, if_neg bphi, if_neg (fun h => h.elim bload bwrap), if_neg bcall, if_neg binput]
    have hk3 : kindW [114, 101, 108, 101, 97, 115, 101] = 10 := by decide
    rw [brelease, hk3]
    refine x.call [0] rfl trivial rfl (nameR_spec s l (goR r) hl (by omega)) rfl ⟨⟨rfl, rfl⟩, trivial⟩ ⟨⟨rfl, veq0_d rfl, by show VEq0 (vi ((r.n : Int) + 1)) (vi ((r.n + 1 : Nat) : Int)); rw [Int.natCast_add]; rfl, rfl, rfl, rfl, trivial⟩, trivial⟩ ?_
    have n1 := takeR_le (s := s) (k := 1) hn1
    obtain ⟨⟨t1, r1⟩, h1⟩ : ∃ z, takeR s l (goR r) 1 = z := ⟨_, rfl⟩
    rw [h1] at n1 ⊢
    dsimp only at n1 ⊢
    refine x.call [0] rfl trivial rfl (nameR_spec s l r1 hl (by omega)) rfl ⟨⟨rfl, rfl⟩, trivial⟩ ⟨⟨rfl, veq0_d rfl, rfl, rfl, rfl, rfl, trivial⟩, trivial⟩ ?_
    refine Go.atExit [4] ?_
    refine x.exit rfl trivial ?_
    exact ⟨.inr rfl, ⟨rfl, rfl, rfl, rfl, rfl, ⟨rfl, fun _ => rfl, fun j hj => one_str _ j hj⟩, rfl, rfl, rfl, trivial⟩, ⟨⟨rfl, veq0_d rfl, rfl, rfl, rfl, rfl, trivial⟩, trivial⟩, rfl⟩
  have brelease : decide (w.data.toList = [114, 101, 108, 101, 97, 115, 101]) = false := brelease
  have brelease : ¬ w.data.toList = [114, 101, 108, 101, 97, 115, 101] := of_decide_eq_false brelease
  refine absurd ?_ hk
  unfold kindW
  rw [if_neg bconst, if_neg bphi, if_neg bload, if_neg bwrap, if_neg bcall, if_neg binput, if_neg brelease]
end
end Go.Proofs.YtikkppdihepmdaaDoor

/- An instruction, as the answer reads it: the walk. Written by gen07z.py. -/
namespace Go.Proofs.YtikkppdihepmdaaDoor
open Go.Sx
set_option linter.unusedVariables false
set_option linter.unusedSimpArgs false
set_option maxRecDepth 100000

theorem kindA_cases {w : List UInt8} (h : kindA w ≠ 0) : w = [115, 116, 111, 114, 101] ∨ w = [111, 117, 116, 112, 117, 116] ∨ w = [106, 117, 109, 112] ∨ w = [98, 114, 97, 110, 99, 104] ∨ w = [114, 101, 116, 117, 114, 110] := by
  unfold kindA at h
  split at h
  · exact .inl ‹_›
  split at h
  · exact .inr (.inl ‹_›)
  split at h
  · exact .inr (.inr (.inl ‹_›))
  split at h
  · exact .inr (.inr (.inr (.inl ‹_›)))
  split at h
  · exact .inr (.inr (.inr (.inr ‹_›)))
  exact absurd rfl h
theorem app_str2 (a b : ByteArray) (j : Nat) (hj : j < 2) : app 1 (app 0 (fun i => [D.str (([] : List ByteArray).getD i .empty)]) fun _ => [D.str a]) (fun _ => [D.str b]) j = [D.str (([a, b] : List ByteArray).getD j .empty)] := by
  match j, hj with
  | 0, _ => rfl
  | 1, _ => rfl
  | n + 2, h => omega
section
variable (s : ByteArray) (l : List Tok) (r : Rd) (hl : Lies s l) (hL : l.length ≤ 1000000) (hn : r.n ≤ l.length) (hc : r.c ≤ 4096)
set_option maxHeartbeats 4000000 in
include hl hL hn hc in
theorem instrR_spec : Proc PG 71 1 [.ptr 0 0] [rC s l r] (xD (instrR s l r).1) [rC s l (instrR s l r).2] := by
  have hll := hl.2.1
  refine Proc.mk (cfgF 122 1) tysOK [0] Tryd.func71 rfl (by kernel_rfl) rfl rfl rfl ?_
  intro C x
  refine x.call [0] rfl trivial rfl (place7_spec s l r (by omega)) rfl ⟨⟨rfl, rfl⟩, trivial⟩ ⟨⟨rfl, veq0_d rfl, rfl, rfl, rfl, rfl, trivial⟩, trivial⟩ ?_
  refine x.call [0] rfl trivial rfl (textR_spec s l r hl (by omega) 0 (by omega)) rfl ⟨⟨rfl, rfl⟩, rfl, trivial⟩ ⟨⟨rfl, veq0_d rfl, rfl, rfl, rfl, rfl, trivial⟩, trivial⟩ ?_
  obtain ⟨w, hw⟩ : ∃ w, (textR s l r 0) = w := ⟨_, rfl⟩
  have hv : instrR s l r = if kindA w.data.toList = 0 ∧ isR l r 1 = false then (ins0 (atV s l r.n), failR s l r 7)
      else if kindA w.data.toList = 0 ∧ ¬ (textR s l r 1).data.toList = [61] then (ins0 (atV s l r.n), failR s l (goR r) 7)
      else if 4096 ≤ r.c then (ins0 (atV s l r.n), failR s l r 3)
      else if kindA w.data.toList = 0 then valueR s l (needR s l (takeR s l { r with c := r.c + 1 } 1).2 [61]) { ins0 (atV s l r.n) with dst := (takeR s l { r with c := r.c + 1 } 1).1 }
      else actR s l (goR { r with c := r.c + 1 }) { ins0 (atV s l r.n) with kind := kindA w.data.toList } w.data.toList := by
    rw [← hw]; rfl
  rw [hw, hv]
  clear hv
  refine x.callG [0] rfl (by simp only [AllP, List.map, newKey]; decide) rfl (fun _ => isR_spec s l r 1) rfl ⟨⟨rfl, rfl⟩, rfl, trivial⟩ ⟨⟨rfl, veq0_d rfl, rfl, rfl, rfl, rfl, trivial⟩, trivial⟩ ⟨⟨rfl, rfl, rfl, rfl, rfl, rfl, rfl, rfl, rfl, rfl, trivial⟩, ⟨rfl, veq0_d rfl, rfl, rfl, rfl, rfl, trivial⟩, ⟨rfl, rfl, rfl, rfl, rfl, trivial, trivial, rfl, rfl, trivial⟩, ⟨rfl, rfl, rfl, rfl, rfl, trivial, trivial, rfl, rfl, trivial⟩, trivial⟩ ?_
  refine x.cond rfl trivial (fun b => ?_) (fun b => ?_)
  · have b : (decide (kindA w.data.toList = 0) && !isR l r 1) = true := b
    have b : kindA w.data.toList = 0 ∧ isR l r 1 = false := by simpa using b
    rw [if_pos b]
    refine x.call [0] rfl trivial rfl (failR_spec s l r (by omega) 7) rfl ⟨⟨rfl, rfl⟩, rfl, trivial⟩ ⟨⟨rfl, veq0_d rfl, rfl, rfl, rfl, rfl, trivial⟩, trivial⟩ ?_
    refine x.exit rfl trivial ?_
    exact ⟨.inr rfl, ⟨rfl, rfl, rfl, rfl, rfl, rfl, rfl, rfl, rfl, trivial⟩, ⟨⟨rfl, veq0_d rfl, rfl, rfl, rfl, rfl, trivial⟩, trivial⟩, rfl⟩
  have b : (decide (kindA w.data.toList = 0) && !isR l r 1) = false := b
  have b : ¬ (kindA w.data.toList = 0 ∧ isR l r 1 = false) := by
    rintro ⟨h1, h2⟩
    rw [h1, h2] at b
    simp at b
  rw [if_neg b]
  refine x.callG [0] rfl trivial rfl (fun _ => textR_spec s l r hl (by omega) 1 (by omega)) rfl ⟨⟨rfl, rfl⟩, rfl, trivial⟩ ⟨⟨rfl, veq0_d rfl, rfl, rfl, rfl, rfl, trivial⟩, trivial⟩ ⟨⟨rfl, rfl, rfl, rfl, rfl, rfl, rfl, rfl, rfl, rfl, trivial⟩, ⟨rfl, veq0_d rfl, rfl, rfl, rfl, rfl, trivial⟩, ⟨rfl, rfl, rfl, rfl, rfl, trivial, trivial, rfl, rfl, trivial⟩, ⟨rfl, rfl, rfl, rfl, rfl, trivial, trivial, rfl, rfl, trivial⟩, trivial⟩ ?_
  have hlt : r.n < l.length := by
    by_cases hk : kindA w.data.toList = 0
    · have h1 : isR l r 1 = true := by
        cases h : isR l r 1 with
        | true => rfl
        | false => exact absurd ⟨hk, h⟩ b
      exact (isR_lt h1).2
    · rcases hb : w.data.toList with _ | ⟨c, t⟩
      · rw [hb] at hk; exact absurd (by decide) hk
      · exact (textR_lt (s := s) (l := l) (r := r) (k := 0) (by rw [hw]; exact hb)).2
  have hi : inI64 ((r.n : Int) + 1) := by simp only [inI64]; omega
  have hi2 : inI64 ((r.c : Int) + 1) := by simp only [inI64]; omega
  refine x.cond rfl trivial (fun b2 => ?_) (fun b2 => ?_)
  · have b2 : (decide (kindA w.data.toList = 0) && !decide ((textR s l r 1).data.toList = [61])) = true := b2
    have b2 : kindA w.data.toList = 0 ∧ ¬ (textR s l r 1).data.toList = [61] := by simpa using b2
    rw [if_pos b2]
    refine x.call [0] rfl hi rfl (failR_spec s l (goR r) (by show r.n + 1 ≤ _; omega) 7) rfl ⟨⟨rfl, rfl⟩, rfl, trivial⟩ ⟨⟨rfl, veq0_d rfl, by show VEq0 (vi ((r.n : Int) + 1)) (vi ((r.n + 1 : Nat) : Int)); rw [Int.natCast_add]; rfl, rfl, rfl, rfl, trivial⟩, trivial⟩ ?_
    refine x.exit rfl trivial ?_
    exact ⟨.inr rfl, ⟨rfl, rfl, rfl, rfl, rfl, rfl, rfl, rfl, rfl, trivial⟩, ⟨⟨rfl, veq0_d rfl, rfl, rfl, rfl, rfl, trivial⟩, trivial⟩, rfl⟩
  have b2 : (decide (kindA w.data.toList = 0) && !decide ((textR s l r 1).data.toList = [61])) = false := b2
  have b2 : ¬ (kindA w.data.toList = 0 ∧ ¬ (textR s l r 1).data.toList = [61]) := by
    rintro ⟨h1, h2⟩
    rw [h1, decide_eq_false h2] at b2
    simp at b2
  rw [if_neg b2]
  refine x.cond rfl trivial (fun b3 => ?_) (fun b3 => ?_)
  · have b3 : (4096 : Int) ≤ (r.c : Int) := of_decide_eq_true b3
    rw [if_pos (by omega)]
    refine x.call [0] rfl trivial rfl (failR_spec s l r (by omega) 3) rfl ⟨⟨rfl, rfl⟩, rfl, trivial⟩ ⟨⟨rfl, veq0_d rfl, rfl, rfl, rfl, rfl, trivial⟩, trivial⟩ ?_
    refine x.exit rfl trivial ?_
    exact ⟨.inr rfl, ⟨rfl, rfl, rfl, rfl, rfl, rfl, rfl, rfl, rfl, trivial⟩, ⟨⟨rfl, veq0_d rfl, rfl, rfl, rfl, rfl, trivial⟩, trivial⟩, rfl⟩
  have b3 : ¬ (4096 : Int) ≤ (r.c : Int) := of_decide_eq_false b3
  rw [if_neg (by omega)]
  obtain ⟨r1, h1⟩ : ∃ q : Rd, { r with c := r.c + 1 } = q := ⟨_, rfl⟩
  have e1 : r1.n = r.n ∧ r1.c = r.c + 1 ∧ r1.a = r.a ∧ r1.e = r.e := by rw [← h1]; exact ⟨rfl, rfl, rfl, rfl⟩
  refine x.cond rfl hi2 (fun b4 => ?_) (fun b4 => ?_)
  · have b4 : decide (kindA w.data.toList = 0) = true := b4
    have b4 : kindA w.data.toList = 0 := of_decide_eq_true b4
    rw [if_pos b4]
    have hn0 : ({ r with c := r.c + 1 } : Rd).n ≤ l.length := hn
    refine x.call [0] rfl trivial rfl (nameR_spec s l { r with c := r.c + 1 } hl (by show r.n ≤ _; omega)) rfl ⟨⟨rfl, rfl⟩, trivial⟩ ⟨⟨rfl, veq0_d rfl, rfl, by show VEq0 (vi ((r.c : Int) + 1)) (vi ((r.c + 1 : Nat) : Int)); rw [Int.natCast_add]; rfl, rfl, rfl, trivial⟩, trivial⟩ ?_
    have n1 := takeR_le (s := s) (k := 1) hn0
    obtain ⟨⟨t1, q1⟩, ht1⟩ : ∃ z, takeR s l { r with c := r.c + 1 } 1 = z := ⟨_, rfl⟩
    rw [ht1] at n1 ⊢
    dsimp only at n1 ⊢
    refine x.call [0] rfl trivial rfl (needR_spec s l q1 hl (by omega) ⟨#[61]⟩) rfl ⟨⟨rfl, rfl⟩, rfl, trivial⟩ ⟨⟨rfl, veq0_d rfl, rfl, rfl, rfl, rfl, trivial⟩, trivial⟩ ?_
    have n2 := needR_le (s := s) (b := 61) (t := []) n1
    obtain ⟨q2, hq2⟩ : ∃ z, needR s l q1 [61] = z := ⟨_, rfl⟩
    rw [show needR s l q1 (⟨#[61]⟩ : ByteArray).data.toList = q2 from hq2]
    rw [hq2] at n2
    refine x.call [0] rfl trivial rfl (valueR_spec s l q2 hl hL n2 t1 (atV s l r.n)) rfl ⟨⟨rfl, rfl⟩, ⟨rfl, rfl, rfl, rfl, rfl, trivial, trivial, rfl, rfl, trivial⟩, trivial⟩ ⟨⟨rfl, veq0_d rfl, rfl, rfl, rfl, rfl, trivial⟩, trivial⟩ ?_
    refine x.exit rfl trivial ?_
    exact ⟨.inr rfl, ⟨rfl, rfl, rfl, rfl, rfl, veq0_d rfl, veq0_d rfl, rfl, rfl, trivial⟩, ⟨⟨rfl, veq0_d rfl, rfl, rfl, rfl, rfl, trivial⟩, trivial⟩, rfl⟩
  have b4 : decide (kindA w.data.toList = 0) = false := b4
  have b4 : ¬ kindA w.data.toList = 0 := of_decide_eq_false b4
  rw [if_neg b4]
  have hn0 : (goR { r with c := r.c + 1 }).n ≤ l.length := hlt
  rcases kindA_cases b4 with bw | bw | bw | bw | bw

  · rw [show actR s l (goR { r with c := r.c + 1 }) { ins0 (atV s l r.n) with kind := kindA w.data.toList } w.data.toList = ({ ({ ins0 (atV s l r.n) with kind := 6 } : Ins) with ref := (takeR s l (goR { r with c := r.c + 1 }) 1).1, args := [(takeR s l (takeR s l (goR { r with c := r.c + 1 }) 1).2 1).1, (takeR s l (takeR s l (takeR s l (goR { r with c := r.c + 1 }) 1).2 1).2 1).1] }, (takeR s l (takeR s l (takeR s l (goR { r with c := r.c + 1 }) 1).2 1).2 1).2) by rw [bw]; rfl, bw]
    refine x.cond rfl hi (fun b5 => ?_) (fun b5 => ?_)
    · rw [bw] at b5; exact absurd b5 (by decide)
    refine x.cond rfl trivial (fun b6 => ?_) (fun b6 => ?_)
    rotate_left
    · rw [bw] at b6; exact absurd b6 (by decide)
    refine x.call [0] rfl trivial rfl (nameR_spec s l (goR { r with c := r.c + 1 }) hl (by first | omega | (show r.n + 1 ≤ _; omega))) rfl ⟨⟨rfl, rfl⟩, trivial⟩ ⟨⟨rfl, veq0_d rfl, by show VEq0 (vi ((r.n : Int) + 1)) (vi ((r.n + 1 : Nat) : Int)); rw [Int.natCast_add]; rfl, by show VEq0 (vi ((r.c : Int) + 1)) (vi ((r.c + 1 : Nat) : Int)); rw [Int.natCast_add]; rfl, rfl, rfl, trivial⟩, trivial⟩ ?_
    have n1 := takeR_le (s := s) (k := 1) hn0
    obtain ⟨⟨t1, q1⟩, ht1⟩ : ∃ z, takeR s l (goR { r with c := r.c + 1 }) 1 = z := ⟨_, rfl⟩
    rw [ht1] at n1 ⊢
    dsimp only at n1 ⊢
    refine x.cond rfl trivial (fun b7 => ?_) (fun b7 => ?_)
    · rw [bw] at b7; exact absurd b7 (by decide)
    refine x.cond rfl trivial (fun b8 => ?_) (fun b8 => ?_)
    rotate_left
    · rw [bw] at b8; exact absurd b8 (by decide)
    refine Go.ownB 2 5 9 1 (fun i => [.str (([] : List ByteArray).getD i .empty)]) rfl rfl ?_
    refine x.draw [0] [2] [0, 1] [3, 4] [5, 6, 7] rfl trivial mixedP (by kernel_rfl) (NoPanic.quiet Ret.noPanic) rfl trivial (fun C1 x1 => ?_)
    refine x1.call [0] rfl trivial rfl (nameR_spec s l (q1) hl (by omega)) rfl ⟨⟨rfl, rfl⟩, trivial⟩ ⟨⟨rfl, veq0_d rfl, rfl, rfl, rfl, rfl, trivial⟩, trivial⟩ ?_
    refine x1.back rfl trivial ?_
    refine x1.back rfl trivial ?_
    have n2 := takeR_le (s := s) (k := 1) n1
    obtain ⟨⟨t2, q2⟩, ht2⟩ : ∃ z, takeR s l (q1) 1 = z := ⟨_, rfl⟩
    rw [ht2] at n2 ⊢
    dsimp only at n2 ⊢
    refine x.cond rfl (by simp only [AllP, big, List.length_cons, List.length_nil]; omega) (fun b9 => ?_) (fun b9 => ?_)
    rotate_left
    · rw [bw] at b9; exact absurd b9 (by decide)
    refine x.draw [0] [2] [0, 1] [3, 4] [5, 6, 7] rfl trivial mixedP (by kernel_rfl) (NoPanic.quiet Ret.noPanic) rfl trivial (fun C1 x1 => ?_)
    refine x1.call [0] rfl trivial rfl (nameR_spec s l (q2) hl (by omega)) rfl ⟨⟨rfl, rfl⟩, trivial⟩ ⟨⟨rfl, veq0_d rfl, rfl, rfl, rfl, rfl, trivial⟩, trivial⟩ ?_
    refine x1.back rfl trivial ?_
    refine x1.back rfl trivial ?_
    refine Go.atExit [4] ?_
    refine x.exit rfl (by simp only [AllP, big, List.length_cons, List.length_nil]; omega) ?_
    exact ⟨.inr rfl, ⟨rfl, rfl, rfl, rfl, rfl, ⟨rfl, fun _ => rfl, fun j hj => app_str2 _ _ j hj⟩, rfl, rfl, rfl, trivial⟩, ⟨⟨rfl, veq0_d rfl, rfl, rfl, rfl, rfl, trivial⟩, trivial⟩, rfl⟩
  · rw [show actR s l (goR { r with c := r.c + 1 }) { ins0 (atV s l r.n) with kind := kindA w.data.toList } w.data.toList = ({ ({ ins0 (atV s l r.n) with kind := 9 } : Ins) with ref := (takeR s l (goR { r with c := r.c + 1 }) 1).1, args := [(takeR s l (takeR s l (goR { r with c := r.c + 1 }) 1).2 1).1] }, (takeR s l (takeR s l (goR { r with c := r.c + 1 }) 1).2 1).2) by rw [bw]; rfl, bw]
    refine x.cond rfl hi (fun b5 => ?_) (fun b5 => ?_)
    · rw [bw] at b5; exact absurd b5 (by decide)
    refine x.cond rfl trivial (fun b6 => ?_) (fun b6 => ?_)
    rotate_left
    · rw [bw] at b6; exact absurd b6 (by decide)
    refine x.call [0] rfl trivial rfl (nameR_spec s l (goR { r with c := r.c + 1 }) hl (by first | omega | (show r.n + 1 ≤ _; omega))) rfl ⟨⟨rfl, rfl⟩, trivial⟩ ⟨⟨rfl, veq0_d rfl, by show VEq0 (vi ((r.n : Int) + 1)) (vi ((r.n + 1 : Nat) : Int)); rw [Int.natCast_add]; rfl, by show VEq0 (vi ((r.c : Int) + 1)) (vi ((r.c + 1 : Nat) : Int)); rw [Int.natCast_add]; rfl, rfl, rfl, trivial⟩, trivial⟩ ?_
    have n1 := takeR_le (s := s) (k := 1) hn0
    obtain ⟨⟨t1, q1⟩, ht1⟩ : ∃ z, takeR s l (goR { r with c := r.c + 1 }) 1 = z := ⟨_, rfl⟩
    rw [ht1] at n1 ⊢
    dsimp only at n1 ⊢
    refine x.cond rfl trivial (fun b7 => ?_) (fun b7 => ?_)
    · rw [bw] at b7; exact absurd b7 (by decide)
    refine x.cond rfl trivial (fun b8 => ?_) (fun b8 => ?_)
    rotate_left
    · rw [bw] at b8; exact absurd b8 (by decide)
    refine Go.ownB 2 5 9 1 (fun i => [.str (([] : List ByteArray).getD i .empty)]) rfl rfl ?_
    refine x.draw [0] [2] [0, 1] [3, 4] [5, 6, 7] rfl trivial mixedP (by kernel_rfl) (NoPanic.quiet Ret.noPanic) rfl trivial (fun C1 x1 => ?_)
    refine x1.call [0] rfl trivial rfl (nameR_spec s l (q1) hl (by omega)) rfl ⟨⟨rfl, rfl⟩, trivial⟩ ⟨⟨rfl, veq0_d rfl, rfl, rfl, rfl, rfl, trivial⟩, trivial⟩ ?_
    refine x1.back rfl trivial ?_
    refine x1.back rfl trivial ?_
    refine x.cond rfl (by simp only [AllP, big, List.length_cons, List.length_nil]; omega) (fun b9 => ?_) (fun b9 => ?_)
    · rw [bw] at b9; exact absurd b9 (by decide)
    refine Go.atExit [4] ?_
    refine x.exit rfl trivial ?_
    exact ⟨.inr rfl, ⟨rfl, rfl, rfl, rfl, rfl, ⟨rfl, fun _ => rfl, fun j hj => app_str [] _ j hj⟩, rfl, rfl, rfl, trivial⟩, ⟨⟨rfl, veq0_d rfl, rfl, rfl, rfl, rfl, trivial⟩, trivial⟩, rfl⟩
  · rw [show actR s l (goR { r with c := r.c + 1 }) { ins0 (atV s l r.n) with kind := kindA w.data.toList } w.data.toList = ({ ({ ins0 (atV s l r.n) with kind := 11 } : Ins) with ref := (takeR s l (goR { r with c := r.c + 1 }) 1).1 }, (takeR s l (goR { r with c := r.c + 1 }) 1).2) by rw [bw]; rfl, bw]
    refine x.cond rfl hi (fun b5 => ?_) (fun b5 => ?_)
    · rw [bw] at b5; exact absurd b5 (by decide)
    refine x.cond rfl trivial (fun b6 => ?_) (fun b6 => ?_)
    rotate_left
    · rw [bw] at b6; exact absurd b6 (by decide)
    refine x.call [0] rfl trivial rfl (nameR_spec s l (goR { r with c := r.c + 1 }) hl (by first | omega | (show r.n + 1 ≤ _; omega))) rfl ⟨⟨rfl, rfl⟩, trivial⟩ ⟨⟨rfl, veq0_d rfl, by show VEq0 (vi ((r.n : Int) + 1)) (vi ((r.n + 1 : Nat) : Int)); rw [Int.natCast_add]; rfl, by show VEq0 (vi ((r.c : Int) + 1)) (vi ((r.c + 1 : Nat) : Int)); rw [Int.natCast_add]; rfl, rfl, rfl, trivial⟩, trivial⟩ ?_
    have n1 := takeR_le (s := s) (k := 1) hn0
    obtain ⟨⟨t1, q1⟩, ht1⟩ : ∃ z, takeR s l (goR { r with c := r.c + 1 }) 1 = z := ⟨_, rfl⟩
    rw [ht1] at n1 ⊢
    dsimp only at n1 ⊢
    refine x.cond rfl trivial (fun b7 => ?_) (fun b7 => ?_)
    · rw [bw] at b7; exact absurd b7 (by decide)
    refine x.cond rfl trivial (fun b8 => ?_) (fun b8 => ?_)
    · rw [bw] at b8; exact absurd b8 (by decide)
    refine x.cond rfl trivial (fun b9 => ?_) (fun b9 => ?_)
    · rw [bw] at b9; exact absurd b9 (by decide)
    refine x.exit rfl trivial ?_
    exact ⟨.inr rfl, ⟨rfl, rfl, rfl, rfl, rfl, rfl, rfl, rfl, rfl, trivial⟩, ⟨⟨rfl, veq0_d rfl, rfl, rfl, rfl, rfl, trivial⟩, trivial⟩, rfl⟩
  · rw [show actR s l (goR { r with c := r.c + 1 }) { ins0 (atV s l r.n) with kind := kindA w.data.toList } w.data.toList = ({ ({ ins0 (atV s l r.n) with kind := 12 } : Ins) with args := [(takeR s l (goR { r with c := r.c + 1 }) 1).1], ref := (takeR s l (takeR s l (goR { r with c := r.c + 1 }) 1).2 1).1, alt := (takeR s l (takeR s l (takeR s l (goR { r with c := r.c + 1 }) 1).2 1).2 1).1 }, (takeR s l (takeR s l (takeR s l (goR { r with c := r.c + 1 }) 1).2 1).2 1).2) by rw [bw]; rfl, bw]
    refine x.cond rfl hi (fun b5 => ?_) (fun b5 => ?_)
    rotate_left
    · rw [bw] at b5; exact absurd b5 (by decide)
    refine x.call [0] rfl trivial rfl (nameR_spec s l (goR { r with c := r.c + 1 }) hl (by first | omega | (show r.n + 1 ≤ _; omega))) rfl ⟨⟨rfl, rfl⟩, trivial⟩ ⟨⟨rfl, veq0_d rfl, by show VEq0 (vi ((r.n : Int) + 1)) (vi ((r.n + 1 : Nat) : Int)); rw [Int.natCast_add]; rfl, by show VEq0 (vi ((r.c : Int) + 1)) (vi ((r.c + 1 : Nat) : Int)); rw [Int.natCast_add]; rfl, rfl, rfl, trivial⟩, trivial⟩ ?_
    have n1 := takeR_le (s := s) (k := 1) hn0
    obtain ⟨⟨t1, q1⟩, ht1⟩ : ∃ z, takeR s l (goR { r with c := r.c + 1 }) 1 = z := ⟨_, rfl⟩
    rw [ht1] at n1 ⊢
    dsimp only at n1 ⊢
    refine x.cond rfl trivial (fun b6 => ?_) (fun b6 => ?_)
    rotate_left
    · rw [bw] at b6; exact absurd b6 (by decide)
    refine x.call [0] rfl trivial rfl (nameR_spec s l (q1) hl (by first | omega | (show r.n + 1 ≤ _; omega))) rfl ⟨⟨rfl, rfl⟩, trivial⟩ ⟨⟨rfl, veq0_d rfl, rfl, rfl, rfl, rfl, trivial⟩, trivial⟩ ?_
    have n2 := takeR_le (s := s) (k := 1) n1
    obtain ⟨⟨t2, q2⟩, ht2⟩ : ∃ z, takeR s l (q1) 1 = z := ⟨_, rfl⟩
    rw [ht2] at n2 ⊢
    dsimp only at n2 ⊢
    refine x.cond rfl trivial (fun b7 => ?_) (fun b7 => ?_)
    rotate_left
    · rw [bw] at b7; exact absurd b7 (by decide)
    refine x.call [0] rfl trivial rfl (nameR_spec s l (q2) hl (by first | omega | (show r.n + 1 ≤ _; omega))) rfl ⟨⟨rfl, rfl⟩, trivial⟩ ⟨⟨rfl, veq0_d rfl, rfl, rfl, rfl, rfl, trivial⟩, trivial⟩ ?_
    have n3 := takeR_le (s := s) (k := 1) n2
    obtain ⟨⟨t3, q3⟩, ht3⟩ : ∃ z, takeR s l (q2) 1 = z := ⟨_, rfl⟩
    rw [ht3] at n3 ⊢
    dsimp only at n3 ⊢
    refine x.cond rfl trivial (fun b8 => ?_) (fun b8 => ?_)
    · rw [bw] at b8; exact absurd b8 (by decide)
    refine x.cond rfl trivial (fun b9 => ?_) (fun b9 => ?_)
    · rw [bw] at b9; exact absurd b9 (by decide)
    refine Go.atExit [4] ?_
    refine x.exit rfl trivial ?_
    exact ⟨.inr rfl, ⟨rfl, rfl, rfl, rfl, rfl, ⟨rfl, fun _ => rfl, fun j hj => one_str _ j hj⟩, rfl, rfl, rfl, trivial⟩, ⟨⟨rfl, veq0_d rfl, rfl, rfl, rfl, rfl, trivial⟩, trivial⟩, rfl⟩
  · rw [show actR s l (goR { r with c := r.c + 1 }) { ins0 (atV s l r.n) with kind := kindA w.data.toList } w.data.toList = ({ ({ ins0 (atV s l r.n) with kind := 13 } : Ins) with args := [(takeR s l (goR { r with c := r.c + 1 }) 1).1] }, (takeR s l (goR { r with c := r.c + 1 }) 1).2) by rw [bw]; rfl, bw]
    refine x.cond rfl hi (fun b5 => ?_) (fun b5 => ?_)
    rotate_left
    · rw [bw] at b5; exact absurd b5 (by decide)
    refine x.call [0] rfl trivial rfl (nameR_spec s l (goR { r with c := r.c + 1 }) hl (by first | omega | (show r.n + 1 ≤ _; omega))) rfl ⟨⟨rfl, rfl⟩, trivial⟩ ⟨⟨rfl, veq0_d rfl, by show VEq0 (vi ((r.n : Int) + 1)) (vi ((r.n + 1 : Nat) : Int)); rw [Int.natCast_add]; rfl, by show VEq0 (vi ((r.c : Int) + 1)) (vi ((r.c + 1 : Nat) : Int)); rw [Int.natCast_add]; rfl, rfl, rfl, trivial⟩, trivial⟩ ?_
    have n1 := takeR_le (s := s) (k := 1) hn0
    obtain ⟨⟨t1, q1⟩, ht1⟩ : ∃ z, takeR s l (goR { r with c := r.c + 1 }) 1 = z := ⟨_, rfl⟩
    rw [ht1] at n1 ⊢
    dsimp only at n1 ⊢
    refine x.cond rfl trivial (fun b6 => ?_) (fun b6 => ?_)
    · rw [bw] at b6; exact absurd b6 (by decide)
    refine x.cond rfl trivial (fun b7 => ?_) (fun b7 => ?_)
    · rw [bw] at b7; exact absurd b7 (by decide)
    refine x.cond rfl trivial (fun b8 => ?_) (fun b8 => ?_)
    · rw [bw] at b8; exact absurd b8 (by decide)
    refine x.cond rfl trivial (fun b9 => ?_) (fun b9 => ?_)
    · rw [bw] at b9; exact absurd b9 (by decide)
    refine Go.atExit [4] ?_
    refine x.exit rfl trivial ?_
    exact ⟨.inr rfl, ⟨rfl, rfl, rfl, rfl, rfl, ⟨rfl, fun _ => rfl, fun j hj => one_str _ j hj⟩, rfl, rfl, rfl, trivial⟩, ⟨⟨rfl, veq0_d rfl, rfl, rfl, rfl, rfl, trivial⟩, trivial⟩, rfl⟩
end
end Go.Proofs.YtikkppdihepmdaaDoor

/- The answer's parser: where it stands lies in the tokens, and how many instructions there are. -/
namespace Go.Proofs.YtikkppdihepmdaaDoor
open Go.Sx
set_option linter.unusedVariables false
set_option linter.unusedSimpArgs false
set_option maxRecDepth 100000
section
variable {s : ByteArray} {l : List Tok}
/-- It stands in the tokens, and has as many instructions. -/
def Sane (l : List Tok) (r q : Rd) : Prop := q.n ≤ l.length ∧ q.c = r.c
theorem sane_gu {r : Rd} {p : Prop} [Decidable p] (h : r.n ≤ l.length) : Sane l r (if p then failR s l r 3 else r) := by
  split
  · exact ⟨by rw [failR_n]; exact h, failR_c⟩
  · exact ⟨h, rfl⟩
theorem sane_take {r : Rd} {k : Int} (h : r.n ≤ l.length) : Sane l r (takeR s l r k).2 := ⟨takeR_le h, takeR_c⟩
theorem sane_need {r : Rd} {b : UInt8} {t : List UInt8} (h : r.n ≤ l.length) : Sane l r (needR s l r (b :: t)) := ⟨needR_le h, needR_c⟩
theorem Sane.trans {a b c : Rd} (h1 : Sane l a b) (h2 : Sane l b c) : Sane l a c := ⟨h2.1, h2.2.trans h1.2⟩
theorem namesRF_sane : ∀ (f : Nat) (r : Rd) (out : List ByteArray), r.n ≤ l.length → Sane l r (namesRF s l f r out).2
  | 0, r, out, h => ⟨h, rfl⟩
  | f + 1, r, out, h => by
    rw [namesRF]
    split
    · have h1 := sane_gu (s := s) (p := isR l r 1 = true ∧ 6 ≤ out.length) h
      generalize (if isR l r 1 = true ∧ 6 ≤ out.length then failR s l r 3 else r) = g at h1 ⊢
      have h2 := h1.trans (sane_take (s := s) (k := 1) h1.1)
      dsimp only
      split
      · rename_i h3
        have h4 := (textR_lt h3).2
        exact (show Sane l r (goR _) from ⟨h4, h2.2⟩).trans (namesRF_sane f _ _ h4)
      · exact h2
    · exact ⟨h, rfl⟩
theorem namesR_sane {r : Rd} (h : r.n ≤ l.length) : Sane l r (namesR s l r).2 := by
  unfold namesR
  have h1 := sane_need (s := s) (b := 40) (t := []) h
  dsimp only
  split
  · rename_i h3
    exact ⟨(textR_lt h3).2, h1.2⟩
  · have h2 := h1.trans (namesRF_sane (s := s) (l.length + 2) _ [] h1.1)
    exact h2.trans (sane_need h2.1)
theorem pairsRF_sane : ∀ (f : Nat) (r : Rd) (x : Ins), r.n ≤ l.length → Sane l r (pairsRF s l f r x).2
  | 0, r, x, h => ⟨h, rfl⟩
  | f + 1, r, x, h => by
    rw [pairsRF]
    split
    · have h1 := sane_gu (s := s) (p := isR l r 1 = true ∧ 64 ≤ x.frm.length) h
      generalize (if isR l r 1 = true ∧ 64 ≤ x.frm.length then failR s l r 3 else r) = g at h1 ⊢
      have h2 := h1.trans (sane_take (s := s) (k := 1) h1.1)
      have h3 := h2.trans (sane_need (s := s) (b := 58) (t := []) h2.1)
      have h4 := h3.trans (sane_take (s := s) (k := 1) h3.1)
      dsimp only
      split
      · rename_i h5
        have h6 := (textR_lt h5).2
        exact (show Sane l r (goR _) from ⟨h6, h4.2⟩).trans (pairsRF_sane f _ _ h6)
      · exact h4
    · exact ⟨h, rfl⟩
theorem phiR_sane {r : Rd} {x : Ins} (h : r.n ≤ l.length) : Sane l r (phiR s l r x).2 := by
  have h1 := sane_need (s := s) (b := 91) (t := []) h
  have h2 := h1.trans (pairsRF_sane (s := s) (l.length + 2) _ x h1.1)
  exact h2.trans (sane_need h2.1)
theorem kindW_lt {r : Rd} (h : ¬ (opV (textR s l r 0) = 0 ∧ kindW (textR s l r 0).data.toList = 0)) : r.e = 0 ∧ r.n < l.length := by
  rcases hb : (textR s l r 0).data.toList with _ | ⟨c, t⟩
  · refine absurd ⟨?_, ?_⟩ h
    · unfold opV; rw [hb]; decide
    · rw [hb]; decide
  · exact textR_lt (k := 0) hb
theorem valueR_sane {r : Rd} {x : Ins} (h : r.n ≤ l.length) : Sane l r (valueR s l r x).2 := by
  unfold valueR
  dsimp only
  split
  · exact ⟨by rw [failR_n]; exact h, failR_c⟩
  · rename_i h0
    have hg : Sane l r (goR r) := ⟨(kindW_lt h0).2, rfl⟩
    have h1 := hg.trans (sane_take (s := s) (k := 1) hg.1)
    have h2 := h1.trans (sane_take (s := s) (k := 1) h1.1)
    split
    · exact h2
    split
    · exact hg.trans (sane_take hg.1)
    split
    · exact hg.trans (phiR_sane hg.1)
    split
    · exact h2
    split
    · exact h1.trans (namesR_sane h1.1)
    split
    · exact h1
    · exact h2
theorem actR_sane {r : Rd} {x : Ins} {w : List UInt8} (h : r.n ≤ l.length) : Sane l r (actR s l r x w).2 := by
  unfold actR
  dsimp only
  have step : ∀ {p : Prop} [Decidable p] {a : Ins × Rd} {y : Ins}, Sane l r a.2 → Sane l r (if p then (y, (takeR s l a.2 1).2) else a).2 := fun {p} _ {a} {y} ha => by
    split
    · exact ha.trans (sane_take ha.1)
    · exact ha
  have step2 : ∀ {p : Prop} [Decidable p] {a : Ins × Rd} {y : Ins}, Sane l r a.2 → Sane l r (if p then a else (y, (takeR s l a.2 1).2)).2 := fun {p} _ {a} {y} ha => by
    split
    · exact ha
    · exact ha.trans (sane_take ha.1)
  exact step (step (step (step2 (step (a := (x, r)) ⟨h, rfl⟩))))
theorem kindA_lt {r : Rd} (h : kindA (textR s l r 0).data.toList ≠ 0) : r.e = 0 ∧ r.n < l.length := by
  rcases hb : (textR s l r 0).data.toList with _ | ⟨c, t⟩
  · rw [hb] at h; exact absurd (by decide) h
  · exact textR_lt (k := 0) hb
theorem instrR_sane {r : Rd} (h : r.n ≤ l.length) (hc : r.c ≤ 4096) : (instrR s l r).2.n ≤ l.length ∧ (instrR s l r).2.c ≤ 4096 ∧ ((instrR s l r).2.e = 0 → (instrR s l r).2.c = r.c + 1) := by
  have hf : ∀ (q : Rd) (e : Int), e ≠ 0 → (failR s l q e).e ≠ 0 := fun q e he => by
    unfold failR
    split
    · exact he
    · assumption
  unfold instrR
  dsimp only
  split
  · exact ⟨by rw [failR_n]; exact h, by rw [failR_c]; exact hc, fun h0 => absurd h0 (hf _ _ (by decide))⟩
  rename_i h1
  have hlt : r.n < l.length := by
    by_cases hk : kindA (textR s l r 0).data.toList = 0
    · have h2 : isR l r 1 = true := by
        cases h3 : isR l r 1 with
        | true => rfl
        | false => exact absurd ⟨hk, h3⟩ h1
      exact (isR_lt h2).2
    · exact (kindA_lt hk).2
  split
  · exact ⟨by rw [failR_n]; exact hlt, by rw [failR_c]; exact hc, fun h0 => absurd h0 (hf _ _ (by decide))⟩
  split
  · exact ⟨by rw [failR_n]; exact h, by rw [failR_c]; exact hc, fun h0 => absurd h0 (hf _ _ (by decide))⟩
  rename_i h4
  split
  · have h5 : Sane l { r with c := r.c + 1 } { r with c := r.c + 1 } := ⟨h, rfl⟩
    have h6 := h5.trans (sane_take (s := s) (k := 1) h5.1)
    have h7 := h6.trans (sane_need (s := s) (b := 61) (t := []) h6.1)
    have h8 := h7.trans (valueR_sane (s := s) (x := { ins0 (atV s l r.n) with dst := (takeR s l { r with c := r.c + 1 } 1).1 }) h7.1)
    have h9 : (valueR s l (needR s l (takeR s l { r with c := r.c + 1 } 1).2 [61]) { ins0 (atV s l r.n) with dst := (takeR s l { r with c := r.c + 1 } 1).1 }).2.c = r.c + 1 := h8.2
    exact ⟨h8.1, by rw [h9]; omega, fun _ => h9⟩
  · have h5 : (goR { r with c := r.c + 1 }).n ≤ l.length := hlt
    have h8 := actR_sane (s := s) (x := { ins0 (atV s l r.n) with kind := kindA (textR s l r 0).data.toList }) (w := (textR s l r 0).data.toList) h5
    have h9 := h8.2
    exact ⟨h8.1, by rw [h9]; show r.c + 1 ≤ _; omega, fun _ => h9⟩
theorem codeRF_sane : ∀ (f : Nat) (r : Rd) (xs : List Ins), r.n ≤ l.length → r.c ≤ 4096 → (codeRF s l f r xs).2.n ≤ l.length ∧ (codeRF s l f r xs).2.c ≤ 4096
  | 0, r, xs, h, hc => ⟨h, hc⟩
  | f + 1, r, xs, h, hc => by
    rw [codeRF]
    split
    · obtain ⟨h1, h2, _⟩ := instrR_sane (s := s) h hc
      exact codeRF_sane f _ _ h1 h2
    · exact ⟨h, hc⟩
theorem blockR_sane {r : Rd} (h : r.n ≤ l.length) (hc : r.c ≤ 4096) : (blockR s l r).2.n ≤ l.length ∧ (blockR s l r).2.c ≤ 4096 := by
  have h1 := sane_take (s := s) (k := 1) h
  have h2 := h1.trans (sane_need (s := s) (b := 58) (t := []) h1.1)
  exact codeRF_sane _ _ _ h2.1 (by rw [h2.2]; exact hc)
theorem blocksRF_sane : ∀ (f : Nat) (r : Rd) (bs : List Blk), r.n ≤ l.length → r.c ≤ 4096 → (blocksRF s l f r bs).2.1.n ≤ l.length ∧ (blocksRF s l f r bs).2.1.c ≤ 4096
  | 0, r, xs, h, hc => ⟨h, hc⟩
  | f + 1, r, xs, h, hc => by
    rw [blocksRF]
    split
    · split
      · exact ⟨by rw [failR_n]; exact h, by rw [failR_c]; exact hc⟩
      · obtain ⟨h1, h2⟩ := blockR_sane (s := s) h hc
        exact blocksRF_sane f _ _ h1 h2
    · exact ⟨h, hc⟩
theorem funcR_sane {r : Rd} (h : r.n ≤ l.length) (hc : r.c ≤ 4096) : (funcR s l r).2.n ≤ l.length ∧ (funcR s l r).2.c ≤ 4096 := by
  have h1 := sane_need (s := s) (b := 102) (t := [110]) h
  have h2 := h1.trans (sane_take (s := s) (k := 1) h1.1)
  have h3 := h2.trans (namesR_sane (s := s) h2.1)
  have h4 := h3.trans (sane_need (s := s) (b := 123) (t := []) h3.1)
  obtain ⟨h5, h6⟩ := blockR_sane (s := s) h4.1 (by rw [h4.2]; exact hc)
  obtain ⟨h7, h8⟩ := blocksRF_sane (s := s) 65 _ [(blockR s l (needR s l (namesR s l (takeR s l (needR s l r [102, 110]) 1).2).2 [123])).1] h5 h6
  unfold funcR
  dsimp only
  split
  · exact ⟨h7, h8⟩
  · exact ⟨needR_le h7, by rw [needR_c]; exact h8⟩
theorem sizeR_c (r : Rd) : (sizeR s l r).2.c = r.c := by
  unfold sizeR
  split
  · dsimp only
    split
    · exact failR_c
    · rfl
  · rfl
theorem arrR_sane {r : Rd} (h : r.n ≤ l.length) : Sane l r (arrR s l r).2 := by
  have h1 := sane_need (s := s) (b := 97) (t := [114, 114, 97, 121]) h
  have h2 := h1.trans (sane_take (s := s) (k := 1) h1.1)
  have h3 : Sane l r (sizeR s l (takeR s l (needR s l r [97, 114, 114, 97, 121]) 1).2).2 := h2.trans ⟨by rw [size_n]; exact h2.1, sizeR_c _⟩
  have h4 := h3.trans (sane_take (s := s) (k := 3) h3.1)
  exact h4.trans (sane_take (s := s) (k := 1) h4.1)
end
end Go.Proofs.YtikkppdihepmdaaDoor

/- A block and a function, as the answer reads them: the walks. -/
namespace Go.Proofs.YtikkppdihepmdaaDoor
open Go.Sx
set_option linter.unusedVariables false
set_option linter.unusedSimpArgs false
set_option maxRecDepth 100000

structure BRW (s : ByteArray) (l : List Tok) (R : List Ins × Rd) where
  f : Nat
  r : Rd
  xs : List Ins
  hf : r.e = 0 → 4098 ≤ f + r.c
  hf0 : 0 < f
  hn : r.n ≤ l.length
  hc : r.c ≤ 4096
  hx : xs.length + f ≤ 4098
  same : codeRF s l f r xs = R
section
variable (s : ByteArray) (l : List Tok) (r : Rd) (hl : Lies s l) (hL : l.length ≤ 1000000) (hn : r.n ≤ l.length) (hc : r.c ≤ 4096)
set_option maxHeartbeats 2000000 in
include hl hL hn hc in
theorem blockR_spec : Proc PG 50 1 [.ptr 0 0] [rC s l r] (.agg [vs (blockR s l r).1.name, .d (dCode (blockR s l r).1.code), vi (blockR s l r).1.at_]) [rC s l (blockR s l r).2] := by
  have hll := hl.2.1
  refine Proc.mk (cfgF 40 1) tysOK [0] Tryd.func50 rfl (by kernel_rfl) rfl rfl rfl ?_
  intro C x
  refine x.call [0] rfl trivial rfl (place7_spec s l r (by omega)) rfl ⟨⟨rfl, rfl⟩, trivial⟩ ⟨⟨rfl, veq0_d rfl, rfl, rfl, rfl, rfl, trivial⟩, trivial⟩ ?_
  refine x.call [0] rfl trivial rfl (nameR_spec s l r hl (by omega)) rfl ⟨⟨rfl, rfl⟩, trivial⟩ ⟨⟨rfl, veq0_d rfl, rfl, rfl, rfl, rfl, trivial⟩, trivial⟩ ?_
  have h1 := sane_take (s := s) (k := 1) hn
  have hb : blockR s l r = (⟨(takeR s l r 1).1, (codeRF s l 4098 (needR s l (takeR s l r 1).2 [58]) []).1, atV s l r.n⟩, (codeRF s l 4098 (needR s l (takeR s l r 1).2 [58]) []).2) := rfl
  rw [hb]
  clear hb
  obtain ⟨⟨t1, q1⟩, ht1⟩ : ∃ z, takeR s l r 1 = z := ⟨_, rfl⟩
  rw [ht1] at h1 ⊢
  dsimp only at h1 ⊢
  refine x.call [0] rfl trivial rfl (needR_spec s l q1 hl (by have := h1.1; omega) ⟨#[58]⟩) rfl ⟨⟨rfl, rfl⟩, rfl, trivial⟩ ⟨⟨rfl, veq0_d rfl, rfl, rfl, rfl, rfl, trivial⟩, trivial⟩ ?_
  have h2 := h1.trans (sane_need (s := s) (b := 58) (t := []) h1.1)
  obtain ⟨q2, hq2⟩ : ∃ z, needR s l q1 [58] = z := ⟨_, rfl⟩
  rw [show needR s l q1 (⟨#[58]⟩ : ByteArray).data.toList = q2 from hq2]
  rw [hq2] at h2
  obtain ⟨R, hR⟩ : ∃ R, codeRF s l 4098 q2 [] = R := ⟨_, rfl⟩
  rw [hR]
  refine x.toLoop rfl trivial ?_
  refine Go.ownB 2 1 49 9 (fun i => dIns (([] : List Ins).getD i (ins0 0))) rfl rfl ?_
  refine x.loop (α := BRW s l R) (fun y => ⟨[(0, .ptr 0 0), (2, .ptr 1 0), (3, .ptr 2 0)], [(0, rC s l y.r), (1, .box [vs .empty, .nils, vi 0]), (2, .box [vs t1, .own 3, vi (atV s l r.n)]), (3, codeC y.xs)], 4⟩) (fun y => y.f) ⟨4098, q2, [], fun _ => by omega, by omega, h2.1, by rw [h2.2]; exact hc, by simp, hR⟩ rfl trivial ⟨⟨⟨rfl, rfl⟩, ⟨rfl, rfl⟩, ⟨rfl, rfl⟩, trivial⟩, ⟨⟨rfl, veq0_d rfl, rfl, rfl, rfl, rfl, trivial⟩, ⟨rfl, trivial, rfl, trivial⟩, ⟨rfl, rfl, rfl, trivial⟩, ⟨rfl, rfl, rfl, fun j hj => absurd hj (Nat.not_lt_zero _)⟩, trivial⟩, rfl⟩ (fun y => ?_)
  obtain ⟨f, q, xs, hf, hf0, hqn, hqc, hx, same⟩ := y
  change Go C _ ⟨[(0, .ptr 0 0), (2, .ptr 1 0), (3, .ptr 2 0)], [(0, rC s l q), (1, .box [vs .empty, .nils, vi 0]), (2, .box [vs t1, .own 3, vi (atV s l r.n)]), (3, codeC xs)], 4⟩ _
  obtain ⟨f, rfl⟩ : ∃ f', f = f' + 1 := ⟨f - 1, by omega⟩
  rw [codeRF] at same
  refine x.callG [0] rfl trivial rfl (fun _ => textR_spec s l q hl (by omega) 0 (by omega)) rfl ⟨⟨rfl, rfl⟩, rfl, trivial⟩ ⟨⟨rfl, veq0_d rfl, rfl, rfl, rfl, rfl, trivial⟩, trivial⟩ ⟨⟨rfl, veq0_d rfl, rfl, rfl, rfl, rfl, trivial⟩, ⟨rfl, trivial, rfl, trivial⟩, ⟨rfl, rfl, rfl, trivial⟩, ⟨rfl, rfl, rfl, fun _ _ => rfl⟩, trivial⟩ ?_
  refine x.callG [0] rfl trivial rfl (fun _ => isR_spec s l q 1) rfl ⟨⟨rfl, rfl⟩, rfl, trivial⟩ ⟨⟨rfl, veq0_d rfl, rfl, rfl, rfl, rfl, trivial⟩, trivial⟩ ⟨⟨rfl, veq0_d rfl, rfl, rfl, rfl, rfl, trivial⟩, ⟨rfl, trivial, rfl, trivial⟩, ⟨rfl, rfl, rfl, trivial⟩, ⟨rfl, rfl, rfl, fun _ _ => rfl⟩, trivial⟩ ?_
  refine x.callG [0] rfl trivial rfl (fun _ _ => textR_spec s l q hl (by omega) 1 (by omega)) rfl ⟨⟨rfl, rfl⟩, rfl, trivial⟩ ⟨⟨rfl, veq0_d rfl, rfl, rfl, rfl, rfl, trivial⟩, trivial⟩ ⟨⟨rfl, veq0_d rfl, rfl, rfl, rfl, rfl, trivial⟩, ⟨rfl, trivial, rfl, trivial⟩, ⟨rfl, rfl, rfl, trivial⟩, ⟨rfl, rfl, rfl, fun _ _ => rfl⟩, trivial⟩ ?_
  have hcond : (((decide (q.e = 0) && !decide ((textR s l q 0).data.toList = [125])) && !(isR l q 1 && decide ((textR s l q 1).data.toList = [58]))) = true) ↔ (q.e = 0 ∧ ¬ (textR s l q 0).data.toList = [125] ∧ begR s l q = false) := by
    unfold begR
    simp only [Bool.and_eq_true, decide_eq_true_eq, Bool.not_eq_true', decide_eq_false_iff_not, and_assoc]
  refine x.cond rfl trivial (fun b => ?_) (fun b => ?_)
  · have b := hcond.1 b
    rw [if_pos b] at same
    obtain ⟨i1, i2, i3⟩ := instrR_sane (s := s) hqn hqc
    have c1 := instrR_spec s l q hl hL hqn hqc
    have hfc := hf b.1
    obtain ⟨⟨x', q'⟩, hz⟩ : ∃ z, instrR s l q = z := ⟨_, rfl⟩
    rw [hz] at i1 i2 i3 c1 same
    dsimp only at i1 i2 i3 c1 same
    refine x.draw [0] [2] [0, 1] [3, 4] [5, 6, 7] rfl trivial mixedP (by kernel_rfl) (NoPanic.quiet Ret.noPanic) rfl trivial (fun C1 x1 => ?_)
    refine x1.call [0] rfl trivial rfl c1 rfl ⟨⟨rfl, rfl⟩, trivial⟩ ⟨⟨rfl, veq0_d rfl, rfl, rfl, rfl, rfl, trivial⟩, trivial⟩ ?_
    refine x1.back rfl trivial ?_
    refine x1.back rfl trivial ?_
    refine x.back rfl ?_ ⟨⟨f, q', xs ++ [x'], fun h => by have := i3 h; omega, by omega, i1, i2, by rw [List.length_append]; simp only [List.length_cons, List.length_nil]; omega, same⟩, by show f < f + 1; omega, ⟨⟨rfl, rfl⟩, ⟨rfl, rfl⟩, ⟨rfl, rfl⟩, trivial⟩, ⟨⟨rfl, veq0_d rfl, rfl, rfl, rfl, rfl, trivial⟩, ⟨rfl, trivial, rfl, trivial⟩, ⟨rfl, rfl, rfl, trivial⟩, ⟨rfl, rfl, by simp, fun j hj => app_gen dIns 9 (fun _ => rfl) (ins0 0) xs x' j hj⟩, trivial⟩, rfl⟩
    simp only [AllP, big]; omega
  · have b' : ¬ (q.e = 0 ∧ ¬ (textR s l q 0).data.toList = [125] ∧ begR s l q = false) := fun h => by
      have h2 := hcond.2 h
      exact absurd (h2.symm.trans b) (by simp)
    rw [if_neg b'] at same
    refine Go.atExit [3] ?_
    refine x.exit rfl trivial ?_
    rw [← same]
    exact ⟨.inr rfl, ⟨rfl, veq0_d rfl, rfl, trivial⟩, ⟨⟨rfl, veq0_d rfl, rfl, rfl, rfl, rfl, trivial⟩, trivial⟩, rfl⟩
end
structure FRW (s : ByteArray) (l : List Tok) (R : List Blk × Rd × Bool) where
  f : Nat
  r : Rd
  bs : List Blk
  hf : f + bs.length = 66
  hb : bs.length ≤ 64
  hn : r.n ≤ l.length
  hc : r.c ≤ 4096
  same : blocksRF s l f r bs = R
theorem beg_cond {s : ByteArray} {l : List Tok} {q : Rd} {b : Bool} (h : (isR l q 1 && decide ((textR s l q 1).data.toList = [58])) = b) : begR s l q = b := h
section
variable (s : ByteArray) (l : List Tok) (r : Rd) (hl : Lies s l) (hL : l.length ≤ 1000000) (hn : r.n ≤ l.length) (hc : r.c ≤ 4096)
abbrev fnV (f : Fun) : V := .agg [vs f.name, .d (dStrs f.params), .d (dBlks f.blocks), vi f.at_]
set_option maxHeartbeats 4000000 in
include hl hL hn hc in
theorem funcR_spec : Proc PG 23 1 [.ptr 0 0] [rC s l r] (fnV (funcR s l r).1) [rC s l (funcR s l r).2] := by
  have hll := hl.2.1
  refine Proc.mk (cfgF 48 1) tysOK [0] Tryd.func23 rfl (by kernel_rfl) rfl rfl rfl ?_
  intro C x
  refine x.call [0] rfl trivial rfl (place7_spec s l r (by omega)) rfl ⟨⟨rfl, rfl⟩, trivial⟩ ⟨⟨rfl, veq0_d rfl, rfl, rfl, rfl, rfl, trivial⟩, trivial⟩ ?_
  refine x.call [0] rfl trivial rfl (needR_spec s l r hl (by omega) ⟨#[102, 110]⟩) rfl ⟨⟨rfl, rfl⟩, rfl, trivial⟩ ⟨⟨rfl, veq0_d rfl, rfl, rfl, rfl, rfl, trivial⟩, trivial⟩ ?_
  have h1 := sane_need (s := s) (b := 102) (t := [110]) hn
  have hb : funcR s l r = (⟨(takeR s l (needR s l r [102, 110]) 1).1, (namesR s l (takeR s l (needR s l r [102, 110]) 1).2).1, (blocksRF s l 65 (blockR s l (needR s l (namesR s l (takeR s l (needR s l r [102, 110]) 1).2).2 [123])).2 [(blockR s l (needR s l (namesR s l (takeR s l (needR s l r [102, 110]) 1).2).2 [123])).1]).1, atV s l r.n⟩, if (blocksRF s l 65 (blockR s l (needR s l (namesR s l (takeR s l (needR s l r [102, 110]) 1).2).2 [123])).2 [(blockR s l (needR s l (namesR s l (takeR s l (needR s l r [102, 110]) 1).2).2 [123])).1]).2.2 = true then (blocksRF s l 65 (blockR s l (needR s l (namesR s l (takeR s l (needR s l r [102, 110]) 1).2).2 [123])).2 [(blockR s l (needR s l (namesR s l (takeR s l (needR s l r [102, 110]) 1).2).2 [123])).1]).2.1 else needR s l (blocksRF s l 65 (blockR s l (needR s l (namesR s l (takeR s l (needR s l r [102, 110]) 1).2).2 [123])).2 [(blockR s l (needR s l (namesR s l (takeR s l (needR s l r [102, 110]) 1).2).2 [123])).1]).2.1 [125]) := rfl
  rw [hb]
  clear hb
  obtain ⟨q1, hq1⟩ : ∃ z, needR s l r [102, 110] = z := ⟨_, rfl⟩
  rw [show needR s l r (⟨#[102, 110]⟩ : ByteArray).data.toList = q1 from hq1]
  rw [hq1] at h1
  refine x.call [0] rfl trivial rfl (nameR_spec s l q1 hl (by have := h1.1; omega)) rfl ⟨⟨rfl, rfl⟩, trivial⟩ ⟨⟨rfl, veq0_d rfl, rfl, rfl, rfl, rfl, trivial⟩, trivial⟩ ?_
  have h2 := h1.trans (sane_take (s := s) (k := 1) h1.1)
  obtain ⟨⟨t2, q2⟩, ht2⟩ : ∃ z, takeR s l q1 1 = z := ⟨_, rfl⟩
  rw [ht2] at h2 ⊢
  dsimp only at h2 ⊢
  refine x.call [0] rfl trivial rfl (namesR_spec s l q2 hl hL h2.1) rfl ⟨⟨rfl, rfl⟩, trivial⟩ ⟨⟨rfl, veq0_d rfl, rfl, rfl, rfl, rfl, trivial⟩, trivial⟩ ?_
  have h3 := h2.trans (namesR_sane (s := s) h2.1)
  obtain ⟨⟨ps, q3⟩, ht3⟩ : ∃ z, namesR s l q2 = z := ⟨_, rfl⟩
  rw [ht3] at h3 ⊢
  dsimp only at h3 ⊢
  refine x.call [0] rfl trivial rfl (needR_spec s l q3 hl (by have := h3.1; omega) ⟨#[123]⟩) rfl ⟨⟨rfl, rfl⟩, rfl, trivial⟩ ⟨⟨rfl, veq0_d rfl, rfl, rfl, rfl, rfl, trivial⟩, trivial⟩ ?_
  have h4 := h3.trans (sane_need (s := s) (b := 123) (t := []) h3.1)
  obtain ⟨q4, hq4⟩ : ∃ z, needR s l q3 [123] = z := ⟨_, rfl⟩
  rw [show needR s l q3 (⟨#[123]⟩ : ByteArray).data.toList = q4 from hq4]
  rw [hq4] at h4
  have hc4 : q4.c ≤ 4096 := by rw [h4.2]; exact hc
  have c5 := blockR_spec s l q4 hl hL h4.1 hc4
  obtain ⟨m1, m2⟩ := blockR_sane (s := s) h4.1 hc4
  obtain ⟨⟨b5, q5⟩, ht5⟩ : ∃ z, blockR s l q4 = z := ⟨_, rfl⟩
  rw [ht5] at m1 m2 c5 ⊢
  dsimp only at m1 m2 c5 ⊢
  obtain ⟨R, hR⟩ : ∃ R, blocksRF s l 65 q5 [b5] = R := ⟨_, rfl⟩
  rw [hR]
  refine x.code rfl trivial ?_
  refine Go.ownB 2 2 41 3 (fun i => dBlk (([] : List Blk).getD i blk0)) rfl rfl ?_
  refine x.draw [0] [2] [0, 1] [3, 4] [5, 6, 7] rfl trivial mixedP (by kernel_rfl) (NoPanic.quiet Ret.noPanic) rfl trivial (fun C1 x1 => ?_)
  refine x1.call [0] rfl trivial rfl c5 rfl ⟨⟨rfl, rfl⟩, trivial⟩ ⟨⟨rfl, veq0_d rfl, rfl, rfl, rfl, rfl, trivial⟩, trivial⟩ ?_
  refine x1.back rfl trivial ?_
  refine x1.back rfl trivial ?_
  refine x.loop (α := FRW s l R) (fun y => ⟨[(0, .ptr 0 0), (2, .ptr 1 0), (3, .ptr 2 0)], [(0, rC s l y.r), (1, .box [vs .empty, .nils, .nils, vi 0]), (2, .box [vs t2, .d (dStrs ps), .own 3, vi (atV s l r.n)]), (3, blksC y.bs)], 4⟩) (fun y => y.f) ⟨65, q5, [b5], rfl, by simp, m1, m2, hR⟩ rfl (by simp only [AllP, big, List.length_cons, List.length_nil]; omega) ⟨⟨⟨rfl, rfl⟩, ⟨rfl, rfl⟩, ⟨rfl, rfl⟩, trivial⟩, ⟨⟨rfl, veq0_d rfl, rfl, rfl, rfl, rfl, trivial⟩, ⟨rfl, trivial, trivial, rfl, trivial⟩, ⟨rfl, veq0_d rfl, rfl, rfl, trivial⟩, ⟨rfl, rfl, rfl, fun j hj => app_gen dBlk 3 (fun _ => rfl) blk0 [] b5 j hj⟩, trivial⟩, rfl⟩ (fun y => ?_)
  obtain ⟨f, q, bs, hf, hb, hqn, hqc, same⟩ := y
  change Go C _ ⟨[(0, .ptr 0 0), (2, .ptr 1 0), (3, .ptr 2 0)], [(0, rC s l q), (1, .box [vs .empty, .nils, .nils, vi 0]), (2, .box [vs t2, .d (dStrs ps), .own 3, vi (atV s l r.n)]), (3, blksC bs)], 4⟩ _
  obtain ⟨f, rfl⟩ : ∃ f', f = f' + 1 := ⟨f - 1, by omega⟩
  rw [blocksRF] at same
  refine x.call [0] rfl trivial rfl (isR_spec s l q 1) rfl ⟨⟨rfl, rfl⟩, rfl, trivial⟩ ⟨⟨rfl, veq0_d rfl, rfl, rfl, rfl, rfl, trivial⟩, trivial⟩ ?_
  refine x.callG [0] rfl trivial rfl (fun _ => textR_spec s l q hl (by omega) 1 (by omega)) rfl ⟨⟨rfl, rfl⟩, rfl, trivial⟩ ⟨⟨rfl, veq0_d rfl, rfl, rfl, rfl, rfl, trivial⟩, trivial⟩ ⟨⟨rfl, veq0_d rfl, rfl, rfl, rfl, rfl, trivial⟩, ⟨rfl, trivial, trivial, rfl, trivial⟩, ⟨rfl, veq0_d rfl, rfl, rfl, trivial⟩, ⟨rfl, rfl, rfl, fun _ _ => rfl⟩, trivial⟩ ?_
  refine x.cond rfl trivial (fun b => ?_) (fun b => ?_)
  · have b := beg_cond b
    rw [if_pos b] at same
    refine x.cond rfl trivial (fun b2 => ?_) (fun b2 => ?_)
    · have b2 : (64 : Int) ≤ (bs.length : Int) := of_decide_eq_true b2
      rw [if_pos (by omega)] at same
      refine x.call [0] rfl trivial rfl (failR_spec s l q (by omega) 3) rfl ⟨⟨rfl, rfl⟩, rfl, trivial⟩ ⟨⟨rfl, veq0_d rfl, rfl, rfl, rfl, rfl, trivial⟩, trivial⟩ ?_
      refine Go.atExit [3] ?_
      refine x.exit rfl trivial ?_
      rw [← same]
      exact ⟨.inr rfl, ⟨rfl, veq0_d rfl, veq0_d rfl, rfl, trivial⟩, ⟨⟨rfl, veq0_d rfl, rfl, rfl, rfl, rfl, trivial⟩, trivial⟩, rfl⟩
    have b2 : ¬ (64 : Int) ≤ (bs.length : Int) := of_decide_eq_false b2
    rw [if_neg (by omega)] at same
    have c6 := blockR_spec s l q hl hL hqn hqc
    obtain ⟨m3, m4⟩ := blockR_sane (s := s) hqn hqc
    obtain ⟨⟨b', q'⟩, ht6⟩ : ∃ z, blockR s l q = z := ⟨_, rfl⟩
    rw [ht6] at m3 m4 c6 same
    dsimp only at m3 m4 c6 same
    refine x.draw [0] [2] [0, 1] [3, 4] [5, 6, 7] rfl trivial mixedP (by kernel_rfl) (NoPanic.quiet Ret.noPanic) rfl trivial (fun C1 x1 => ?_)
    refine x1.call [0] rfl trivial rfl c6 rfl ⟨⟨rfl, rfl⟩, trivial⟩ ⟨⟨rfl, veq0_d rfl, rfl, rfl, rfl, rfl, trivial⟩, trivial⟩ ?_
    refine x1.back rfl trivial ?_
    refine x1.back rfl trivial ?_
    refine x.back rfl (by simp only [AllP, big]; omega) ⟨⟨f, q', bs ++ [b'], by rw [List.length_append]; simp only [List.length_cons, List.length_nil]; omega, by rw [List.length_append]; simp only [List.length_cons, List.length_nil]; omega, m3, m4, same⟩, by show f < f + 1; omega, ⟨⟨rfl, rfl⟩, ⟨rfl, rfl⟩, ⟨rfl, rfl⟩, trivial⟩, ⟨⟨rfl, veq0_d rfl, rfl, rfl, rfl, rfl, trivial⟩, ⟨rfl, trivial, trivial, rfl, trivial⟩, ⟨rfl, veq0_d rfl, rfl, rfl, trivial⟩, ⟨rfl, rfl, by simp, fun j hj => app_gen dBlk 3 (fun _ => rfl) blk0 bs b' j hj⟩, trivial⟩, rfl⟩
  · have b := beg_cond b
    rw [b, if_neg (by simp)] at same
    refine x.call [0] rfl trivial rfl (needR_spec s l q hl (by omega) ⟨#[125]⟩) rfl ⟨⟨rfl, rfl⟩, rfl, trivial⟩ ⟨⟨rfl, veq0_d rfl, rfl, rfl, rfl, rfl, trivial⟩, trivial⟩ ?_
    refine Go.atExit [3] ?_
    refine x.exit rfl trivial ?_
    rw [← same]
    exact ⟨.inr rfl, ⟨rfl, veq0_d rfl, veq0_d rfl, rfl, trivial⟩, ⟨⟨rfl, veq0_d rfl, rfl, rfl, rfl, rfl, trivial⟩, trivial⟩, rfl⟩
end
end Go.Proofs.YtikkppdihepmdaaDoor

/- The plain law: the answer's parser does what the program's does, and stands still behind a fault. -/
namespace Go.Proofs.YtikkppdihepmdaaDoor
open Go.Sx
set_option linter.unusedVariables false
set_option linter.unusedSimpArgs false
set_option maxRecDepth 100000
section
variable {s : ByteArray} {l : List Tok} {r : Rd}
theorem textR_e0 (h : r.e = 0) (k : Nat) : textR s l r k = txV s l (r.n + k) := by rw [textR, if_pos h]
theorem textR_e1 (h : r.e ≠ 0) (k : Nat) : textR s l r k = .empty := by rw [textR, if_neg h]
theorem isR_e0 (h : r.e = 0) (k : Int) : isR l r k = isV l r.n k := by rw [isR, h]; rfl
theorem isR_e1 (h : r.e ≠ 0) (k : Int) : isR l r k = false := by rw [isR, decide_eq_false h]; rfl
theorem failR_e0 (h : r.e = 0) (e : Int) : failR s l r e = { r with a := atV s l r.n, e := e } := by rw [failR, if_pos h]
theorem failR_e1 (h : r.e ≠ 0) (e : Int) : failR s l r e = r := by rw [failR, if_neg h]
theorem takeR_e1 (h : r.e ≠ 0) (k : Int) : takeR s l r k = (.empty, r) := by rw [takeR, isR_e1 h, if_neg (by simp), failR_e1 h]
theorem needR_e1 (h : r.e ≠ 0) (b : UInt8) (t : List UInt8) : needR s l r (b :: t) = r := by
  rw [needR, textR_e1 h, if_neg (by show ¬ [] = b :: t; simp), failR_e1 h]

/-- What the answer does, as the program does it. -/
def Agr {α : Type} (r : Rd) (V : Except (Int × Int) (Nat × α)) (o : α) (q : Rd) : Prop :=
  (r.e ≠ 0 ∧ q.e = r.e ∧ q.a = r.a) ∨ (r.e = 0 ∧ V = .ok (q.n, o) ∧ q.e = 0 ∧ q.a = r.a) ∨ (r.e = 0 ∧ q.e ≠ 0 ∧ V = .error (q.a, q.e))
variable {α β : Type}
theorem Agr.bind {V : Except (Int × Int) (Nat × α)} {W : Nat → α → Except (Int × Int) (Nat × β)} {o : α} {p : β} {q t : Rd} (h1 : Agr r V o q) (h2 : q.e = 0 → V = .ok (q.n, o) → Agr q (W q.n o) p t) (h3 : q.e ≠ 0 → t.e = q.e ∧ t.a = q.a) : Agr r (bnd V W) p t := by
  rcases h1 with ⟨a1, a2, a3⟩ | ⟨a1, a2, a3, a4⟩ | ⟨a1, a2, a3⟩
  · obtain ⟨b1, b2⟩ := h3 (by rw [a2]; exact a1)
    exact .inl ⟨a1, b1.trans a2, b2.trans a3⟩
  · rcases h2 a3 a2 with ⟨b1, _⟩ | ⟨_, b2, b3, b4⟩ | ⟨_, b2, b3⟩
    · exact absurd a3 b1
    · exact .inr (.inl ⟨a1, by rw [a2]; exact b2, b3, b4.trans a4⟩)
    · exact .inr (.inr ⟨a1, b2, by rw [a2]; exact b3⟩)
  · obtain ⟨b1, b2⟩ := h3 a2
    exact .inr (.inr ⟨a1, by rw [b1]; exact a2, by rw [a3, b1, b2]; rfl⟩)
theorem Agr.still {V : Except (Int × Int) (Nat × α)} {o : α} {q : Rd} (h : Agr r V o q) (he : r.e ≠ 0) : q.e = r.e ∧ q.a = r.a := by
  rcases h with ⟨_, h⟩ | ⟨h, _⟩ | ⟨h, _⟩
  · exact h
  · exact absurd h he
  · exact absurd h he
theorem Agr.bind' {V : Except (Int × Int) (Nat × α)} {W : Nat → α → Except (Int × Int) (Nat × β)} {o : α} {p : β} {q t : Rd} (h1 : Agr r V o q) (h2 : Agr q (W q.n o) p t) : Agr r (bnd V W) p t :=
  h1.bind (fun _ _ => h2) h2.still
theorem Agr.map {V : Except (Int × Int) (Nat × α)} {o : α} {q : Rd} (h : Agr r V o q) (g : α → β) : Agr r (bnd V fun n x => .ok (n, g x)) (g o) q :=
  h.bind (fun h0 _ => .inr (.inl ⟨h0, rfl, h0, rfl⟩)) fun _ => ⟨rfl, rfl⟩
theorem Agr.ok (x : α) : Agr r (.ok (r.n, x)) x r := by
  by_cases h : r.e = 0
  · exact .inr (.inl ⟨h, rfl, h, rfl⟩)
  · exact .inl ⟨h, rfl, rfl⟩
/-- The end, without a fault. -/
theorem Agr.done {V : Except (Int × Int) (Nat × α)} {o : α} {q : Rd} (h : Agr r V o q) (he : q.e = 0) : r.e = 0 ∧ V = .ok (q.n, o) := by
  rcases h with ⟨a1, a2, _⟩ | ⟨a1, a2, _⟩ | ⟨_, a2, _⟩
  · exact absurd (a2.symm.trans he) a1
  · exact ⟨a1, a2⟩
  · exact absurd he a2
theorem agr_fail {x : α} {e : Int} (he : e ≠ 0) : Agr r (.error (atV s l r.n, e)) x (failR s l r e) := by
  by_cases h : r.e = 0
  · rw [failR_e0 h]; exact .inr (.inr ⟨h, he, rfl⟩)
  · rw [failR_e1 h]; exact .inl ⟨h, rfl, rfl⟩
theorem agr_take : Agr r (nmV s l r.n) (takeR s l r 1).1 (takeR s l r 1).2 := by
  by_cases h : r.e = 0
  · rw [takeR, nmV, isR_e0 h]
    by_cases hi : isV l r.n 1 = true
    · rw [if_pos hi, if_pos hi, textR_e0 h]
      exact .inr (.inl ⟨h, rfl, h, rfl⟩)
    · rw [if_neg hi, if_neg hi, failR_e0 h]
      exact .inr (.inr ⟨h, show (7 : Int) ≠ 0 by decide, rfl⟩)
  · rw [takeR_e1 h]; exact .inl ⟨h, rfl, rfl⟩
theorem agr_need {b : UInt8} : Agr r (needV s l r.n b) () (needR s l r [b]) := by
  by_cases h : r.e = 0
  · rw [needR, needV, textR_e0 h]
    by_cases hi : (txV s l r.n).data.toList = [b]
    · rw [if_pos hi, if_pos (show (txV s l (r.n + 0)).data.toList = [b] from hi)]
      exact .inr (.inl ⟨h, rfl, h, rfl⟩)
    · rw [if_neg hi, if_neg (show ¬ (txV s l (r.n + 0)).data.toList = [b] from hi), failR_e0 h]
      exact .inr (.inr ⟨h, show (7 : Int) ≠ 0 by decide, rfl⟩)
  · rw [needR_e1 h]; exact .inl ⟨h, rfl, rfl⟩
theorem closeV_bnd {b : UInt8} {V : Except (Int × Int) (Nat × α)} : closeV s l b V = bnd V fun n o => bnd (needV s l n b) fun n _ => .ok (n, o) := by
  rcases V with e | ⟨n, o⟩
  · rfl
  · simp only [closeV, bnd, needV]
    split <;> rfl
theorem Agr.close {b : UInt8} {V : Except (Int × Int) (Nat × α)} {o : α} {q : Rd} (h : Agr r V o q) : Agr r (closeV s l b V) o (needR s l q [b]) := by
  rw [closeV_bnd]
  exact h.bind' (agr_need.map fun _ => o)

/-! ### names, pairs -/
theorem agr_namesF : ∀ (f : Nat) (r : Rd) (out : List ByteArray), l.length + 1 ≤ f + r.n → r.n ≤ l.length → Agr r (namesF s l f r.n out.length out) (namesRF s l f r out).1 (namesRF s l f r out).2
  | 0, r, out, hf, hn => by omega
  | f + 1, r, out, hf, hn => by
    by_cases h : r.e = 0
    · rw [namesF, namesRF, if_pos h, isR_e0 h]
      by_cases hi : isV l r.n 1 = true
      · by_cases hk : 6 ≤ out.length
        · have hF : (failR s l r 3).e ≠ 0 := by rw [failR_e0 h]; show (3 : Int) ≠ 0; decide
          simp only [hi, hk, and_self, if_true, takeR_e1 hF, textR_e1 hF]
          rw [if_neg (by show ¬ [] = [(44 : UInt8)]; simp), failR_e0 h]
          exact .inr (.inr ⟨h, show (3 : Int) ≠ 0 by decide, rfl⟩)
        · have ht : takeR s l r 1 = (txV s l r.n, goR r) := by rw [takeR, isR_e0 h, if_pos hi, textR_e0 h]; rfl
          have hg : (goR r).e = 0 := h
          simp only [hi, hk, and_false, if_true, if_false, ht, textR_e0 hg]
          by_cases hc : (txV s l (r.n + 1)).data.toList = [44]
          · have hlt := tx_lt hc
            rw [if_pos hc, if_pos (show (txV s l ((goR r).n + 0)).data.toList = [44] from hc)]
            have := agr_namesF f (goR (goR r)) (out ++ [txV s l r.n]) (by show l.length + 1 ≤ f + (r.n + 1 + 1); omega) (by show r.n + 1 + 1 ≤ _; omega)
            rw [List.length_append] at this
            rcases this with ⟨a, _⟩ | ⟨_, b, c, d⟩ | ⟨_, b, c⟩
            · exact absurd h a
            · exact .inr (.inl ⟨h, b, c, d⟩)
            · exact .inr (.inr ⟨h, b, c⟩)
          · rw [if_neg hc, if_neg (show ¬ (txV s l ((goR r).n + 0)).data.toList = [44] from hc)]
            exact .inr (.inl ⟨h, rfl, h, rfl⟩)
      · have ht : takeR s l r 1 = (.empty, failR s l r 7) := by rw [takeR, isR_e0 h, if_neg hi]
        have hF : (failR s l r 7).e ≠ 0 := by rw [failR_e0 h]; show (7 : Int) ≠ 0; decide
        simp only [hi, false_and, if_false, Bool.false_eq_true, ht, textR_e1 hF]
        rw [if_neg (by show ¬ [] = [(44 : UInt8)]; simp), failR_e0 h]
        exact .inr (.inr ⟨h, show (7 : Int) ≠ 0 by decide, rfl⟩)
    · rw [namesRF, if_neg h]; exact .inl ⟨h, rfl, rfl⟩
theorem namesV_bnd {n : Nat} : namesV s l n = bnd (needV s l n 40) fun n1 _ => if (txV s l n1).data.toList = [41] then .ok (n1 + 1, []) else closeV s l 41 (namesF s l (l.length + 2) n1 0 []) := by
  unfold namesV needV
  split <;> rfl
theorem agr_names (hn : r.n ≤ l.length) : Agr r (namesV s l r.n) (namesR s l r).1 (namesR s l r).2 := by
  rw [namesV_bnd, namesR]
  have h1 := sane_need (s := s) (b := 40) (t := []) hn
  have h2 := agr_need (s := s) (l := l) (r := r) (b := 40)
  generalize needR s l r [40] = q at h1 h2 ⊢
  dsimp only
  refine h2.bind (fun h _ => ?_) (fun h => ?_)
  · rw [textR_e0 h]
    by_cases hc : (txV s l q.n).data.toList = [41]
    · rw [if_pos hc, if_pos (show (txV s l (q.n + 0)).data.toList = [41] from hc)]
      exact .inr (.inl ⟨h, rfl, h, rfl⟩)
    · rw [if_neg hc, if_neg (show ¬ (txV s l (q.n + 0)).data.toList = [41] from hc)]
      exact (agr_namesF (s := s) (l.length + 2) q [] (by omega) h1.1).close
  · rw [textR_e1 h, if_neg (by show ¬ [] = [(41 : UInt8)]; simp)]
    have h3 : namesRF s l (l.length + 2) q [] = ([], q) := by rw [namesRF, if_neg h]
    rw [h3, needR_e1 h]
    exact ⟨rfl, rfl⟩
theorem agr_pairsF : ∀ (f1 f2 : Nat) (r : Rd) (x : Ins), l.length + 1 ≤ f1 + r.n → l.length + 1 ≤ f2 + r.n → r.n ≤ l.length → Agr r (pairsF s l f1 r.n x.frm.length x) (pairsRF s l f2 r x).1 (pairsRF s l f2 r x).2
  | 0, _, r, x, hf, _, hn => by omega
  | _, 0, r, x, _, hf, hn => by omega
  | f1 + 1, f2 + 1, r, x, hf1, hf2, hn => by
    by_cases h : r.e = 0
    · rw [pairsF, pairsRF, if_pos h, isR_e0 h]
      by_cases hk : isV l r.n 1 = true ∧ 64 ≤ x.frm.length
      · have hF : (failR s l r 3).e ≠ 0 := by rw [failR_e0 h]; show (3 : Int) ≠ 0; decide
        rw [if_pos hk, if_pos hk]
        simp only [takeR_e1 hF, needR_e1 hF, textR_e1 hF]
        rw [if_neg (by show ¬ [] = [(44 : UInt8)]; simp), failR_e0 h]
        exact .inr (.inr ⟨h, show (3 : Int) ≠ 0 by decide, rfl⟩)
      · rw [if_neg hk, if_neg hk]
        dsimp only
        have h1 := agr_take (s := s) (l := l) (r := r)
        have s1 := sane_take (s := s) (k := 1) hn
        generalize takeR s l r 1 = t at h1 s1 ⊢
        obtain ⟨a, q⟩ := t
        dsimp only at h1 s1 ⊢
        have h2 := agr_need (s := s) (l := l) (r := q) (b := 58)
        have s2 := s1.trans (sane_need (s := s) (b := 58) (t := []) s1.1)
        generalize needR s l q [58] = q2 at h2 s2 ⊢
        have h3 := agr_take (s := s) (l := l) (r := q2)
        have s3 := s2.trans (sane_take (s := s) (k := 1) s2.1)
        generalize takeR s l q2 1 = t at h3 s3 ⊢
        obtain ⟨b, q3⟩ := t
        dsimp only at h3 s3 ⊢
        have hp : Agr r (pairV s l r.n x) { x with frm := x.frm ++ [a], args := x.args ++ [b] } q3 := h1.bind' (h2.bind' (h3.map fun a' => { x with frm := x.frm ++ [a], args := x.args ++ [a'] }))
        refine hp.bind (fun h0 _ => ?_) (fun h0 => ?_)
        · rw [textR_e0 h0]
          by_cases hc : (txV s l q3.n).data.toList = [44]
          · have hlt := tx_lt hc
            rw [if_pos hc, if_pos (show (txV s l (q3.n + 0)).data.toList = [44] from hc)]
            have e0 := hp.done h0
            have e1 := pairV_ok e0.2
            have := agr_pairsF f1 f2 (goR q3) { x with frm := x.frm ++ [a], args := x.args ++ [b] } (by show l.length + 1 ≤ f1 + (q3.n + 1); omega) (by show l.length + 1 ≤ f2 + (q3.n + 1); omega) (by show q3.n + 1 ≤ _; omega)
            rw [show ({ x with frm := x.frm ++ [a], args := x.args ++ [b] } : Ins).frm.length = x.frm.length + 1 by simp] at this
            rcases this with ⟨a, _⟩ | ⟨_, b, c, d⟩ | ⟨_, b, c⟩
            · exact absurd h0 a
            · exact .inr (.inl ⟨h0, b, c, d⟩)
            · exact .inr (.inr ⟨h0, b, c⟩)
          · rw [if_neg hc, if_neg (show ¬ (txV s l (q3.n + 0)).data.toList = [44] from hc)]
            exact Agr.ok _
        · rw [textR_e1 h0, if_neg (by show ¬ [] = [(44 : UInt8)]; simp)]
          exact ⟨rfl, rfl⟩
    · rw [pairsRF, if_neg h]; exact .inl ⟨h, rfl, rfl⟩
theorem agr_phi {x : Ins} (hn : r.n ≤ l.length) (hx : x.frm = []) : Agr r (bnd (needV s l r.n 91) fun n _ => closeV s l 93 (pairsF s l (l.length + 1) n 0 x)) (phiR s l r x).1 (phiR s l r x).2 := by
  rw [phiR]
  have h1 := sane_need (s := s) (b := 91) (t := []) hn
  have h2 := agr_need (s := s) (l := l) (r := r) (b := 91)
  generalize needR s l r [91] = q at h1 h2 ⊢
  refine h2.bind' ?_
  have := agr_pairsF (s := s) (l.length + 1) (l.length + 2) q x (by omega) (by omega) h1.1
  rw [hx] at this
  exact this.close
end
end Go.Proofs.YtikkppdihepmdaaDoor

/- The plain law: values, instructions, blocks, functions, arrays, programs. -/
namespace Go.Proofs.YtikkppdihepmdaaDoor
open Go.Sx
set_option linter.unusedVariables false
set_option linter.unusedSimpArgs false
set_option maxRecDepth 100000
section
variable {s : ByteArray} {l : List Tok} {r : Rd}
theorem agr_takeK {k : Int} : Agr r (if isV l r.n k = true then .ok (r.n + 1, txV s l r.n) else .error (atV s l r.n, 7)) (takeR s l r k).1 (takeR s l r k).2 := by
  by_cases h : r.e = 0
  · rw [takeR, isR_e0 h]
    by_cases hi : isV l r.n k = true
    · rw [if_pos hi, if_pos hi, textR_e0 h]
      exact .inr (.inl ⟨h, rfl, h, rfl⟩)
    · rw [if_neg hi, if_neg hi, failR_e0 h]
      exact .inr (.inr ⟨h, show (7 : Int) ≠ 0 by decide, rfl⟩)
  · rw [takeR_e1 h]; exact .inl ⟨h, rfl, rfl⟩
theorem agr_go (h : r.e = 0) : Agr r (.ok (r.n + 1, ())) () (goR r) := .inr (.inl ⟨h, rfl, h, rfl⟩)
theorem agr_arg {x : Ins} : Agr r (argV s l r.n x) { x with args := x.args ++ [(takeR s l r 1).1] } (takeR s l r 1).2 := agr_take.map fun a => { x with args := x.args ++ [a] }
theorem agr_ref {x : Ins} : Agr r (refV s l r.n x) { x with ref := (takeR s l r 1).1 } (takeR s l r 1).2 := agr_take.map fun a => { x with ref := a }
theorem agr_one {x : Ins} : Agr r (oneV7 s l r.n x) { x with args := [(takeR s l r 1).1] } (takeR s l r 1).2 := agr_take.map fun a => { x with args := [a] }
theorem value_e1 (h : r.e ≠ 0) {x : Ins} : valueR s l r x = (x, r) := by
  rw [valueR]; simp only [textR_e1 h]
  rw [if_pos ⟨by decide, by decide⟩, failR_e1 h]
theorem agr_value {x : Ins} (hn : r.n ≤ l.length) (ha : x.args = []) (hf : x.frm = []) : Agr r (valueV s l r.n x) (valueR s l r x).1 (valueR s l r x).2 := by
  by_cases h : r.e = 0
  rotate_left
  · rw [value_e1 h]; exact .inl ⟨h, rfl, rfl⟩
  have ht : textR s l r 0 = txV s l r.n := textR_e0 h 0
  obtain ⟨w, hw⟩ : ∃ w, txV s l r.n = w := ⟨_, rfl⟩
  rw [hw] at ht
  obtain ⟨x1, x2, x3, x4, x5, x6, x7, x8, x9⟩ := x
  dsimp only at ha hf
  subst ha hf
  obtain ⟨x, hx⟩ : ∃ x : Ins, (⟨x1, x2, x3, x4, x5, [], [], x8, x9⟩ : Ins) = x := ⟨_, rfl⟩
  have ha : x.args = [] := by rw [← hx]
  have hf : x.frm = [] := by rw [← hx]
  rw [hx]
  by_cases h0 : opV w = 0 ∧ kindW w.data.toList = 0
  · have hR : valueR s l r x = (x, failR s l r 7) := by rw [valueR]; simp only [ht]; rw [if_pos h0]
    have hV : valueV s l r.n x = .error (atV s l r.n, 7) := by
      rw [valueV, hw, if_neg (by rw [h0.1]; simp)]
      have hk := h0.2
      unfold kindW at hk
      unfold wordV
      split at hk
      · cases hk
      split at hk
      · cases hk
      split at hk
      · cases hk
      split at hk
      · cases hk
      split at hk
      · cases hk
      split at hk
      · cases hk
      split at hk
      · cases hk
      rename_i a1 a2 a3 a4 a5 a6 a7
      rw [if_neg a1, if_neg a3, if_neg a4, if_neg a6, if_neg a5, if_neg a7, if_neg a2]
    rw [hV, hR]
    exact agr_fail (by decide)
  have hlt : r.n < l.length := (kindW_lt (s := s) (l := l) (r := r) (by rw [ht]; exact h0)).2
  have hn1 : (goR r).n ≤ l.length := hlt
  have hR : valueR s l r x = (if ¬ opV w = 0 then
      ({ x with kind := 2, op := (opV w : Int), args := [(takeR s l (goR r) 1).1, (takeR s l (takeR s l (goR r) 1).2 1).1] }, (takeR s l (takeR s l (goR r) 1).2 1).2)
    else
      if w.data.toList = [99, 111, 110, 115, 116] then ({ x with kind := kindW w.data.toList, num := (refNumV (takeR s l (goR r) 3).1).1 }, (takeR s l (goR r) 3).2)
      else if w.data.toList = [112, 104, 105] then phiR s l (goR r) { x with kind := kindW w.data.toList }
      else if w.data.toList = [108, 111, 97, 100] ∨ w.data.toList = [119, 114, 97, 112] then ({ x with kind := kindW w.data.toList, ref := (takeR s l (goR r) 1).1, args := [(takeR s l (takeR s l (goR r) 1).2 1).1] }, (takeR s l (takeR s l (goR r) 1).2 1).2)
      else if w.data.toList = [99, 97, 108, 108] then ({ x with kind := kindW w.data.toList, ref := (takeR s l (goR r) 1).1, args := (namesR s l (takeR s l (goR r) 1).2).1 }, (namesR s l (takeR s l (goR r) 1).2).2)
      else if w.data.toList = [105, 110, 112, 117, 116] then ({ x with kind := kindW w.data.toList, ref := (takeR s l (goR r) 1).1 }, (takeR s l (goR r) 1).2)
      else ({ x with kind := kindW w.data.toList, args := [(takeR s l (goR r) 1).1], ref := (takeR s l (takeR s l (goR r) 1).2 1).1 }, (takeR s l (takeR s l (goR r) 1).2 1).2)) := by
    rw [valueR]; simp only [ht]; rw [if_neg h0]
  rw [hR]
  clear hR
  have s1 := sane_take (s := s) (k := 1) hn1
  have step : ∀ {V : Nat → Except (Int × Int) (Nat × Ins)} {p : Ins × Rd}, Agr (goR r) (V (goR r).n) p.1 p.2 → Agr r (V (r.n + 1)) p.1 p.2 := fun {V} {p} h1 => (agr_go h).bind' (W := fun n _ => V n) h1
  by_cases h1 : opV w = 0
  rotate_left
  · have hV : valueV s l r.n x = bnd (argV s l (r.n + 1) { x with kind := 2, op := (opV w : Int) }) fun n x => argV s l n x := by rw [valueV, hw, if_pos h1]
    rw [hV, if_pos h1]
    refine step (V := fun n => bnd (argV s l n { x with kind := 2, op := (opV w : Int) }) fun n x => argV s l n x) ?_
    have := (agr_arg (s := s) (l := l) (r := goR r) (x := { x with kind := 2, op := (opV w : Int) })).bind' (W := fun n x => argV s l n x) agr_arg
    subst hx
    exact this
  have hV : valueV s l r.n x = wordV s l r.n x w.data.toList := by rw [valueV, hw, if_neg (by rw [h1]; simp)]
  have hk : kindW w.data.toList ≠ 0 := fun e => h0 ⟨h1, e⟩
  rw [hV, if_neg (by rw [h1]; simp)]
  generalize w.data.toList = b at hk ⊢
  have hc : b = [99, 111, 110, 115, 116] ∨ b = [112, 104, 105] ∨ b = [108, 111, 97, 100] ∨ b = [119, 114, 97, 112] ∨ b = [99, 97, 108, 108] ∨ b = [105, 110, 112, 117, 116] ∨ b = [114, 101, 108, 101, 97, 115, 101] := by
    unfold kindW at hk
    split at hk
    · exact .inl ‹_›
    split at hk
    · exact .inr (.inl ‹_›)
    split at hk
    · exact .inr (.inr (.inl ‹_›))
    split at hk
    · exact .inr (.inr (.inr (.inl ‹_›)))
    split at hk
    · exact .inr (.inr (.inr (.inr (.inl ‹_›))))
    split at hk
    · exact .inr (.inr (.inr (.inr (.inr (.inl ‹_›)))))
    split at hk
    · exact .inr (.inr (.inr (.inr (.inr (.inr ‹_›)))))
    exact absurd rfl hk
  rcases hc with rfl | rfl | rfl | rfl | rfl | rfl | rfl
  · refine step (V := fun n => constV s l n x) ?_
    have := (agr_takeK (s := s) (l := l) (r := goR r) (k := 3)).map fun t => ({ x with kind := 1, num := (refNumV t).1 } : Ins)
    have e : constV s l (goR r).n x = bnd (if isV l (goR r).n 3 = true then .ok ((goR r).n + 1, txV s l (goR r).n) else .error (atV s l (goR r).n, 7)) fun n t => .ok (n, ({ x with kind := 1, num := (refNumV t).1 } : Ins)) := by
      unfold constV
      split
      · simp only [bnd, num_eq]
      · rfl
    show Agr (goR r) (constV s l (goR r).n x) _ _
    rw [e]
    exact this
  · refine step (V := fun n => phiV s l n x) ?_
    exact agr_phi (x := { x with kind := 3 }) hn1 hf
  · refine step (V := fun n => cellV 4 s l n x) ?_
    exact (agr_ref (x := { x with kind := 4 })).bind' agr_one
  · refine step (V := fun n => cellV 5 s l n x) ?_
    exact (agr_ref (x := { x with kind := 5 })).bind' agr_one
  · refine step (V := fun n => callV s l n x) ?_
    exact (agr_ref (x := { x with kind := 7 })).bind' ((agr_names s1.1).map fun o => ({ x with kind := 7, ref := (takeR s l (goR r) 1).1, args := o } : Ins))
  · refine step (V := fun n => inputV s l n x) ?_
    exact agr_ref (x := { x with kind := 8 })
  · refine step (V := fun n => releaseV s l n x) ?_
    exact (agr_one (x := { x with kind := 10 })).bind' agr_ref
/-- A name is no word. -/
def Named (s : ByteArray) (l : List Tok) : Prop := ∀ n, isV l n 1 = true → kindA (txV s l n).data.toList = 0
theorem actV_none {w : List UInt8} : (actV s l w).isNone = true ↔ kindA w = 0 := by
  unfold actV kindA
  split
  · simp
  split
  · simp
  split
  · simp
  split
  · simp
  split
  · simp
  · simp
theorem instr_e1 (h : r.e ≠ 0) : instrR s l r = (ins0 (atV s l r.n), r) := by
  rw [instrR]; simp only [textR_e1 h, isR_e1 h]
  rw [if_pos ⟨by decide, trivial⟩, failR_e1 h]
theorem agr_instr (hd : Named s l) (hn : r.n ≤ l.length) : Agr r (instrV s l r.n r.c) (instrR s l r).1 (instrR s l r).2 := by
  by_cases h : r.e = 0
  rotate_left
  · rw [instr_e1 h]; exact .inl ⟨h, rfl, rfl⟩
  have ht : textR s l r 0 = txV s l r.n := textR_e0 h 0
  have ht1 : textR s l r 1 = txV s l (r.n + 1) := textR_e0 h 1
  obtain ⟨w, hw⟩ : ∃ w, txV s l r.n = w := ⟨_, rfl⟩
  have hdn := hd r.n
  rw [hw] at ht hdn
  have hR : instrR s l r = if kindA w.data.toList = 0 ∧ isV l r.n 1 = false then (ins0 (atV s l r.n), failR s l r 7)
      else if kindA w.data.toList = 0 ∧ ¬ (txV s l (r.n + 1)).data.toList = [61] then (ins0 (atV s l r.n), failR s l (goR r) 7)
      else if 4096 ≤ r.c then (ins0 (atV s l r.n), failR s l r 3)
      else if kindA w.data.toList = 0 then valueR s l (needR s l (takeR s l { r with c := r.c + 1 } 1).2 [61]) { ins0 (atV s l r.n) with dst := (takeR s l { r with c := r.c + 1 } 1).1 }
      else actR s l (goR { r with c := r.c + 1 }) { ins0 (atV s l r.n) with kind := kindA w.data.toList } w.data.toList := by
    rw [← ht, ← ht1, ← isR_e0 h]; rfl
  rw [hR, instrV, hw]
  clear hR
  by_cases c1 : kindA w.data.toList = 0 ∧ isV l r.n 1 = false
  · rw [if_pos c1, if_pos ⟨c1.2, actV_none.2 c1.1⟩]
    exact agr_fail (by decide)
  rw [if_neg c1, if_neg (fun hh => c1 ⟨actV_none.1 hh.2, hh.1⟩)]
  by_cases c2 : kindA w.data.toList = 0 ∧ ¬ (txV s l (r.n + 1)).data.toList = [61]
  · have hi : isV l r.n 1 = true := by
      cases hh : isV l r.n 1 with
      | true => rfl
      | false => exact absurd ⟨c2.1, hh⟩ c1
    rw [if_pos c2, if_pos ⟨hi, c2.2⟩]
    exact (agr_go h).bind' (W := fun n _ => .error (atV s l n, 7)) (agr_fail (s := s) (by decide))
  rw [if_neg c2, if_neg (fun hh => c2 ⟨hdn hh.1, hh.2⟩)]
  by_cases c3 : 4096 ≤ r.c
  · rw [if_pos c3, if_pos c3]
    exact agr_fail (by decide)
  rw [if_neg c3, if_neg c3]
  by_cases c4 : kindA w.data.toList = 0
  · rw [if_pos c4]
    have e : actV s l w.data.toList = none := by simpa using actV_none.2 c4
    rw [e]
    have h1 : Agr { r with c := r.c + 1 } _ _ _ := agr_take (s := s) (l := l) (r := { r with c := r.c + 1 })
    have s1 := sane_take (s := s) (l := l) (r := { r with c := r.c + 1 }) (k := 1) hn
    have s2 := s1.trans (sane_need (s := s) (b := 61) (t := []) s1.1)
    have := h1.bind' (W := fun n1 d => bnd (needV s l n1 61) fun n2 _ => valueV s l n2 { ins0 (atV s l r.n) with dst := d }) (agr_need.bind' (W := fun n2 _ => valueV s l n2 { ins0 (atV s l r.n) with dst := (takeR s l { r with c := r.c + 1 } 1).1 }) (agr_value (x := { ins0 (atV s l r.n) with dst := (takeR s l { r with c := r.c + 1 } 1).1 }) s2.1 rfl rfl))
    exact this
  rw [if_neg c4]
  have step : ∀ {V : Nat → Except (Int × Int) (Nat × Ins)} {p : Ins × Rd}, Agr (goR { r with c := r.c + 1 }) (V (goR { r with c := r.c + 1 }).n) p.1 p.2 → Agr r (V (r.n + 1)) p.1 p.2 := fun {V} {p} h1 => (agr_go (r := { r with c := r.c + 1 }) h).bind' (W := fun n _ => V n) h1
  generalize w.data.toList = b at c4 ⊢
  rcases kindA_cases c4 with rfl | rfl | rfl | rfl | rfl
  · refine step (V := fun n => act1V s l n (ins0 (atV s l r.n))) ?_
    generalize goR { r with c := r.c + 1 } = q
    exact agr_take.bind' (W := fun n a => bnd (argV s l n { ins0 (atV s l r.n) with kind := 6, ref := a }) fun n x => bnd (argV s l n x) fun n x => .ok (n, x)) (agr_arg.bind' (W := fun n x => bnd (argV s l n x) fun n x => .ok (n, x)) (agr_arg.map fun x => x))
  · refine step (V := fun n => act2V s l n (ins0 (atV s l r.n))) ?_
    generalize goR { r with c := r.c + 1 } = q
    exact agr_take.bind' (W := fun n a => bnd (argV s l n { ins0 (atV s l r.n) with kind := 9, ref := a }) fun n x => .ok (n, x)) (agr_arg.map fun x => x)
  · refine step (V := fun n => act3V s l n (ins0 (atV s l r.n))) ?_
    generalize goR { r with c := r.c + 1 } = q
    exact agr_take.map fun a => ({ ins0 (atV s l r.n) with kind := 11, ref := a } : Ins)
  · refine step (V := fun n => act4V s l n (ins0 (atV s l r.n))) ?_
    generalize goR { r with c := r.c + 1 } = q
    exact (agr_arg (x := { ins0 (atV s l r.n) with kind := 12 })).bind' (W := fun n x => bnd (nmV s l n) fun n a => bnd (nmV s l n) fun n c => .ok (n, ({ { x with ref := a } with alt := c } : Ins))) (agr_take.bind' (W := fun n a => bnd (nmV s l n) fun n c => .ok (n, ({ { ({ ins0 (atV s l r.n) with kind := 12, args := [] ++ [(takeR s l q 1).1] } : Ins) with ref := a } with alt := c } : Ins))) (agr_take.map fun c => ({ { ({ ins0 (atV s l r.n) with kind := 12, args := [] ++ [(takeR s l q 1).1] } : Ins) with ref := (takeR s l (takeR s l q 1).2 1).1 } with alt := c } : Ins)))
  · refine step (V := fun n => act5V s l n (ins0 (atV s l r.n))) ?_
    generalize goR { r with c := r.c + 1 } = q
    exact (agr_arg (x := { ins0 (atV s l r.n) with kind := 13 })).map fun x => x
/-! ### code, blocks, functions -/
theorem code_e1 (h : r.e ≠ 0) (f : Nat) (xs : List Ins) : codeRF s l f r xs = (xs, r) := by
  cases f with
  | zero => rfl
  | succ f => rw [codeRF, if_neg (fun hh => h hh.1)]
theorem begR_e0 (h : r.e = 0) : begR s l r = begB s l r.n := by
  rw [begR, begB, isR_e0 h, textR_e0 h]
theorem agr_code (hd : Named s l) : ∀ (f : Nat) (r : Rd) (xs : List Ins), r.n ≤ l.length → r.c ≤ 4096 → (r.e = 0 → 4098 ≤ f + r.c) → Agr r (codeF s l f r.n r.c xs) ((codeRF s l f r xs).2.c, (codeRF s l f r xs).1) (codeRF s l f r xs).2
  | f, r, xs, hn, hc, hf => by
    by_cases h : r.e = 0
    rotate_left
    · rw [code_e1 h]; exact .inl ⟨h, rfl, rfl⟩
    have hf := hf h
    cases f with
    | zero => omega
    | succ f =>
      rw [codeF, codeRF, textR_e0 h, begR_e0 h]
      by_cases hs : (txV s l r.n).data.toList = [125] ∨ begB s l r.n = true
      · rw [if_pos hs, if_neg (fun hh => by
          rcases hs with hs | hs
          · exact hh.2.1 hs
          · rw [hs] at hh; exact absurd hh.2.2 (by simp))]
        exact .inr (.inl ⟨h, rfl, h, rfl⟩)
      · have hs' : r.e = 0 ∧ ¬ (txV s l (r.n + 0)).data.toList = [125] ∧ begB s l r.n = false := ⟨h, fun hh => hs (.inl hh), by
          cases hb : begB s l r.n with
          | false => rfl
          | true => exact absurd (.inr hb) hs⟩
        rw [if_neg hs, if_pos hs']
        obtain ⟨i1, i2, i3⟩ := instrR_sane (s := s) hn hc
        refine (agr_instr (s := s) hd hn).bind (fun h0 _ => ?_) (fun h0 => ?_)
        · have := agr_code hd f (instrR s l r).2 (xs ++ [(instrR s l r).1]) i1 i2 (fun hh => by rw [i3 hh]; omega)
          rw [i3 h0] at this
          exact this
        · dsimp only
          rw [code_e1 h0]; exact ⟨rfl, rfl⟩
theorem agr_block (hd : Named s l) (hn : r.n ≤ l.length) (hc : r.c ≤ 4096) : Agr r (blockV s l r.n r.c) ((blockR s l r).2.c, (blockR s l r).1) (blockR s l r).2 := by
  have s1 := sane_take (s := s) (k := 1) hn
  have s2 := s1.trans (sane_need (s := s) (b := 58) (t := []) s1.1)
  have e2 : (needR s l (takeR s l r 1).2 [58]).c = r.c := s2.2
  refine agr_take.bind' (W := fun n1 nm => bnd (needV s l n1 58) fun n2 _ => bnd (codeF s l 4098 n2 r.c []) fun n3 q => .ok (n3, (q.1, (⟨nm, q.2, atV s l r.n⟩ : Blk)))) (agr_need.bind' (W := fun n2 _ => bnd (codeF s l 4098 n2 r.c []) fun n3 q => .ok (n3, (q.1, (⟨(takeR s l r 1).1, q.2, atV s l r.n⟩ : Blk)))) ?_)
  have := (agr_code hd 4098 (needR s l (takeR s l r 1).2 [58]) [] s2.1 (by rw [e2]; exact hc) (fun _ => by omega)).map fun q => ((q.1, ⟨(takeR s l r 1).1, q.2, atV s l r.n⟩) : Nat × Blk)
  rw [e2] at this
  exact this
theorem block_e1 (h : r.e ≠ 0) : (blockR s l r).2 = r := by
  show (codeRF s l 4098 (needR s l (takeR s l r 1).2 [58]) []).2 = r
  rw [takeR_e1 h]
  dsimp only
  rw [needR_e1 h, code_e1 h]
theorem blocks_e1 (h : r.e ≠ 0) (f : Nat) (bs : List Blk) : (blocksRF s l f r bs).2.1 = r := by
  cases f with
  | zero => rfl
  | succ f =>
    rw [blocksRF, if_neg]
    rw [begR, isR_e1 h]; simp
/-- If it stopped at the bound there is a fault. -/
theorem blocks_flag : ∀ (f : Nat) (r : Rd) (bs : List Blk), f + bs.length = 66 → bs.length ≤ 64 → (blocksRF s l f r bs).2.2 = true → (blocksRF s l f r bs).2.1.e ≠ 0
  | 0, r, bs, hf, hb, h => by omega
  | f + 1, r, bs, hf, hb, h => by
    rw [blocksRF] at h ⊢
    split
    · rename_i h1
      rw [if_pos h1] at h
      split
      · unfold failR
        split
        · show (3 : Int) ≠ 0; decide
        · assumption
      · rename_i h2
        rw [if_neg h2] at h
        exact blocks_flag f _ _ (by rw [List.length_append]; simp only [List.length_cons, List.length_nil]; omega) (by rw [List.length_append]; simp only [List.length_cons, List.length_nil]; omega) h
    · rename_i h1
      rw [if_neg h1] at h; cases h
theorem agr_blocks (hd : Named s l) : ∀ (f : Nat) (r : Rd) (bs : List Blk), f + bs.length = 66 → bs.length ≤ 64 → r.n ≤ l.length → r.c ≤ 4096 → Agr r (blocksF s l f r.n r.c bs) ((blocksRF s l f r bs).2.1.c, (blocksRF s l f r bs).1) (blocksRF s l f r bs).2.1
  | 0, r, bs, hf, hb, hn, hc => by omega
  | f + 1, r, bs, hf, hb, hn, hc => by
    by_cases h : r.e = 0
    rotate_left
    · rw [blocks_e1 h]; exact .inl ⟨h, rfl, rfl⟩
    rw [blocksF, blocksRF, begR_e0 h]
    by_cases hs : begB s l r.n = true
    · rw [if_pos hs, if_pos hs]
      by_cases h6 : 64 ≤ bs.length
      · rw [if_pos h6, if_pos h6]
        have hF : (failR s l r 3) = { r with a := atV s l r.n, e := 3 } := failR_e0 h 3
        dsimp only
        rw [hF]
        exact .inr (.inr ⟨h, show (3 : Int) ≠ 0 by decide, rfl⟩)
      · rw [if_neg h6, if_neg h6]
        obtain ⟨i1, i2⟩ := blockR_sane (s := s) hn hc
        refine (agr_block (s := s) hd hn hc).bind (fun h0 _ => ?_) (fun h0 => ?_)
        · exact agr_blocks hd f (blockR s l r).2 (bs ++ [(blockR s l r).1]) (by rw [List.length_append]; simp only [List.length_cons, List.length_nil]; omega) (by rw [List.length_append]; simp only [List.length_cons, List.length_nil]; omega) i1 i2
        · dsimp only
          rw [blocks_e1 h0]; exact ⟨rfl, rfl⟩
    · rw [if_neg hs, if_neg hs]
      exact .inr (.inl ⟨h, rfl, h, rfl⟩)
set_option maxHeartbeats 1000000 in
theorem agr_func (hd : Named s l) (hn : r.n ≤ l.length) (hc : r.c ≤ 4096) (h : r.e = 0) (hw : (txV s l r.n).data.toList = [102, 110]) : Agr r (funcV s l r.n r.c) ((funcR s l r).2.c, (funcR s l r).1) (funcR s l r).2 := by
  have hlt := tx_lt hw
  have e0 : needR s l r [102, 110] = goR r := by rw [needR, textR_e0 h, if_pos (show (txV s l (r.n + 0)).data.toList = [102, 110] from hw)]
  have s0 : Sane l r (goR r) := ⟨hlt, rfl⟩
  have s1 := s0.trans (sane_take (s := s) (k := 1) s0.1)
  have s2 := s1.trans (namesR_sane (s := s) s1.1)
  have s3 := s2.trans (sane_need (s := s) (b := 123) (t := []) s2.1)
  obtain ⟨q1, e1⟩ : ∃ q, takeR s l (goR r) 1 = q := ⟨_, rfl⟩
  obtain ⟨q2, e2⟩ : ∃ q, namesR s l q1.2 = q := ⟨_, rfl⟩
  obtain ⟨q3, e3⟩ : ∃ q, needR s l q2.2 [123] = q := ⟨_, rfl⟩
  obtain ⟨q4, e4⟩ : ∃ q, blockR s l q3 = q := ⟨_, rfl⟩
  obtain ⟨q5, e5⟩ : ∃ q, blocksRF s l 65 q4.2 [q4.1] = q := ⟨_, rfl⟩
  have hR : funcR s l r = (⟨q1.1, q2.1, q5.1, atV s l r.n⟩, if q5.2.2 = true then q5.2.1 else needR s l q5.2.1 [125]) := by
    simp only [funcR, e0, e1, e2, e3, e4, e5]
  rw [e1] at s1 s2 s3
  rw [e2] at s2 s3
  rw [e3] at s3
  have a1 : Agr (goR r) (nmV s l (r.n + 1)) q1.1 q1.2 := by rw [← e1]; exact agr_take
  have a2 : Agr q1.2 (namesV s l q1.2.n) q2.1 q2.2 := by rw [← e2]; exact agr_names s1.1
  have a3 : Agr q2.2 (needV s l q2.2.n 123) () q3 := by rw [← e3]; exact agr_need
  have hc3 : q3.c ≤ 4096 := by rw [s3.2]; exact hc
  have a4 : Agr q3 (blockV s l q3.n q3.c) (q4.2.c, q4.1) q4.2 := by rw [← e4]; exact agr_block hd s3.1 hc3
  obtain ⟨i1, i2⟩ := blockR_sane (s := s) s3.1 hc3
  rw [e4] at i1 i2
  have a5 : Agr q4.2 (blocksF s l 65 q4.2.n q4.2.c [q4.1]) (q5.2.1.c, q5.1) q5.2.1 := by rw [← e5]; exact agr_blocks hd 65 q4.2 [q4.1] rfl (by simp) i1 i2
  have a6 : Agr q5.2.1 (needV s l q5.2.1.n 125) () (if q5.2.2 = true then q5.2.1 else needR s l q5.2.1 [125]) := by
    split
    · rename_i hfl
      have := blocks_flag (s := s) (l := l) 65 q4.2 [q4.1] rfl (by simp) (by rw [e5]; exact hfl)
      rw [e5] at this
      exact .inl ⟨this, rfl, rfl⟩
    · exact agr_need
  have hc6 : (if q5.2.2 = true then q5.2.1 else needR s l q5.2.1 [125]).c = q5.2.1.c := by
    split
    · rfl
    · exact needR_c
  rw [hR]
  dsimp only
  rw [hc6]
  rw [s3.2] at a4
  have hV : funcV s l r.n r.c = bnd (.ok (r.n + 1, ())) (fun n0 _ => bnd (nmV s l n0) fun n1 nm => bnd (namesV s l n1) fun n2 ps => bnd (needV s l n2 123) fun n3 _ => bnd (blockV s l n3 r.c) fun n4 z =>
    bnd (blocksF s l 65 n4 z.1 [z.2]) fun n5 q => bnd (needV s l n5 125) fun n6 _ => .ok (n6, (q.1, (⟨nm, ps, q.2, atV s l r.n⟩ : Fun)))) := rfl
  rw [hV]
  have c6 := a6.map fun _ => (q5.2.1.c, (⟨q1.1, q2.1, q5.1, atV s l r.n⟩ : Fun))
  have c5 := a5.bind' (W := fun n5 q => bnd (needV s l n5 125) fun n6 _ => .ok (n6, (q.1, (⟨q1.1, q2.1, q.2, atV s l r.n⟩ : Fun)))) c6
  have c4 := a4.bind' (W := fun n4 z => bnd (blocksF s l 65 n4 z.1 [z.2]) fun n5 q => bnd (needV s l n5 125) fun n6 _ => .ok (n6, (q.1, (⟨q1.1, q2.1, q.2, atV s l r.n⟩ : Fun)))) c5
  have c3 := a3.bind' (W := fun n3 _ => bnd (blockV s l n3 r.c) fun n4 z => bnd (blocksF s l 65 n4 z.1 [z.2]) fun n5 q => bnd (needV s l n5 125) fun n6 _ => .ok (n6, (q.1, (⟨q1.1, q2.1, q.2, atV s l r.n⟩ : Fun)))) c4
  have c2 := a2.bind' (W := fun n2 ps => bnd (needV s l n2 123) fun n3 _ => bnd (blockV s l n3 r.c) fun n4 z => bnd (blocksF s l 65 n4 z.1 [z.2]) fun n5 q => bnd (needV s l n5 125) fun n6 _ => .ok (n6, (q.1, (⟨q1.1, ps, q.2, atV s l r.n⟩ : Fun)))) c3
  have c1 := a1.bind' (W := fun n1 nm => bnd (namesV s l n1) fun n2 ps => bnd (needV s l n2 123) fun n3 _ => bnd (blockV s l n3 r.c) fun n4 z => bnd (blocksF s l 65 n4 z.1 [z.2]) fun n5 q => bnd (needV s l n5 125) fun n6 _ => .ok (n6, (q.1, (⟨nm, ps, q.2, atV s l r.n⟩ : Fun)))) c2
  exact (agr_go h).bind' (W := fun n0 _ => bnd (nmV s l n0) fun n1 nm => bnd (namesV s l n1) fun n2 ps => bnd (needV s l n2 123) fun n3 _ => bnd (blockV s l n3 r.c) fun n4 z => bnd (blocksF s l 65 n4 z.1 [z.2]) fun n5 q => bnd (needV s l n5 125) fun n6 _ => .ok (n6, (q.1, (⟨nm, ps, q.2, atV s l r.n⟩ : Fun)))) c1
end
end Go.Proofs.YtikkppdihepmdaaDoor
