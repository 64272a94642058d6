/- Texts put together: T17F, T17C, T17G, T17H, T17I. -/
import Derived.Test.YtikkppdihepmdaaDoorMD
import Derived.Test.YtikkppdihepmdaaDoorSxG

/- The plain law: arrays, programs; the answer's Parse is the program's. -/
namespace Go.Proofs.YtikkppdihepmdaaDoor
open Go.Sx
set_option linter.unusedVariables false
set_option linter.unusedSimpArgs false
set_option maxRecDepth 100000
section
variable {s : ByteArray} {l : List Tok} {r : Rd}
theorem agr_arr (hn : r.n ≤ l.length) (h : r.e = 0) (hw : (txV s l r.n).data.toList = [97, 114, 114, 97, 121]) : Agr r (arrV s l r.n) (arrR s l r).1 (arrR s l r).2 := by
  have hlt := tx_lt hw
  have e0 : needR s l r [97, 114, 114, 97, 121] = goR r := by rw [needR, textR_e0 h, if_pos (show (txV s l (r.n + 0)).data.toList = [97, 114, 114, 97, 121] from hw)]
  obtain ⟨q1, e1⟩ : ∃ q, takeR s l (goR r) 1 = q := ⟨_, rfl⟩
  obtain ⟨q2, e2⟩ : ∃ q, sizeR s l q1.2 = q := ⟨_, rfl⟩
  obtain ⟨q3, e3⟩ : ∃ q, takeR s l q2.2 3 = q := ⟨_, rfl⟩
  obtain ⟨q4, e4⟩ : ∃ q, takeR s l q3.2 1 = q := ⟨_, rfl⟩
  have hR : arrR s l r = (⟨q1.1, q2.1, q4.1, atV s l r.n⟩, q4.2) := by
    simp only [arrR, e0, e1, e2, e3, e4]
  have a1 : Agr (goR r) (nmV s l (r.n + 1)) q1.1 q1.2 := by rw [← e1]; exact agr_take
  rw [hR]
  have hV : arrV s l r.n = bnd (.ok (r.n + 1, ())) fun n0 _ => bnd (nmV s l n0) fun n1 name => if isV l n1 3 = true then
      if (numV (txV s l n1)).1 < 1 ∨ 256 < (numV (txV s l n1)).1 then .error (atV s l n1, 12)
      else bnd (nmV s l (n1 + 1)) fun n2 lv => .ok (n2, (⟨name, (numV (txV s l n1)).1, lv, atV s l r.n⟩ : Arr))
    else .error (atV s l n1, 7) := rfl
  rw [hV]
  have still : q1.2.e ≠ 0 → q4.2 = q1.2 := fun h1 => by
    have : sizeR s l q1.2 = (0, q1.2) := by rw [sizeR, isR_e1 h1, if_neg (by simp)]
    rw [this] at e2
    subst e2
    rw [takeR_e1 h1] at e3
    subst e3
    rw [takeR_e1 h1] at e4
    subst e4
    rfl
  have c1 := a1.bind (W := fun n1 name => if isV l n1 3 = true then
      if (numV (txV s l n1)).1 < 1 ∨ 256 < (numV (txV s l n1)).1 then .error (atV s l n1, 12)
      else bnd (nmV s l (n1 + 1)) fun n2 lv => .ok (n2, (⟨name, (numV (txV s l n1)).1, lv, atV s l r.n⟩ : Arr))
    else .error (atV s l n1, 7)) (p := ⟨q1.1, q2.1, q4.1, atV s l r.n⟩) (t := q4.2) (fun h1 _ => ?_) (fun h1 => by rw [still h1]; exact ⟨rfl, rfl⟩)
  · exact (agr_go h).bind' (W := fun n0 _ => bnd (nmV s l n0) fun n1 name => if isV l n1 3 = true then
      if (numV (txV s l n1)).1 < 1 ∨ 256 < (numV (txV s l n1)).1 then .error (atV s l n1, 12)
      else bnd (nmV s l (n1 + 1)) fun n2 lv => .ok (n2, (⟨name, (numV (txV s l n1)).1, lv, atV s l r.n⟩ : Arr))
    else .error (atV s l n1, 7)) c1
  have ht : textR s l q1.2 0 = txV s l q1.2.n := textR_e0 h1 0
  by_cases hi : isV l q1.2.n 3 = true
  · rw [if_pos hi]
    have hz : sizeR s l q1.2 = ((numV (txV s l q1.2.n)).1, if (numV (txV s l q1.2.n)).1 < 1 ∨ 256 < (numV (txV s l q1.2.n)).1 then failR s l q1.2 12 else q1.2) := by
      rw [sizeR, isR_e0 h1, if_pos hi, ht, num_eq]
    by_cases hb : (numV (txV s l q1.2.n)).1 < 1 ∨ 256 < (numV (txV s l q1.2.n)).1
    · rw [if_pos hb]
      rw [if_pos hb] at hz
      have hF : (failR s l q1.2 12).e ≠ 0 := by rw [failR_e0 h1]; show (12 : Int) ≠ 0; decide
      rw [hz] at e2
      subst e2
      rw [takeR_e1 hF] at e3
      subst e3
      rw [takeR_e1 hF] at e4
      subst e4
      exact agr_fail (by decide)
    · rw [if_neg hb]
      rw [if_neg hb] at hz
      rw [hz] at e2
      subst e2
      have h3 : takeR s l q1.2 3 = (txV s l q1.2.n, goR q1.2) := by rw [takeR, isR_e0 h1, if_pos hi, ht]
      rw [h3] at e3
      subst e3
      subst e4
      exact (agr_go h1).bind' (W := fun n _ => bnd (nmV s l n) fun n2 lv => .ok (n2, (⟨q1.1, (numV (txV s l q1.2.n)).1, lv, atV s l r.n⟩ : Arr))) (agr_take.map fun lv => (⟨q1.1, (numV (txV s l q1.2.n)).1, lv, atV s l r.n⟩ : Arr))
  · rw [if_neg hi]
    have hz : sizeR s l q1.2 = (0, q1.2) := by rw [sizeR, isR_e0 h1, if_neg hi]
    rw [hz] at e2
    subst e2
    have h3 : takeR s l q1.2 3 = (.empty, failR s l q1.2 7) := by rw [takeR, isR_e0 h1, if_neg hi]
    rw [h3] at e3
    subst e3
    have hF : (failR s l q1.2 7).e ≠ 0 := by rw [failR_e0 h1]; show (7 : Int) ≠ 0; decide
    rw [takeR_e1 hF] at e4
    subst e4
    exact agr_fail (by decide)
/-- Each step goes on, or there is a fault. -/
theorem arrR_on (hn : r.n ≤ l.length) (h0 : r.e = 0) (hw : (txV s l r.n).data.toList = [97, 114, 114, 97, 121]) (h : (arrR s l r).2.e = 0) : r.n < (arrR s l r).2.n :=
  (arr_up ((agr_arr hn h0 hw).done h).2).1
theorem funcR_on (hd : Named s l) (hn : r.n ≤ l.length) (hc : r.c ≤ 4096) (h0 : r.e = 0) (hw : (txV s l r.n).data.toList = [102, 110]) (h : (funcR s l r).2.e = 0) : r.n < (funcR s l r).2.n :=
  (func_up hc ((agr_func hd hn hc h0 hw).done h).2).1
theorem parse_e1 (h : r.e ≠ 0) (f : Nat) (p : Prg) : parseRF s l f r p = (p, r) := by
  cases f with
  | zero => rfl
  | succ f => rw [parseRF, if_neg (fun hh => h hh.1)]
theorem agr_parse (hd : Named s l) : ∀ (f1 f2 : Nat) (r : Rd) (p : Prg), r.n ≤ l.length → r.c ≤ 4096 → l.length + 1 ≤ f1 + r.n → l.length + 1 ≤ f2 + r.n → Agr r (progF s l f1 r.n r.c p) (parseRF s l f2 r p).1 (parseRF s l f2 r p).2
  | 0, _, r, p, hn, hc, hf, _ => by omega
  | _, 0, r, p, hn, hc, _, hf => by omega
  | f1 + 1, f2 + 1, r, p, hn, hc, hf1, hf2 => by
    by_cases h : r.e = 0
    rotate_left
    · rw [parse_e1 h]; exact .inl ⟨h, rfl, rfl⟩
    by_cases hlt : r.n < l.length
    rotate_left
    · rw [progF, parseRF, if_neg hlt, if_neg (fun hh : r.e = 0 ∧ r.n < l.length => hlt hh.2)]
      exact .inr (.inl ⟨h, rfl, h, rfl⟩)
    have hc1 : r.e = 0 ∧ r.n < l.length := ⟨h, hlt⟩
    have ht : textR s l r 0 = txV s l r.n := textR_e0 h 0
    have hV0 : progF s l (f1 + 1) r.n r.c p = if (txV s l r.n).data.toList = [97, 114, 114, 97, 121] then
        if 16 ≤ p.arrays.length then .error (atV s l r.n, 3)
        else bnd (arrV s l r.n) fun n x => progF s l f1 n r.c ⟨p.arrays ++ [x], p.funcs⟩
      else if (txV s l r.n).data.toList = [102, 110] then
        if 64 ≤ p.funcs.length then .error (atV s l r.n, 3)
        else bnd (funcV s l r.n r.c) fun n q => progF s l f1 n q.1 ⟨p.arrays, p.funcs ++ [q.2]⟩
      else .error (atV s l r.n, 7) := by rw [progF, if_pos hlt]
    have hR0 : parseRF s l (f2 + 1) r p = if ((txV s l r.n).data.toList = [97, 114, 114, 97, 121] ∧ 16 ≤ p.arrays.length) ∨ ((txV s l r.n).data.toList = [102, 110] ∧ 64 ≤ p.funcs.length) then parseRF s l f2 (failR s l r 3) p
      else if (txV s l r.n).data.toList = [97, 114, 114, 97, 121] then parseRF s l f2 (arrR s l r).2 ⟨p.arrays ++ [(arrR s l r).1], p.funcs⟩
      else if (txV s l r.n).data.toList = [102, 110] then parseRF s l f2 (funcR s l r).2 ⟨p.arrays, p.funcs ++ [(funcR s l r).1]⟩
      else parseRF s l f2 (failR s l r 7) p := by rw [parseRF, if_pos hc1]; simp only [ht]
    rw [hV0, hR0]
    clear hV0 hR0
    have hfail : ∀ e : Int, e ≠ 0 → Agr r (.error (atV s l r.n, e)) (parseRF s l f2 (failR s l r e) p).1 (parseRF s l f2 (failR s l r e) p).2 := fun e he => by
      have hF : (failR s l r e).e ≠ 0 := by rw [failR_e0 h]; exact he
      rw [parse_e1 hF]
      exact agr_fail he
    by_cases w1 : (txV s l r.n).data.toList = [97, 114, 114, 97, 121]
    · have w2 : ¬ (txV s l r.n).data.toList = [102, 110] := by rw [w1]; simp
      by_cases k : 16 ≤ p.arrays.length
      · have hA : ((txV s l r.n).data.toList = [97, 114, 114, 97, 121] ∧ 16 ≤ p.arrays.length) ∨ ((txV s l r.n).data.toList = [102, 110] ∧ 64 ≤ p.funcs.length) := .inl ⟨w1, k⟩
        rw [if_pos hA, if_pos w1, if_pos k]
        exact hfail 3 (by decide)
      · have hA : ¬ (((txV s l r.n).data.toList = [97, 114, 114, 97, 121] ∧ 16 ≤ p.arrays.length) ∨ ((txV s l r.n).data.toList = [102, 110] ∧ 64 ≤ p.funcs.length)) := fun hh => hh.elim (fun h2 => k h2.2) (fun h2 => w2 h2.1)
        rw [if_neg hA, if_pos w1, if_neg k, if_pos w1]
        have s1 := arrR_sane (s := s) hn
        refine (agr_arr hn h w1).bind (fun h1 hV => ?_) (fun h1 => ?_)
        · have hu := (arr_up hV).1
          have := agr_parse hd f1 f2 (arrR s l r).2 ⟨p.arrays ++ [(arrR s l r).1], p.funcs⟩ s1.1 (by rw [s1.2]; exact hc) (by omega) (by omega)
          rw [s1.2] at this
          exact this
        · rw [parse_e1 h1]; exact ⟨rfl, rfl⟩
    · by_cases w2 : (txV s l r.n).data.toList = [102, 110]
      · by_cases k : 64 ≤ p.funcs.length
        · have hA : ((txV s l r.n).data.toList = [97, 114, 114, 97, 121] ∧ 16 ≤ p.arrays.length) ∨ ((txV s l r.n).data.toList = [102, 110] ∧ 64 ≤ p.funcs.length) := .inr ⟨w2, k⟩
          rw [if_pos hA, if_neg w1, if_pos w2, if_pos k]
          exact hfail 3 (by decide)
        · have hA : ¬ (((txV s l r.n).data.toList = [97, 114, 114, 97, 121] ∧ 16 ≤ p.arrays.length) ∨ ((txV s l r.n).data.toList = [102, 110] ∧ 64 ≤ p.funcs.length)) := fun hh => hh.elim (fun h2 => w1 h2.1) (fun h2 => k h2.2)
          rw [if_neg hA, if_neg w1, if_pos w2, if_neg k, if_neg w1, if_pos w2]
          obtain ⟨s1, s2⟩ := funcR_sane (s := s) hn hc
          refine (agr_func hd hn hc h w2).bind (fun h1 hV => ?_) (fun h1 => ?_)
          · have hu := (func_up hc hV).1
            exact agr_parse hd f1 f2 (funcR s l r).2 ⟨p.arrays, p.funcs ++ [(funcR s l r).1]⟩ s1 s2 (by omega) (by omega)
          · rw [parse_e1 h1]; exact ⟨rfl, rfl⟩
      · have hA : ¬ (((txV s l r.n).data.toList = [97, 114, 114, 97, 121] ∧ 16 ≤ p.arrays.length) ∨ ((txV s l r.n).data.toList = [102, 110] ∧ 64 ≤ p.funcs.length)) := fun hh => hh.elim (fun h2 => w1 h2.1) (fun h2 => w2 h2.1)
        rw [if_neg hA, if_neg w1, if_neg w2, if_neg w1, if_neg w2]
        exact hfail 7 (by decide)
end
def rd0 : Rd := ⟨0, 0, 0, 0⟩
def parseRR (s : ByteArray) : Prg × Int × Int :=
  if (allV s).2.2 = 0 then
    let q := parseRF s (allV s).1 ((allV s).1.length + 2) rd0 ⟨[], []⟩
    if q.2.e = 0 then (q.1, 0, 0) else (⟨[], []⟩, q.2.a, q.2.e)
  else (⟨[], []⟩, (allV s).2.1, (allV s).2.2)
/-! ### tokens -/
theorem toks_kind (s : ByteArray) : ∀ (n a : Nat) (out : List Tok), a ≤ s.size → (∀ t, t ∈ out → t.k = 4 ∨ t.k = kindOf (s.extract t.f.toNat t.t.toNat)) → ∀ t, t ∈ (toksF s n a out).1 → t.k = 4 ∨ t.k = kindOf (s.extract t.f.toNat t.t.toNat)
  | 0, a, out, _, _ => by simp [toksF]
  | n + 1, a, out, ha, ho => by
    rw [toksF]
    split
    · exact ho
    · split
      · rename_i h0
        have hf := one_facts ha
        have hb : (a : Int) ≤ (oneN s a).1.f ∧ (oneN s a).1.f < (oneN s a).1.t ∧ (oneN s a).1.t ≤ s.size := by
          rcases hf with h | h | h
          · exact h.2
          · omega
          · omega
        refine toks_kind s n _ _ (by omega) fun t ht => ?_
        rcases List.mem_append.1 ht with ht | ht
        · exact ho t ht
        · obtain rfl := List.mem_singleton.1 ht
          obtain ⟨p, hp⟩ : ∃ p, skV s false a = p := ⟨_, rfl⟩
          by_cases e : p = s.size
          · rw [oneN_none hp e] at h0; cases h0
          · cases hs : signB (bt s p) with
            | true => rw [oneN_sign hp e hs]; exact .inl rfl
            | false =>
              by_cases hk : kindOf (s.extract p (pieceEnd s p)) = 0
              · rw [oneN_bad hp e hs hk] at h0; cases h0
              · rw [oneN_ok hp e hs hk]
                exact .inr (by simp)
      · simp
theorem all_kind (s : ByteArray) (t : Tok) (ht : t ∈ (allV s).1) : t.k = 4 ∨ t.k = kindOf (s.extract t.f.toNat t.t.toNat) := by
  unfold allV at ht
  split at ht
  · simp at ht
  · split at ht
    · simp at ht
    · exact toks_kind s _ 0 [] (by omega) (by simp) t ht
theorem all_named (s : ByteArray) : Named s (allV s).1 := fun n h => by
  have hlt := isV_lt h
  have hk : ((allV s).1.getD n tok0).k = 1 := by
    unfold isV at h
    simp only [Bool.and_eq_true, decide_eq_true_eq] at h
    exact h.2
  have hm : (allV s).1.getD n tok0 ∈ (allV s).1 := by
    rw [List.getD_eq_getElem?_getD, List.getElem?_eq_getElem hlt]
    exact List.getElem_mem hlt
  have h1 := all_kind s _ hm
  rw [txV, if_pos hlt]
  generalize (allV s).1.getD n tok0 = t at hk h1
  rcases h1 with h1 | h1
  · omega
  · rw [hk] at h1
    generalize s.extract t.f.toNat t.t.toNat = b at h1
    unfold kindOf at h1
    split at h1
    · cases h1
    · rename_i hw
      refine Classical.byContradiction fun hh => hw ?_
      rcases kindA_cases hh with e | e | e | e | e
      · exact word_in e (by decide)
      · exact word_in e (by decide)
      · exact word_in e (by decide)
      · exact word_in e (by decide)
      · exact word_in e (by decide)
theorem parse_same (s : ByteArray) : parseRR s = parseV s := by
  unfold parseRR parseV
  split
  · have hA := agr_parse (all_named s) ((allV s).1.length + 1) ((allV s).1.length + 2) rd0 ⟨[], []⟩ (Nat.zero_le _) (Nat.zero_le _) (by show _ ≤ _ + 1 + 0; omega) (by show _ ≤ _ + 2 + 0; omega)
    dsimp only
    rcases hA with ⟨a, _⟩ | ⟨_, b, c, d⟩ | ⟨_, b, c⟩
    · exact absurd rfl a
    · rw [if_pos c, show progF s (allV s).1 ((allV s).1.length + 1) 0 0 ⟨[], []⟩ = _ from b]; rfl
    · rw [if_neg b, show progF s (allV s).1 ((allV s).1.length + 1) 0 0 ⟨[], []⟩ = _ from c]; rfl
  · rfl
end Go.Proofs.YtikkppdihepmdaaDoor

/- The answer's Parse: the walk. Written by gen17c.py. -/
namespace Go.Proofs.YtikkppdihepmdaaDoor
open Go.Sx
set_option linter.unusedVariables false
set_option linter.unusedSimpArgs false
set_option maxRecDepth 100000

theorem fail_e {s : ByteArray} {l : List Tok} {r : Rd} {e : Int} (he : e ≠ 0) : (failR s l r e).e ≠ 0 := by
  unfold failR
  split
  · exact he
  · assumption
structure PRL (s : ByteArray) (l : List Tok) (R : Prg × Rd) where
  f : Nat
  r : Rd
  p : Prg
  hf : r.e = 0 → l.length + 2 ≤ f + r.n
  hf0 : 0 < f
  hn : r.n ≤ l.length
  hc : r.c ≤ 4096
  ha : p.arrays.length + f ≤ l.length + 2
  hp : p.funcs.length + f ≤ l.length + 2
  same : parseRF s l f r p = R
set_option maxHeartbeats 4000000 in
theorem refparse7_spec (s : ByteArray) (hs : s.size ≤ 4611686018427387904) : Pure PG 8 [vs s] (parseR (parseRR s)) [] := by
  refine Proc.mk (cfg 81) tysOK [] Tryd.func8 rfl (by kernel_rfl) rfl rfl rfl ?_
  intro C x
  refine x.pure rfl trivial rfl (refall_spec s hs) ⟨rfl, trivial⟩ ?_
  refine x.cond rfl trivial (fun h => ?_) (fun h => ?_)
  · have h : (!decide ((allV s).2.2 = 0)) = true := h
    have h : ¬ (allV s).2.2 = 0 := by simpa using h
    rw [parseRR, if_neg h]
    refine Go.atExitN 0 0 4 (fun i => dArr (([] : List Arr).getD i arr0)) ?_
    refine Go.atExitN 0 1 4 (fun i => dFun (([] : List Fun).getD i fun0)) ?_
    refine x.exit rfl trivial ?_
    exact ⟨.inr rfl, ⟨rfl, rfl, rfl, trivial⟩, trivial, rfl⟩
  have h : (!decide ((allV s).2.2 = 0)) = false := h
  have h0 : (allV s).2.2 = 0 := by simpa using h
  have hsm := all_small h0
  have hl := all_lies s hsm
  have hL : (allV s).1.length ≤ 1000000 := by have := all_len s; omega
  have hd := all_named s
  rw [parseRR, if_pos h0]
  obtain ⟨l, hLL⟩ : ∃ l, (allV s).1 = l := ⟨_, rfl⟩
  rw [hLL] at hl hL hd ⊢
  have hll := hl.2.1
  obtain ⟨R, hR⟩ : ∃ R, parseRF s l (l.length + 2) rd0 ⟨[], []⟩ = R := ⟨_, rfl⟩
  rw [hR]
  refine x.toLoop rfl trivial ?_
  refine Go.ownB 2 0 61 4 (fun i => dArr (([] : List Arr).getD i arr0)) rfl rfl ?_
  refine Go.ownB 2 1 38 4 (fun i => dFun (([] : List Fun).getD i fun0)) rfl rfl ?_
  refine x.loop (α := PRL s l R) (fun y => ⟨[(2, .ptr 0 0), (5, tv l), (8, .ptr 1 0), (9, .ptr 2 0)], [(0, .box [.nils, .nils]), (1, rC s l y.r), (2, .box [.own 3, .own 4]), (3, arrsC y.p.arrays), (4, funsC y.p.funcs)], 5⟩) (fun y => y.f) ⟨l.length + 2, rd0, ⟨[], []⟩, fun _ => by show l.length + 2 ≤ l.length + 2 + 0; omega, by omega, Nat.zero_le _, Nat.zero_le _, by simp, by simp, hR⟩ rfl trivial ⟨⟨⟨rfl, rfl⟩, veq_d rfl, ⟨rfl, rfl⟩, ⟨rfl, rfl⟩, trivial⟩, ⟨⟨trivial, trivial, trivial⟩, ⟨rfl, veq0_d rfl, rfl, rfl, rfl, rfl, trivial⟩, ⟨rfl, rfl, trivial⟩, ⟨rfl, rfl, rfl, fun j hj => absurd hj (Nat.not_lt_zero _)⟩, ⟨rfl, rfl, rfl, fun j hj => absurd hj (Nat.not_lt_zero _)⟩, trivial⟩, rfl⟩ (fun y => ?_)
  obtain ⟨f, r, p, hf, hf0, hn, hc, ha, hp, same⟩ := y
  change Go C _ ⟨[(2, .ptr 0 0), (5, tv l), (8, .ptr 1 0), (9, .ptr 2 0)], [(0, .box [.nils, .nils]), (1, rC s l r), (2, .box [.own 3, .own 4]), (3, arrsC p.arrays), (4, funsC p.funcs)], 5⟩ _
  obtain ⟨f, rfl⟩ : ∃ f', f = f' + 1 := ⟨f - 1, by omega⟩
  rw [parseRF] at same
  refine x.cond rfl trivial (fun b => ?_) (fun b => ?_)
  rotate_left
  · have b : (decide (r.e = 0) && decide ((r.n : Int) < (l.length : Int))) = false := b
    have b : ¬ (r.e = 0 ∧ r.n < l.length) := by
      rintro ⟨h1, h2⟩
      have h3 : (decide (r.e = 0) && decide ((r.n : Int) < (l.length : Int))) = true := by
        simp only [Bool.and_eq_true, decide_eq_true_eq]
        exact ⟨h1, by omega⟩
      rw [h3] at b
      cases b
    rw [if_neg b] at same
    refine x.cond rfl trivial (fun b2 => ?_) (fun b2 => ?_)
    · have b2 : (!decide (r.e = 0)) = true := b2
      have b2 : ¬ r.e = 0 := by simpa using b2
      refine x.draw [0] [] [0, 1, 2, 3, 4] [5, 6] [7] rfl trivial mixedP (by kernel_rfl) (NoPanic.quiet Ret.noPanic) rfl trivial (fun C1 x1 => ?_)
      refine x1.back rfl trivial ?_
      refine x1.back rfl trivial ?_
      refine Go.atExitN 0 0 4 (fun i => dArr (([] : List Arr).getD i arr0)) ?_
      refine Go.atExitN 0 1 4 (fun i => dFun (([] : List Fun).getD i fun0)) ?_
      refine x.exit rfl trivial ?_
      rw [← same]
      dsimp only
      rw [if_neg b2]
      exact ⟨.inr rfl, ⟨rfl, rfl, rfl, trivial⟩, trivial, rfl⟩
    · have b2 : (!decide (r.e = 0)) = false := b2
      have b2 : r.e = 0 := by simpa using b2
      refine Go.atExit [3, 4] ?_
      refine x.exit rfl trivial ?_
      rw [← same]
      dsimp only
      rw [if_pos b2]
      exact ⟨.inr rfl, ⟨rfl, rfl, rfl, trivial⟩, trivial, rfl⟩
  have b : (decide (r.e = 0) && decide ((r.n : Int) < (l.length : Int))) = true := b
  have b : r.e = 0 ∧ r.n < l.length := by
    simp only [Bool.and_eq_true, decide_eq_true_eq] at b
    exact ⟨b.1, by omega⟩
  rw [if_pos b] at same
  dsimp only at same
  have hf := hf b.1
  refine x.call [1] rfl trivial rfl (textR_spec s l r hl (by omega) 0 (by omega)) rfl ⟨⟨rfl, rfl⟩, rfl, trivial⟩ ⟨⟨rfl, veq0_d rfl, rfl, rfl, rfl, rfl, trivial⟩, trivial⟩ ?_
  obtain ⟨w, hw⟩ : ∃ w, (textR s l r 0) = w := ⟨_, rfl⟩
  have htx : txV s l r.n = w := (textR_e0 b.1 0).symm.trans hw
  rw [hw] at same ⊢
  have hcond : ((decide (w.data.toList = [97, 114, 114, 97, 121]) && decide ((16 : Int) ≤ (p.arrays.length : Int))) || (decide (w.data.toList = [102, 110]) && decide ((64 : Int) ≤ (p.funcs.length : Int)))) = true ↔ ((w.data.toList = [97, 114, 114, 97, 121] ∧ 16 ≤ p.arrays.length) ∨ (w.data.toList = [102, 110] ∧ 64 ≤ p.funcs.length)) := by
    simp only [Bool.or_eq_true, Bool.and_eq_true, decide_eq_true_eq]
    constructor
    · rintro (⟨h1, h2⟩ | ⟨h1, h2⟩)
      · exact .inl ⟨h1, by omega⟩
      · exact .inr ⟨h1, by omega⟩
    · rintro (⟨h1, h2⟩ | ⟨h1, h2⟩)
      · exact .inl ⟨h1, by omega⟩
      · exact .inr ⟨h1, by omega⟩
  refine x.cond rfl trivial (fun b2 => ?_) (fun b2 => ?_)
  · have b2 := hcond.1 b2
    rw [if_pos b2] at same
    refine x.call [1] rfl trivial rfl (failR_spec s l r (by omega) 3) rfl ⟨⟨rfl, rfl⟩, rfl, trivial⟩ ⟨⟨rfl, veq0_d rfl, rfl, rfl, rfl, rfl, trivial⟩, trivial⟩ ?_
    refine x.back rfl trivial ⟨⟨f, failR s l r 3, p, fun h => absurd h (fail_e (by decide)), by omega, by rw [failR_n]; exact hn, by rw [failR_c]; exact hc, by omega, by omega, same⟩, by show f < f + 1; omega, ⟨⟨rfl, rfl⟩, veq_d rfl, ⟨rfl, rfl⟩, ⟨rfl, rfl⟩, trivial⟩, ⟨⟨trivial, trivial, trivial⟩, ⟨rfl, veq0_d rfl, rfl, rfl, rfl, rfl, trivial⟩, ⟨rfl, rfl, trivial⟩, ⟨rfl, rfl, rfl, fun _ _ => rfl⟩, ⟨rfl, rfl, rfl, fun _ _ => rfl⟩, trivial⟩, rfl⟩
  have b2 : ¬ ((w.data.toList = [97, 114, 114, 97, 121] ∧ 16 ≤ p.arrays.length) ∨ (w.data.toList = [102, 110] ∧ 64 ≤ p.funcs.length)) := fun h => absurd ((hcond.2 h).symm.trans b2) (by simp)
  rw [if_neg b2] at same
  refine x.cond rfl trivial (fun b3 => ?_) (fun b3 => ?_)
  · have b3 : w.data.toList = [97, 114, 114, 97, 121] := of_decide_eq_true b3
    rw [if_pos b3] at same
    have c1 := arrayR_spec s l r hl (by omega)
    have m1 := arrR_sane (s := s) hn
    have m2 := arrR_on (s := s) hn b.1 (by rw [htx]; exact b3)
    obtain ⟨⟨x', q'⟩, hz⟩ : ∃ z, arrR s l r = z := ⟨_, rfl⟩
    rw [hz] at c1 m1 m2 same
    dsimp only at c1 m1 m2 same
    refine x.draw [1] [] [0, 1] [2, 3] [4, 5, 6] rfl trivial mixedP (by kernel_rfl) (NoPanic.quiet Ret.noPanic) rfl trivial (fun C1 x1 => ?_)
    refine x1.call [1] rfl trivial rfl c1 rfl ⟨⟨rfl, rfl⟩, trivial⟩ ⟨⟨rfl, veq0_d rfl, rfl, rfl, rfl, rfl, trivial⟩, trivial⟩ ?_
    refine x1.back rfl trivial ?_
    refine x1.back rfl trivial ?_
    refine x.back rfl (by simp only [AllP, big]; omega) ⟨⟨f, q', ⟨p.arrays ++ [x'], p.funcs⟩, fun h => by have := m2 h; omega, by omega, m1.1, by rw [m1.2]; exact hc, by rw [List.length_append]; simp only [List.length_cons, List.length_nil]; omega, by show p.funcs.length + f ≤ _; omega, same⟩, by show f < f + 1; omega, ⟨⟨rfl, rfl⟩, veq_d rfl, ⟨rfl, rfl⟩, ⟨rfl, rfl⟩, trivial⟩, ⟨⟨trivial, trivial, trivial⟩, ⟨rfl, veq0_d rfl, rfl, rfl, rfl, rfl, trivial⟩, ⟨rfl, rfl, trivial⟩, ⟨rfl, rfl, by simp, fun j hj => app_gen dArr 4 (fun _ => rfl) arr0 p.arrays x' j hj⟩, ⟨rfl, rfl, rfl, fun _ _ => rfl⟩, trivial⟩, rfl⟩
  have b3 : ¬ w.data.toList = [97, 114, 114, 97, 121] := of_decide_eq_false b3
  rw [if_neg b3] at same
  refine x.cond rfl trivial (fun b4 => ?_) (fun b4 => ?_)
  · have b4 : w.data.toList = [102, 110] := of_decide_eq_true b4
    rw [if_pos b4] at same
    have c1 := funcR_spec s l r hl hL hn hc
    have m1 := funcR_sane (s := s) hn hc
    have m2 := funcR_on (s := s) hd hn hc b.1 (by rw [htx]; exact b4)
    obtain ⟨⟨x', q'⟩, hz⟩ : ∃ z, funcR s l r = z := ⟨_, rfl⟩
    rw [hz] at c1 m1 m2 same
    dsimp only at c1 m1 m2 same
    refine x.draw [1] [] [0, 1] [2, 3] [4, 5, 6] rfl trivial mixedP (by kernel_rfl) (NoPanic.quiet Ret.noPanic) rfl trivial (fun C1 x1 => ?_)
    refine x1.call [1] rfl trivial rfl c1 rfl ⟨⟨rfl, rfl⟩, trivial⟩ ⟨⟨rfl, veq0_d rfl, rfl, rfl, rfl, rfl, trivial⟩, trivial⟩ ?_
    refine x1.back rfl trivial ?_
    refine x1.back rfl trivial ?_
    refine x.back rfl (by simp only [AllP, big]; omega) ⟨⟨f, q', ⟨p.arrays, p.funcs ++ [x']⟩, fun h => by have := m2 h; omega, by omega, m1.1, m1.2, by show p.arrays.length + f ≤ _; omega, by rw [List.length_append]; simp only [List.length_cons, List.length_nil]; omega, same⟩, by show f < f + 1; omega, ⟨⟨rfl, rfl⟩, veq_d rfl, ⟨rfl, rfl⟩, ⟨rfl, rfl⟩, trivial⟩, ⟨⟨trivial, trivial, trivial⟩, ⟨rfl, veq0_d rfl, rfl, rfl, rfl, rfl, trivial⟩, ⟨rfl, rfl, trivial⟩, ⟨rfl, rfl, rfl, fun _ _ => rfl⟩, ⟨rfl, rfl, by simp, fun j hj => app_gen dFun 4 (fun _ => rfl) fun0 p.funcs x' j hj⟩, trivial⟩, rfl⟩
  have b4 : ¬ w.data.toList = [102, 110] := of_decide_eq_false b4
  rw [if_neg b4] at same
  refine x.call [1] rfl trivial rfl (failR_spec s l r (by omega) 7) rfl ⟨⟨rfl, rfl⟩, rfl, trivial⟩ ⟨⟨rfl, veq0_d rfl, rfl, rfl, rfl, rfl, trivial⟩, trivial⟩ ?_
  refine x.back rfl trivial ⟨⟨f, failR s l r 7, p, fun h => absurd h (fail_e (by decide)), by omega, by rw [failR_n]; exact hn, by rw [failR_c]; exact hc, by omega, by omega, same⟩, by show f < f + 1; omega, ⟨⟨rfl, rfl⟩, veq_d rfl, ⟨rfl, rfl⟩, ⟨rfl, rfl⟩, trivial⟩, ⟨⟨trivial, trivial, trivial⟩, ⟨rfl, veq0_d rfl, rfl, rfl, rfl, rfl, trivial⟩, ⟨rfl, rfl, trivial⟩, ⟨rfl, rfl, rfl, fun _ _ => rfl⟩, ⟨rfl, rfl, rfl, fun _ _ => rfl⟩, trivial⟩, rfl⟩
end Go.Proofs.YtikkppdihepmdaaDoor

/- Are two programs alike? The answer's functions. -/
namespace Go.Proofs.YtikkppdihepmdaaDoor
open Go.Sx
set_option linter.unusedVariables false
set_option linter.unusedSimpArgs false
set_option maxRecDepth 100000

/-- f at i, i + 1, .. (k of them). -/
def allF (f : Nat → Bool) : Nat → Nat → Bool
  | 0, _ => true
  | k + 1, i => f i && allF f k (i + 1)
theorem allF_iff {f : Nat → Bool} : ∀ {k i : Nat}, allF f k i = true ↔ ∀ j, i ≤ j → j < i + k → f j = true
  | 0, i => by simp only [allF, true_iff]; intro j h1 h2; omega
  | k + 1, i => by
    simp only [allF, Bool.and_eq_true, allF_iff]
    constructor
    · rintro ⟨h1, h2⟩ j h3 h4
      by_cases e : j = i
      · subst e; exact h1
      · exact h2 j (by omega) (by omega)
    · intro h
      exact ⟨h i (by omega) (by omega), fun j h3 h4 => h j (by omega) (by omega)⟩
abbrev beq (a b : ByteArray) : Bool := decide (a.data.toList = b.data.toList)
def textsB (a b : List ByteArray) : Bool := decide (a.length = b.length) && allF (fun i => beq (a.getD i .empty) (b.getD i .empty)) a.length 0
structure AW (f : Nat → Bool) (n : Nat) (R : Bool) where
  i : Nat
  hi : i ≤ n
  same : allF f (n - i) i = R
theorem AW.step {f : Nat → Bool} {n : Nat} {R : Bool} {i : Nat} (hi : i < n) (same : allF f (n - i) i = R) (h : f i = true) : allF f (n - (i + 1)) (i + 1) = R := by
  rw [show n - i = (n - (i + 1)) + 1 by omega, allF, h] at same
  simpa using same
theorem AW.stop {f : Nat → Bool} {n : Nat} {R : Bool} {i : Nat} (hi : i < n) (same : allF f (n - i) i = R) (h : f i = false) : R = false := by
  rw [show n - i = (n - (i + 1)) + 1 by omega, allF, h] at same
  simpa using same.symm
theorem AW.fin {f : Nat → Bool} {n : Nat} {R : Bool} {i : Nat} (hi : ¬ i < n) (hn : i ≤ n) (same : allF f (n - i) i = R) : R = true := by
  rw [show n - i = 0 by omega, allF] at same
  exact same.symm
abbrev bigL : Nat := 1000000000000
theorem texts_spec (a b : List ByteArray) (ha : a.length ≤ bigL) (hb : b.length ≤ bigL) : Pure PG 51 [.d (dStrs a), .d (dStrs b)] (vb (textsB a b)) [] := by
  refine Proc.mk (cfg 26) tysOK [] Tryd.func51 rfl (by kernel_rfl) rfl rfl rfl ?_
  intro C x
  unfold bigL at ha hb
  refine x.cond rfl trivial (fun h => ?_) (fun h => ?_)
  · have h : (!decide ((a.length : Int) = (b.length : Int))) = true := h
    have h : ¬ (a.length : Int) = (b.length : Int) := by simpa using h
    refine x.exit rfl trivial ?_
    rw [textsB, decide_eq_false (by omega)]
    exact ⟨.inr rfl, rfl, trivial, rfl⟩
  have h : (!decide ((a.length : Int) = (b.length : Int))) = false := h
  have h : (a.length : Int) = (b.length : Int) := by simpa using h
  have hab : a.length = b.length := by omega
  obtain ⟨R, hR⟩ : ∃ R, textsB a b = R := ⟨_, rfl⟩
  have hR2 : allF (fun i => beq (a.getD i .empty) (b.getD i .empty)) a.length 0 = R := by rw [← hR, textsB, decide_eq_true hab]; rfl
  rw [hR]
  refine x.loop (α := AW (fun i => beq (a.getD i .empty) (b.getD i .empty)) a.length R) (fun y => ⟨[(0, .d (dStrs a)), (1, .d (dStrs b)), (5, vi (y.i : Int))], [], 0⟩) (fun y => a.length - y.i) ⟨0, Nat.zero_le _, hR2⟩ rfl trivial ⟨⟨veq_d rfl, veq_d rfl, rfl, trivial⟩, trivial, rfl⟩ (fun y => ?_)
  obtain ⟨i, hi, same⟩ := y
  change Go C _ ⟨[(0, .d (dStrs a)), (1, .d (dStrs b)), (5, vi (i : Int))], [], 0⟩ _
  refine x.cond rfl trivial (fun h2 => ?_) (fun h2 => ?_)
  · have h2 : (i : Int) < (a.length : Int) := of_decide_eq_true h2
    have h2 : i < a.length := by omega
    refine x.quiet rfl trivial mixedP (by kernel_rfl) ?_
    refine x.qdone rfl (by simp only [AllP]; omega) ?_
    refine x.cond rfl trivial (fun h3 => ?_) (fun h3 => ?_)
    · have h3 : (!beq (a.getD ((i : Int).toNat) .empty) (b.getD ((i : Int).toNat) .empty)) = true := h3
      rw [Int.toNat_natCast] at h3
      refine x.exit rfl trivial ?_
      rw [AW.stop h2 same (by simpa using h3)]
      exact ⟨.inr rfl, rfl, trivial, rfl⟩
    · have h3 : (!beq (a.getD ((i : Int).toNat) .empty) (b.getD ((i : Int).toNat) .empty)) = false := h3
      rw [Int.toNat_natCast] at h3
      refine x.back rfl (by simp only [AllP, inI64]; omega) ⟨⟨i + 1, by omega, AW.step h2 same (by simpa using h3)⟩, by show a.length - (i + 1) < a.length - i; omega, ⟨veq_d rfl, veq_d rfl, ?_, trivial⟩, trivial, rfl⟩
      show VEq0 (vi ((i : Int) + 1)) (vi ((i + 1 : Nat) : Int)); rw [Int.natCast_add]; rfl
  · have h2 : ¬ (i : Int) < (a.length : Int) := of_decide_eq_false h2
    refine x.exit rfl trivial ?_
    rw [AW.fin (by omega) hi same]
    exact ⟨.inr rfl, rfl, trivial, rfl⟩
def sameInsB (a b : Ins) (p : Bool) : Bool :=
  decide (a.kind = b.kind) && decide (a.op = b.op) && beq a.dst b.dst && beq a.ref b.ref && beq a.alt b.alt && decide (a.num = b.num) && (!p || decide (a.at_ = b.at_)) && textsB a.args b.args && textsB a.frm b.frm
/-- Few texts in it. -/
def SmallI (x : Ins) : Prop := x.args.length ≤ bigL ∧ x.frm.length ≤ bigL
set_option maxHeartbeats 2000000 in
theorem sameIns_spec (a b : Ins) (p : Bool) (ha : SmallI a) (hb : SmallI b) : Pure PG 52 [xD a, xD b, vb p] (vb (sameInsB a b p)) [] := by
  refine Proc.mk (cfg 72) tysOK [] Tryd.func52 rfl (by kernel_rfl) rfl rfl rfl ?_
  intro C x
  refine x.pureG rfl trivial rfl (fun _ => texts_spec a.args b.args ha.1 hb.1) rfl ⟨veq_d rfl, veq_d rfl, trivial⟩ ?_
  refine x.pureG rfl trivial rfl (fun _ => texts_spec a.frm b.frm ha.2 hb.2) rfl ⟨veq_d rfl, veq_d rfl, trivial⟩ ?_
  refine x.exit rfl trivial ?_
  exact ⟨.inr rfl, rfl, trivial, rfl⟩
def blkAt (f : Fun) (i : Nat) : Blk := f.blocks.getD i blk0
def sameCodeB (a b : List Ins) (p : Bool) : Nat → Bool := fun i => sameInsB (a.getD i (ins0 0)) (b.getD i (ins0 0)) p
def sameBlkB (a b : Blk) (p : Bool) : Bool :=
  beq a.name b.name && (!p || decide (a.at_ = b.at_)) && decide (a.code.length = b.code.length) && allF (sameCodeB a.code b.code p) a.code.length 0
def sameFunB (a b : Fun) (p : Bool) : Bool :=
  beq a.name b.name && (!p || decide (a.at_ = b.at_)) && textsB a.params b.params && decide (a.blocks.length = b.blocks.length) && allF (fun i => sameBlkB (a.blocks.getD i blk0) (b.blocks.getD i blk0) p) a.blocks.length 0
def SmallB (b : Blk) : Prop := b.code.length ≤ bigL ∧ ∀ x, x ∈ b.code → SmallI x
def SmallF (f : Fun) : Prop := f.params.length ≤ bigL ∧ f.blocks.length ≤ bigL ∧ ∀ b, b ∈ f.blocks → SmallB b
theorem getD_mem {α : Type} {l : List α} {i : Nat} {d : α} (h : i < l.length) : l.getD i d ∈ l := by
  rw [List.getD_eq_getElem?_getD, List.getElem?_eq_getElem h]
  exact List.getElem_mem h
set_option maxHeartbeats 4000000 in
theorem sameFun_spec (a b : Fun) (p : Bool) (ha : SmallF a) (hb : SmallF b) : Pure PG 24 [fnV a, fnV b, vb p] (vb (sameFunB a b p)) [] := by
  refine Proc.mk (cfg 104) tysOK [] Tryd.func24 rfl (by kernel_rfl) rfl rfl rfl ?_
  intro C x
  obtain ⟨ha1, ha2, ha3⟩ := ha
  obtain ⟨hb1, hb2, hb3⟩ := hb
  unfold bigL at ha1 ha2 hb1 hb2
  refine x.pureG rfl trivial rfl (fun _ => texts_spec a.params b.params ha1 hb1) rfl ⟨veq_d rfl, veq_d rfl, trivial⟩ ?_
  refine x.cond rfl trivial (fun h => ?_) (fun h => ?_)
  · have h : ((((!beq a.name b.name) || (p && !decide (a.at_ = b.at_))) || !textsB a.params b.params) || !decide ((a.blocks.length : Int) = (b.blocks.length : Int))) = true := h
    have hR : sameFunB a b p = false := by
      unfold sameFunB
      have e : decide (a.blocks.length = b.blocks.length) = decide ((a.blocks.length : Int) = (b.blocks.length : Int)) := by rw [decide_eq_decide]; omega
      rw [e]
      revert h
      generalize beq a.name b.name = c1
      generalize decide (a.at_ = b.at_) = c2
      generalize textsB a.params b.params = c3
      generalize decide ((a.blocks.length : Int) = (b.blocks.length : Int)) = c4
      cases c1 <;> cases c2 <;> cases c3 <;> cases c4 <;> cases p <;> simp
    refine x.exit rfl trivial ?_
    rw [hR]
    exact ⟨.inr rfl, rfl, trivial, rfl⟩
  have h : ((((!beq a.name b.name) || (p && !decide (a.at_ = b.at_))) || !textsB a.params b.params) || !decide ((a.blocks.length : Int) = (b.blocks.length : Int))) = false := h
  obtain ⟨R, hRR⟩ : ∃ R, sameFunB a b p = R := ⟨_, rfl⟩
  have hR : allF (fun i => sameBlkB (a.blocks.getD i blk0) (b.blocks.getD i blk0) p) a.blocks.length 0 = R ∧ (a.blocks.length : Int) = b.blocks.length := by
    unfold sameFunB at hRR
    have e : decide (a.blocks.length = b.blocks.length) = decide ((a.blocks.length : Int) = (b.blocks.length : Int)) := by rw [decide_eq_decide]; omega
    rw [e] at hRR
    have e2 : decide ((a.blocks.length : Int) = (b.blocks.length : Int)) = true := by
      revert h
      cases decide ((a.blocks.length : Int) = (b.blocks.length : Int)) <;> simp
    refine ⟨?_, of_decide_eq_true e2⟩
    revert h hRR
    generalize beq a.name b.name = c1
    generalize decide (a.at_ = b.at_) = c2
    generalize textsB a.params b.params = c3
    generalize decide ((a.blocks.length : Int) = (b.blocks.length : Int)) = c4
    cases c1 <;> cases c2 <;> cases c3 <;> cases c4 <;> cases p <;> simp
  obtain ⟨hR, hlen⟩ := hR
  rw [hRR]
  refine x.loop (α := AW (fun i => sameBlkB (a.blocks.getD i blk0) (b.blocks.getD i blk0) p) a.blocks.length R) (fun y => ⟨[(2, vb p), (3, .ptr 0 0), (4, .ptr 1 0), (7, vi (y.i : Int))], [(0, .box [vs a.name, .d (dStrs a.params), .d (dBlks a.blocks), vi a.at_]), (1, .box [vs b.name, .d (dStrs b.params), .d (dBlks b.blocks), vi b.at_])], 2⟩) (fun y => a.blocks.length - y.i) ⟨0, Nat.zero_le _, hR⟩ rfl trivial ⟨⟨rfl, ⟨rfl, rfl⟩, ⟨rfl, rfl⟩, rfl, trivial⟩, ⟨⟨rfl, veq0_d rfl, veq0_d rfl, rfl, trivial⟩, ⟨rfl, veq0_d rfl, veq0_d rfl, rfl, trivial⟩, trivial⟩, rfl⟩ (fun y => ?_)
  obtain ⟨i, hi, same⟩ := y
  change Go C _ ⟨[(2, vb p), (3, .ptr 0 0), (4, .ptr 1 0), (7, vi (i : Int))], [(0, .box [vs a.name, .d (dStrs a.params), .d (dBlks a.blocks), vi a.at_]), (1, .box [vs b.name, .d (dStrs b.params), .d (dBlks b.blocks), vi b.at_])], 2⟩ _
  refine x.cond rfl trivial (fun h2 => ?_) (fun h2 => ?_)
  rotate_left
  · have h2 : ¬ (i : Int) < (a.blocks.length : Int) := of_decide_eq_false h2
    refine x.exit rfl trivial ?_
    rw [AW.fin (by omega) hi same]
    exact ⟨.inr rfl, rfl, trivial, rfl⟩
  have h2 : (i : Int) < (a.blocks.length : Int) := of_decide_eq_true h2
  have h2 : i < a.blocks.length := by omega
  refine x.every2 [] [0, 1, 2, 3, 4, 5, 6, 7, 8, 9] (.fork 10 (.fork 11 (.fork 12 (.fork 13 .leaf .no) .no) .no) (.fork 11 (.fork 10 (.fork 12 (.fork 13 .leaf .no) .no) .no) .no))
    ⟨[(2, vb p), (3, .ptr 0 0), (4, .ptr 1 0), (7, vi (i : Int)), (8, .ptr 2 0), (9, .ptr 3 0)], [(2, .box [vs (a.blocks.getD ((i : Int).toNat) blk0).name, .d (dCode (a.blocks.getD ((i : Int).toNat) blk0).code), vi (a.blocks.getD ((i : Int).toNat) blk0).at_]), (3, .box [vs (b.blocks.getD ((i : Int).toNat) blk0).name, .d (dCode (b.blocks.getD ((i : Int).toNat) blk0).code), vi (b.blocks.getD ((i : Int).toNat) blk0).at_])], 4⟩
    rfl trivial mixedP (by kernel_rfl) Ret.noPanic rfl (by simp only [AllP]; omega) (fun C2 x2 => ?_) ?_
  · refine ⟨x2.back rfl trivial ⟨x2.back rfl trivial ⟨x2.back rfl trivial ⟨x2.back rfl trivial (.inl ?_), trivial⟩, trivial⟩, trivial⟩, x2.back rfl trivial ⟨x2.back rfl trivial ⟨x2.back rfl trivial ⟨x2.back rfl trivial (.inr ⟨[0, 1, 3, 2], rfl, ?_⟩), trivial⟩, trivial⟩, trivial⟩, trivial⟩
    · exact ⟨⟨rfl, ⟨rfl, rfl⟩, ⟨rfl, rfl⟩, rfl, ⟨rfl, rfl⟩, ⟨rfl, rfl⟩, trivial⟩, ⟨⟨rfl, veq0_d rfl, rfl, trivial⟩, ⟨rfl, veq0_d rfl, rfl, trivial⟩, trivial⟩, rfl⟩
    · exact ⟨⟨rfl, ⟨rfl, rfl⟩, ⟨rfl, rfl⟩, rfl, ⟨rfl, rfl⟩, ⟨rfl, rfl⟩, trivial⟩, ⟨⟨rfl, veq0_d rfl, rfl, trivial⟩, ⟨rfl, veq0_d rfl, rfl, trivial⟩, trivial⟩, rfl⟩
  rw [Int.toNat_natCast]
  have h3a : b.blocks.length ≤ 1000000000000 := hb2
  have sx := ha3 _ (getD_mem (d := blk0) h2)
  have sy := hb3 _ (getD_mem (d := blk0) (show i < b.blocks.length by omega))
  have hfi : ∀ v, sameBlkB (a.blocks.getD i blk0) (b.blocks.getD i blk0) p = v → (fun i => sameBlkB (a.blocks.getD i blk0) (b.blocks.getD i blk0) p) i = v := fun v h => h
  generalize a.blocks.getD i blk0 = x1 at sx hfi ⊢
  generalize b.blocks.getD i blk0 = y1 at sy hfi ⊢
  obtain ⟨sx1, sx2⟩ := sx
  obtain ⟨sy1, sy2⟩ := sy
  unfold bigL at sx1 sy1
  have e : decide (x1.code.length = y1.code.length) = decide ((x1.code.length : Int) = (y1.code.length : Int)) := by rw [decide_eq_decide]; omega
  refine x.cond rfl trivial (fun h3 => ?_) (fun h3 => ?_)
  · have h3 : (((!beq x1.name y1.name) || (p && !decide (x1.at_ = y1.at_))) || !decide ((x1.code.length : Int) = (y1.code.length : Int))) = true := h3
    have hv : sameBlkB x1 y1 p = false := by
      unfold sameBlkB
      rw [e]
      revert h3
      generalize beq x1.name y1.name = c1
      generalize decide (x1.at_ = y1.at_) = c2
      generalize decide ((x1.code.length : Int) = (y1.code.length : Int)) = c4
      cases c1 <;> cases c2 <;> cases c4 <;> cases p <;> simp
    refine x.exit rfl trivial ?_
    rw [AW.stop h2 same (hfi _ hv)]
    exact ⟨.inr rfl, rfl, trivial, rfl⟩
  have h3 : (((!beq x1.name y1.name) || (p && !decide (x1.at_ = y1.at_))) || !decide ((x1.code.length : Int) = (y1.code.length : Int))) = false := h3
  obtain ⟨Q, hQ⟩ : ∃ Q, sameBlkB x1 y1 p = Q := ⟨_, rfl⟩
  have hq : allF (sameCodeB x1.code y1.code p) x1.code.length 0 = Q ∧ (x1.code.length : Int) = y1.code.length := by
    unfold sameBlkB at hQ
    rw [e] at hQ
    have e2 : decide ((x1.code.length : Int) = (y1.code.length : Int)) = true := by
      revert h3
      cases decide ((x1.code.length : Int) = (y1.code.length : Int)) <;> simp
    refine ⟨?_, of_decide_eq_true e2⟩
    revert h3 hQ
    generalize beq x1.name y1.name = c1
    generalize decide (x1.at_ = y1.at_) = c2
    generalize decide ((x1.code.length : Int) = (y1.code.length : Int)) = c4
    cases c1 <;> cases c2 <;> cases c4 <;> cases p <;> simp
  obtain ⟨hq, hlen2⟩ := hq
  rw [hQ] at hfi
  refine x.loop (α := AW (sameCodeB x1.code y1.code p) x1.code.length Q) (fun y => ⟨[(2, vb p), (3, .ptr 0 0), (4, .ptr 1 0), (7, vi (i : Int)), (8, .ptr 2 0), (9, .ptr 3 0), (10, vi (y.i : Int))], [(0, .box [vs a.name, .d (dStrs a.params), .d (dBlks a.blocks), vi a.at_]), (1, .box [vs b.name, .d (dStrs b.params), .d (dBlks b.blocks), vi b.at_]), (2, .box [vs x1.name, .d (dCode x1.code), vi x1.at_]), (3, .box [vs y1.name, .d (dCode y1.code), vi y1.at_])], 4⟩) (fun y => x1.code.length - y.i) ⟨0, Nat.zero_le _, hq⟩ rfl trivial ⟨⟨rfl, ⟨rfl, rfl⟩, ⟨rfl, rfl⟩, rfl, ⟨rfl, rfl⟩, ⟨rfl, rfl⟩, rfl, trivial⟩, ⟨⟨rfl, veq0_d rfl, veq0_d rfl, rfl, trivial⟩, ⟨rfl, veq0_d rfl, veq0_d rfl, rfl, trivial⟩, ⟨rfl, veq0_d rfl, rfl, trivial⟩, ⟨rfl, veq0_d rfl, rfl, trivial⟩, trivial⟩, rfl⟩ (fun y => ?_)
  obtain ⟨k, hk, same2⟩ := y
  change Go C _ ⟨[(2, vb p), (3, .ptr 0 0), (4, .ptr 1 0), (7, vi (i : Int)), (8, .ptr 2 0), (9, .ptr 3 0), (10, vi (k : Int))], [(0, .box [vs a.name, .d (dStrs a.params), .d (dBlks a.blocks), vi a.at_]), (1, .box [vs b.name, .d (dStrs b.params), .d (dBlks b.blocks), vi b.at_]), (2, .box [vs x1.name, .d (dCode x1.code), vi x1.at_]), (3, .box [vs y1.name, .d (dCode y1.code), vi y1.at_])], 4⟩ _
  refine x.cond rfl trivial (fun h4 => ?_) (fun h4 => ?_)
  rotate_left
  · have h4 : ¬ (k : Int) < (x1.code.length : Int) := of_decide_eq_false h4
    have hv := AW.fin (by omega) hk same2
    refine x.back rfl (by simp only [AllP, inI64]; omega) ⟨⟨i + 1, by omega, AW.step h2 same (hfi _ hv)⟩, by show a.blocks.length - (i + 1) < a.blocks.length - i; omega, ⟨rfl, ⟨rfl, rfl⟩, ⟨rfl, rfl⟩, by show VEq0 (vi ((i : Int) + 1)) (vi ((i + 1 : Nat) : Int)); rw [Int.natCast_add]; rfl, trivial⟩, ⟨⟨rfl, veq0_d rfl, veq0_d rfl, rfl, trivial⟩, ⟨rfl, veq0_d rfl, veq0_d rfl, rfl, trivial⟩, trivial⟩, rfl⟩
  have h4 : (k : Int) < (x1.code.length : Int) := of_decide_eq_true h4
  have h4 : k < x1.code.length := by omega
  have c1 := sameIns_spec (x1.code.getD ((k : Int).toNat) (ins0 0)) (y1.code.getD ((k : Int).toNat) (ins0 0)) p (by rw [Int.toNat_natCast]; exact sx2 _ (getD_mem h4)) (by rw [Int.toNat_natCast]; exact sy2 _ (getD_mem (by omega)))
  refine x.quiet rfl trivial mixedP (by kernel_rfl) ?_
  refine x.qcall rfl (by simp only [AllP]; omega) rfl c1 rfl rfl ⟨⟨rfl, rfl, rfl, rfl, rfl, veq0_d rfl, veq0_d rfl, rfl, rfl, trivial⟩, ⟨rfl, rfl, rfl, rfl, rfl, veq0_d rfl, veq0_d rfl, rfl, rfl, trivial⟩, rfl, trivial⟩ ?_
  refine x.qdone rfl trivial ?_
  rw [Int.toNat_natCast]
  refine x.cond rfl trivial (fun h5 => ?_) (fun h5 => ?_)
  · have h5 : (!sameInsB (x1.code.getD k (ins0 0)) (y1.code.getD k (ins0 0)) p) = true := h5
    have hv := AW.stop h4 same2 (show sameCodeB x1.code y1.code p k = false from by rw [Bool.not_eq_true'] at h5; exact h5)
    refine x.exit rfl trivial ?_
    rw [AW.stop h2 same (hfi _ hv)]
    exact ⟨.inr rfl, rfl, trivial, rfl⟩
  · have h5 : (!sameInsB (x1.code.getD k (ins0 0)) (y1.code.getD k (ins0 0)) p) = false := h5
    refine x.back rfl (by simp only [AllP, inI64]; omega) ⟨⟨k + 1, by omega, AW.step h4 same2 (show sameCodeB x1.code y1.code p k = true from by rw [Bool.not_eq_false'] at h5; exact h5)⟩, by show x1.code.length - (k + 1) < x1.code.length - k; omega, ⟨rfl, ⟨rfl, rfl⟩, ⟨rfl, rfl⟩, rfl, ⟨rfl, rfl⟩, ⟨rfl, rfl⟩, by show VEq0 (vi ((k : Int) + 1)) (vi ((k + 1 : Nat) : Int)); rw [Int.natCast_add]; rfl, trivial⟩, ⟨⟨rfl, veq0_d rfl, veq0_d rfl, rfl, trivial⟩, ⟨rfl, veq0_d rfl, veq0_d rfl, rfl, trivial⟩, ⟨rfl, veq0_d rfl, rfl, trivial⟩, ⟨rfl, veq0_d rfl, rfl, trivial⟩, trivial⟩, rfl⟩
def sameArrB (a b : Arr) (p : Bool) : Bool := beq a.name b.name && decide (a.size = b.size) && beq a.level b.level && (!p || decide (a.at_ = b.at_))
def sameB (a b : Prg) (p : Bool) : Bool :=
  decide (a.arrays.length = b.arrays.length) && decide (a.funcs.length = b.funcs.length) && allF (fun i => sameArrB (a.arrays.getD i arr0) (b.arrays.getD i arr0) p) a.arrays.length 0 && allF (fun i => sameFunB (a.funcs.getD i fun0) (b.funcs.getD i fun0) p) a.funcs.length 0
def SmallP (p : Prg) : Prop := p.arrays.length ≤ bigL ∧ p.funcs.length ≤ bigL ∧ ∀ f, f ∈ p.funcs → SmallF f
set_option maxHeartbeats 4000000 in
theorem same_spec (a b : Prg) (p : Bool) (ha : SmallP a) (hb : SmallP b) : Pure PG 9 [prgV a, prgV b, vb p] (vb (sameB a b p)) [] := by
  refine Proc.mk (cfg 93) tysOK [] Tryd.func9 rfl (by kernel_rfl) rfl rfl rfl ?_
  intro C x
  obtain ⟨ha1, ha2, ha3⟩ := ha
  obtain ⟨hb1, hb2, hb3⟩ := hb
  unfold bigL at ha1 ha2 hb1 hb2
  refine x.cond rfl trivial (fun h => ?_) (fun h => ?_)
  · have h : ((!decide ((a.arrays.length : Int) = (b.arrays.length : Int))) || !decide ((a.funcs.length : Int) = (b.funcs.length : Int))) = true := h
    have hR : sameB a b p = false := by
      unfold sameB
      by_cases e1 : a.arrays.length = b.arrays.length
      · by_cases e2 : a.funcs.length = b.funcs.length
        · rw [e1, e2] at h; simp at h
        · rw [decide_eq_false e2]; simp
      · rw [decide_eq_false e1]; simp
    refine x.exit rfl trivial ?_
    rw [hR]
    exact ⟨.inr rfl, rfl, trivial, rfl⟩
  have h : ((!decide ((a.arrays.length : Int) = (b.arrays.length : Int))) || !decide ((a.funcs.length : Int) = (b.funcs.length : Int))) = false := h
  have hl : a.arrays.length = b.arrays.length ∧ a.funcs.length = b.funcs.length := by
    simp only [Bool.or_eq_false_iff, Bool.not_eq_false', decide_eq_true_eq] at h
    omega
  obtain ⟨hl1, hl2⟩ := hl
  obtain ⟨R2, hR2⟩ : ∃ R, allF (fun i => sameFunB (a.funcs.getD i fun0) (b.funcs.getD i fun0) p) a.funcs.length 0 = R := ⟨_, rfl⟩
  obtain ⟨R1, hR1⟩ : ∃ R, allF (fun i => sameArrB (a.arrays.getD i arr0) (b.arrays.getD i arr0) p) a.arrays.length 0 = R := ⟨_, rfl⟩
  have hR : sameB a b p = (R1 && R2) := by
    unfold sameB
    rw [decide_eq_true hl1, decide_eq_true hl2, hR1, hR2]
    simp
  rw [hR]
  clear hR h
  refine x.loop (α := AW (fun i => sameArrB (a.arrays.getD i arr0) (b.arrays.getD i arr0) p) a.arrays.length R1) (fun y => ⟨[(2, vb p), (3, .ptr 0 0), (4, .ptr 1 0), (7, vi (y.i : Int))], [(0, .box [.d (dArrs a.arrays), .d (dFuns a.funcs)]), (1, .box [.d (dArrs b.arrays), .d (dFuns b.funcs)])], 2⟩) (fun y => a.arrays.length - y.i) ⟨0, Nat.zero_le _, hR1⟩ rfl trivial ⟨⟨rfl, ⟨rfl, rfl⟩, ⟨rfl, rfl⟩, rfl, trivial⟩, ⟨⟨veq0_d rfl, veq0_d rfl, trivial⟩, ⟨veq0_d rfl, veq0_d rfl, trivial⟩, trivial⟩, rfl⟩ (fun y => ?_)
  obtain ⟨i, hi, same⟩ := y
  change Go C _ ⟨[(2, vb p), (3, .ptr 0 0), (4, .ptr 1 0), (7, vi (i : Int))], [(0, .box [.d (dArrs a.arrays), .d (dFuns a.funcs)]), (1, .box [.d (dArrs b.arrays), .d (dFuns b.funcs)])], 2⟩ _
  refine x.cond rfl trivial (fun h2 => ?_) (fun h2 => ?_)
  · have h2 : (i : Int) < (a.arrays.length : Int) := of_decide_eq_true h2
    have h2 : i < a.arrays.length := by omega
    refine x.every2 [] [0, 1, 2, 3, 4, 5, 6, 7, 8, 9] (.fork 10 (.fork 11 (.fork 12 (.fork 13 .leaf .no) .no) .no) (.fork 11 (.fork 10 (.fork 12 (.fork 13 .leaf .no) .no) .no) .no))
      ⟨[(2, vb p), (3, .ptr 0 0), (4, .ptr 1 0), (7, vi (i : Int)), (8, .ptr 2 0), (9, .ptr 3 0)], [(2, .box [vs (a.arrays.getD ((i : Int).toNat) arr0).name, vi (a.arrays.getD ((i : Int).toNat) arr0).size, vs (a.arrays.getD ((i : Int).toNat) arr0).level, vi (a.arrays.getD ((i : Int).toNat) arr0).at_]), (3, .box [vs (b.arrays.getD ((i : Int).toNat) arr0).name, vi (b.arrays.getD ((i : Int).toNat) arr0).size, vs (b.arrays.getD ((i : Int).toNat) arr0).level, vi (b.arrays.getD ((i : Int).toNat) arr0).at_])], 4⟩
      rfl trivial mixedP (by kernel_rfl) Ret.noPanic rfl (by simp only [AllP]; omega) (fun C2 x2 => ?_) ?_
    · refine ⟨x2.back rfl trivial ⟨x2.back rfl trivial ⟨x2.back rfl trivial ⟨x2.back rfl trivial (.inl ?_), trivial⟩, trivial⟩, trivial⟩, x2.back rfl trivial ⟨x2.back rfl trivial ⟨x2.back rfl trivial ⟨x2.back rfl trivial (.inr ⟨[0, 1, 3, 2], rfl, ?_⟩), trivial⟩, trivial⟩, trivial⟩, trivial⟩
      · exact ⟨⟨rfl, ⟨rfl, rfl⟩, ⟨rfl, rfl⟩, rfl, ⟨rfl, rfl⟩, ⟨rfl, rfl⟩, trivial⟩, ⟨⟨rfl, rfl, rfl, rfl, trivial⟩, ⟨rfl, rfl, rfl, rfl, trivial⟩, trivial⟩, rfl⟩
      · exact ⟨⟨rfl, ⟨rfl, rfl⟩, ⟨rfl, rfl⟩, rfl, ⟨rfl, rfl⟩, ⟨rfl, rfl⟩, trivial⟩, ⟨⟨rfl, rfl, rfl, rfl, trivial⟩, ⟨rfl, rfl, rfl, rfl, trivial⟩, trivial⟩, rfl⟩
    rw [Int.toNat_natCast]
    have hfi : ∀ v, sameArrB (a.arrays.getD i arr0) (b.arrays.getD i arr0) p = v → (fun i => sameArrB (a.arrays.getD i arr0) (b.arrays.getD i arr0) p) i = v := fun v h => h
    generalize a.arrays.getD i arr0 = x1 at hfi ⊢
    generalize b.arrays.getD i arr0 = y1 at hfi ⊢
    refine x.cond rfl trivial (fun h3 => ?_) (fun h3 => ?_)
    · have h3 : ((((!beq x1.name y1.name) || !decide (x1.size = y1.size)) || !beq x1.level y1.level) || (p && !decide (x1.at_ = y1.at_))) = true := h3
      have hv : sameArrB x1 y1 p = false := by
        unfold sameArrB
        revert h3
        generalize beq x1.name y1.name = c1
        generalize decide (x1.size = y1.size) = c2
        generalize beq x1.level y1.level = c3
        generalize decide (x1.at_ = y1.at_) = c4
        cases c1 <;> cases c2 <;> cases c3 <;> cases c4 <;> cases p <;> simp
      refine x.exit rfl trivial ?_
      rw [AW.stop h2 same (hfi _ hv)]
      exact ⟨.inr rfl, rfl, trivial, rfl⟩
    · have h3 : ((((!beq x1.name y1.name) || !decide (x1.size = y1.size)) || !beq x1.level y1.level) || (p && !decide (x1.at_ = y1.at_))) = false := h3
      have hv : sameArrB x1 y1 p = true := by
        unfold sameArrB
        revert h3
        generalize beq x1.name y1.name = c1
        generalize decide (x1.size = y1.size) = c2
        generalize beq x1.level y1.level = c3
        generalize decide (x1.at_ = y1.at_) = c4
        cases c1 <;> cases c2 <;> cases c3 <;> cases c4 <;> cases p <;> simp
      refine x.back rfl (by simp only [AllP, inI64]; omega) ⟨⟨i + 1, by omega, AW.step h2 same (hfi _ hv)⟩, by show a.arrays.length - (i + 1) < a.arrays.length - i; omega, ⟨rfl, ⟨rfl, rfl⟩, ⟨rfl, rfl⟩, by show VEq0 (vi ((i : Int) + 1)) (vi ((i + 1 : Nat) : Int)); rw [Int.natCast_add]; rfl, trivial⟩, ⟨⟨veq0_d rfl, veq0_d rfl, trivial⟩, ⟨veq0_d rfl, veq0_d rfl, trivial⟩, trivial⟩, rfl⟩
  have h2 : ¬ (i : Int) < (a.arrays.length : Int) := of_decide_eq_false h2
  have hr1 : R1 = true := AW.fin (by omega) hi same
  refine x.loop (α := AW (fun i => sameFunB (a.funcs.getD i fun0) (b.funcs.getD i fun0) p) a.funcs.length R2) (fun y => ⟨[(2, vb p), (3, .ptr 0 0), (4, .ptr 1 0), (10, vi (y.i : Int))], [(0, .box [.d (dArrs a.arrays), .d (dFuns a.funcs)]), (1, .box [.d (dArrs b.arrays), .d (dFuns b.funcs)])], 2⟩) (fun y => a.funcs.length - y.i) ⟨0, Nat.zero_le _, hR2⟩ rfl trivial ⟨⟨rfl, ⟨rfl, rfl⟩, ⟨rfl, rfl⟩, rfl, trivial⟩, ⟨⟨veq0_d rfl, veq0_d rfl, trivial⟩, ⟨veq0_d rfl, veq0_d rfl, trivial⟩, trivial⟩, rfl⟩ (fun y => ?_)
  obtain ⟨i, hi, same⟩ := y
  change Go C _ ⟨[(2, vb p), (3, .ptr 0 0), (4, .ptr 1 0), (10, vi (i : Int))], [(0, .box [.d (dArrs a.arrays), .d (dFuns a.funcs)]), (1, .box [.d (dArrs b.arrays), .d (dFuns b.funcs)])], 2⟩ _
  refine x.cond rfl trivial (fun h2 => ?_) (fun h2 => ?_)
  rotate_left
  · have h2 : ¬ (i : Int) < (a.funcs.length : Int) := of_decide_eq_false h2
    refine x.exit rfl trivial ?_
    rw [hr1, AW.fin (by omega) hi same]
    exact ⟨.inr rfl, rfl, trivial, rfl⟩
  have h2 : (i : Int) < (a.funcs.length : Int) := of_decide_eq_true h2
  have h2 : i < a.funcs.length := by omega
  have c1 := sameFun_spec (a.funcs.getD ((i : Int).toNat) fun0) (b.funcs.getD ((i : Int).toNat) fun0) p (by rw [Int.toNat_natCast]; exact ha3 _ (getD_mem h2)) (by rw [Int.toNat_natCast]; exact hb3 _ (getD_mem (by omega)))
  refine x.quiet rfl trivial mixedP (by kernel_rfl) ?_
  refine x.qcall rfl (by simp only [AllP]; omega) rfl c1 rfl rfl ⟨⟨rfl, veq0_d rfl, veq0_d rfl, rfl, trivial⟩, ⟨rfl, veq0_d rfl, veq0_d rfl, rfl, trivial⟩, rfl, trivial⟩ ?_
  refine x.qdone rfl trivial ?_
  rw [Int.toNat_natCast]
  refine x.cond rfl trivial (fun h5 => ?_) (fun h5 => ?_)
  · have h5 : (!sameFunB (a.funcs.getD i fun0) (b.funcs.getD i fun0) p) = true := h5
    refine x.exit rfl trivial ?_
    rw [hr1, AW.stop h2 same (by rw [Bool.not_eq_true'] at h5; exact h5)]
    exact ⟨.inr rfl, rfl, trivial, rfl⟩
  · have h5 : (!sameFunB (a.funcs.getD i fun0) (b.funcs.getD i fun0) p) = false := h5
    refine x.back rfl (by simp only [AllP, inI64]; omega) ⟨⟨i + 1, by omega, AW.step h2 same (by rw [Bool.not_eq_false'] at h5; exact h5)⟩, by show a.funcs.length - (i + 1) < a.funcs.length - i; omega, ⟨rfl, ⟨rfl, rfl⟩, ⟨rfl, rfl⟩, by show VEq0 (vi ((i : Int) + 1)) (vi ((i + 1 : Nat) : Int)); rw [Int.natCast_add]; rfl, trivial⟩, ⟨⟨veq0_d rfl, veq0_d rfl, trivial⟩, ⟨veq0_d rfl, veq0_d rfl, trivial⟩, trivial⟩, rfl⟩
end Go.Proofs.YtikkppdihepmdaaDoor

/- Programs that are read are small; each is like itself; the chapter's examples. -/
namespace Go.Proofs.YtikkppdihepmdaaDoor
open Go.Sx
set_option linter.unusedVariables false
set_option linter.unusedSimpArgs false
set_option maxRecDepth 100000
section
variable {s : ByteArray} {l : List Tok}
/-- What holds of the value, if there is one. -/
def Okk {α : Type} (p : α → Prop) (r : Except (Int × Int) (Nat × α)) : Prop := ∀ n x, r = .ok (n, x) → p x
theorem okk_bnd {α β : Type} {p : α → Prop} {q : β → Prop} {r : Except (Int × Int) (Nat × α)} {k : Nat → α → Except (Int × Int) (Nat × β)} (h1 : Okk p r) (h2 : ∀ n a, p a → Okk q (k n a)) : Okk q (bnd r k) := fun n x e => by
  rcases r with e1 | ⟨n1, a⟩
  · cases e
  · exact h2 n1 a (h1 n1 a rfl) n x e
theorem okk_any {α : Type} {r : Except (Int × Int) (Nat × α)} : Okk (fun _ => True) r := fun _ _ _ => trivial
theorem okk_ok {α : Type} {p : α → Prop} {n : Nat} {x : α} (h : p x) : Okk p (.ok (n, x)) := fun n' y e => by
  simp only [Except.ok.injEq, Prod.mk.injEq] at e
  rw [← e.2]; exact h
theorem okk_err {α : Type} {p : α → Prop} {e : Int × Int} : Okk (α := α) p (.error e) := fun _ _ h => by cases h
def Sm (k : Nat) (x : Ins) : Prop := x.args.length ≤ k ∧ x.frm.length ≤ k
theorem sm_arg {k n : Nat} {x : Ins} (h : Sm k x) : Okk (Sm (k + 1)) (argV s l n x) := okk_bnd okk_any fun n a _ => okk_ok ⟨by rw [List.length_append]; simp only [List.length_cons, List.length_nil]; have := h.1; omega, Nat.le_succ_of_le h.2⟩
theorem sm_one {n : Nat} {k : Nat} {x : Ins} (h : Sm k x) : Okk (Sm (k + 1)) (oneV7 s l n x) := okk_bnd okk_any fun n a _ => okk_ok ⟨by simp, Nat.le_succ_of_le h.2⟩
theorem sm_ref {n : Nat} {k : Nat} {x : Ins} (h : Sm k x) : Okk (Sm k) (refV s l n x) := okk_bnd okk_any fun n a _ => okk_ok h
theorem names_len {n : Nat} : Okk (fun o => o.length ≤ 6) (namesV s l n) := by
  unfold namesV
  split
  · split
    · exact okk_ok (by simp)
    · intro n' o e
      rcases hF : namesF s l (l.length + 2) (n + 1) 0 [] with er | ⟨n1, o1⟩
      · rw [hF] at e; cases e
      · rw [hF] at e
        have h1 := (namesF_le hF).2.2 rfl (by omega)
        simp only [closeV] at e
        split at e
        · simp only [Except.ok.injEq, Prod.mk.injEq] at e
          rw [← e.2]; exact h1
        · cases e
  · exact okk_err
theorem sm_pairs : ∀ (f n k : Nat) (x : Ins) (j : Nat), Sm j x → Okk (Sm (j + f)) (pairsF s l f n k x)
  | 0, n, k, x, j, h => okk_err
  | f + 1, n, k, x, j, h => by
    rw [pairsF]
    split
    · exact okk_err
    · refine okk_bnd (p := Sm (j + 1)) ?_ fun n' y hy => ?_
      · exact okk_bnd okk_any fun _ _ _ => okk_bnd okk_any fun _ _ _ => okk_bnd okk_any fun _ _ _ => okk_ok ⟨by rw [List.length_append]; simp only [List.length_cons, List.length_nil]; have := h.1; omega, by rw [List.length_append]; simp only [List.length_cons, List.length_nil]; have := h.2; omega⟩
      · split
        · have := sm_pairs f (n' + 1) (k + 1) y (j + 1) hy
          rw [show j + 1 + f = j + (f + 1) by omega] at this
          exact this
        · exact okk_ok ⟨by have := hy.1; omega, by have := hy.2; omega⟩
theorem sm_close {b : UInt8} {p : Ins → Prop} {r : Except (Int × Int) (Nat × Ins)} (h : Okk p r) : Okk p (closeV s l b r) := by
  rw [closeV_bnd]
  exact okk_bnd h fun n o ho => okk_bnd okk_any fun _ _ _ => okk_ok ho
theorem Sm.up {k j : Nat} {x : Ins} (h : Sm k x) (hk : k ≤ j) : Sm j x := ⟨Nat.le_trans h.1 hk, Nat.le_trans h.2 hk⟩
theorem okk_up {α : Type} {p q : α → Prop} {r : Except (Int × Int) (Nat × α)} (h : Okk p r) (hq : ∀ x, p x → q x) : Okk q r := fun n x e => hq x (h n x e)
abbrev cap (l : List Tok) : Nat := l.length + 10
theorem sm_word {n : Nat} {x : Ins} {w : List UInt8} (h : Sm 0 x) : Okk (Sm (cap l)) (wordV s l n x w) := by
  have up : ∀ {j : Nat} {r : Except (Int × Int) (Nat × Ins)}, j ≤ cap l → Okk (Sm j) r → Okk (Sm (cap l)) r := fun hj hr => okk_up hr fun _ hx => hx.up hj
  have h0 : ∀ k : Int, Sm 0 ({ x with kind := k } : Ins) := fun k => h
  unfold wordV
  split
  · unfold constV; split
    · exact okk_ok ((show Sm 0 x from h).up (Nat.zero_le _))
    · exact okk_err
  split
  · exact up (j := 1) (by show _ ≤ _ + 10; omega) (okk_bnd (sm_ref (h0 4)) fun n y hy => sm_one hy)
  split
  · exact up (j := 1) (by show _ ≤ _ + 10; omega) (okk_bnd (sm_ref (h0 5)) fun n y hy => sm_one hy)
  split
  · exact up (j := 0) (Nat.zero_le _) (sm_ref (h0 8))
  split
  · exact up (j := 6) (by show _ ≤ _ + 10; omega) (okk_bnd (sm_ref (h0 7)) fun n y hy => okk_bnd names_len fun n o ho => okk_ok ⟨ho, Nat.le_trans hy.2 (by omega)⟩)
  split
  · exact up (j := 1) (by show _ ≤ _ + 10; omega) (okk_bnd (sm_one (h0 10)) fun n y hy => sm_ref hy)
  split
  · exact up (j := 0 + (l.length + 1)) (by show _ ≤ l.length + 10; omega) (okk_bnd okk_any fun n1 _ _ => sm_close (sm_pairs (s := s) (l := l) (l.length + 1) n1 0 _ 0 (h0 3)))
  · exact okk_err
theorem sm_value {n : Nat} {x : Ins} (h : Sm 0 x) : Okk (Sm (cap l)) (valueV s l n x) := by
  unfold valueV
  split
  · exact okk_up (okk_bnd (sm_arg (k := 0) h) fun n y hy => sm_arg hy) fun y hy => hy.up (by show _ ≤ _ + 10; omega)
  · exact sm_word h
theorem sm_act {w : List UInt8} {f : Nat → Ins → Except (Int × Int) (Nat × Ins)} (hf : actV s l w = some f) {n : Nat} {x : Ins} (h : Sm 0 x) : Okk (Sm (cap l)) (f n x) := by
  have up : ∀ {j : Nat} {r : Except (Int × Int) (Nat × Ins)}, j ≤ 10 → Okk (Sm j) r → Okk (Sm (cap l)) r := fun hj hr => okk_up hr fun _ hx => hx.up (by show _ ≤ l.length + 10; omega)
  unfold actV at hf
  split at hf
  · obtain rfl := Option.some.inj hf
    exact up (j := 2) (by omega) (okk_bnd okk_any fun n a _ => okk_bnd (sm_arg (k := 0) h) fun n y hy => okk_bnd (sm_arg hy) fun n y hy => okk_ok hy)
  split at hf
  · obtain rfl := Option.some.inj hf
    exact up (j := 1) (by omega) (okk_bnd okk_any fun n a _ => okk_bnd (sm_arg (k := 0) h) fun n y hy => okk_ok hy)
  split at hf
  · obtain rfl := Option.some.inj hf
    exact up (j := 0) (by omega) (okk_bnd okk_any fun n a _ => okk_ok h)
  split at hf
  · obtain rfl := Option.some.inj hf
    exact up (j := 1) (by omega) (okk_bnd (sm_arg (k := 0) (x := { x with kind := 12 }) h) fun n y hy => okk_bnd okk_any fun n a _ => okk_bnd okk_any fun n a _ => okk_ok hy)
  split at hf
  · obtain rfl := Option.some.inj hf
    exact up (j := 1) (by omega) (okk_bnd (sm_arg (k := 0) (x := { x with kind := 13 }) h) fun n y hy => okk_ok hy)
  · cases hf
theorem sm_instr {n c : Nat} : Okk (Sm (cap l)) (instrV s l n c) := by
  have h0 : ∀ a, Sm 0 (ins0 a) := fun a => ⟨Nat.le_refl _, Nat.le_refl _⟩
  unfold instrV
  split
  · exact okk_err
  split
  · exact okk_err
  split
  · exact okk_err
  split
  · rename_i f hf
    exact sm_act hf (h0 _)
  · exact okk_bnd okk_any fun n1 d _ => okk_bnd okk_any fun n2 _ _ => sm_value (x := { ins0 (atV s l n) with dst := d }) (h0 (atV s l n))
theorem sm_code : ∀ (f n c : Nat) (xs : List Ins) (j : Nat), xs.length ≤ j → (∀ x, x ∈ xs → Sm (cap l) x) → Okk (fun q : Nat × List Ins => q.2.length ≤ j + f ∧ ∀ x, x ∈ q.2 → Sm (cap l) x) (codeF s l f n c xs)
  | 0, n, c, xs, j, hj, hx => okk_err
  | f + 1, n, c, xs, j, hj, hx => by
    rw [codeF]
    split
    · exact okk_ok ⟨by show xs.length ≤ _; omega, hx⟩
    · refine okk_bnd sm_instr fun n' y hy => ?_
      have := sm_code f n' (c + 1) (xs ++ [y]) (j + 1) (by rw [List.length_append]; simp only [List.length_cons, List.length_nil]; omega) fun x hx' => by
        rcases List.mem_append.1 hx' with h | h
        · exact hx x h
        · obtain rfl := List.mem_singleton.1 h; exact hy
      rw [show j + 1 + f = j + (f + 1) by omega] at this
      exact this
def SmB (l : List Tok) (b : Blk) : Prop := b.code.length ≤ 4098 ∧ ∀ x, x ∈ b.code → Sm (cap l) x
theorem sm_block {n c : Nat} : Okk (fun q : Nat × Blk => SmB l q.2) (blockV s l n c) :=
  okk_bnd okk_any fun n1 nm _ => okk_bnd okk_any fun n2 _ _ => okk_bnd (sm_code 4098 n2 c [] 0 (by simp) (by simp)) fun n3 q hq => okk_ok ⟨by have := hq.1; show q.2.length ≤ _; omega, hq.2⟩
theorem sm_blocks : ∀ (f n c : Nat) (bs : List Blk) (j : Nat), bs.length ≤ j → (∀ x, x ∈ bs → SmB l x) → Okk (fun q : Nat × List Blk => q.2.length ≤ j + f ∧ ∀ x, x ∈ q.2 → SmB l x) (blocksF s l f n c bs)
  | 0, n, c, xs, j, hj, hx => okk_err
  | f + 1, n, c, xs, j, hj, hx => by
    rw [blocksF]
    split
    · split
      · exact okk_err
      · refine okk_bnd sm_block fun n' y hy => ?_
        have := sm_blocks f n' y.1 (xs ++ [y.2]) (j + 1) (by rw [List.length_append]; simp only [List.length_cons, List.length_nil]; omega) fun x hx' => by
          rcases List.mem_append.1 hx' with h | h
          · exact hx x h
          · obtain rfl := List.mem_singleton.1 h; exact hy
        rw [show j + 1 + f = j + (f + 1) by omega] at this
        exact this
    · exact okk_ok ⟨by show xs.length ≤ _; omega, hx⟩
def SmF (l : List Tok) (f : Fun) : Prop := f.params.length ≤ 6 ∧ f.blocks.length ≤ 66 ∧ ∀ b, b ∈ f.blocks → SmB l b
theorem sm_func {n c : Nat} : Okk (fun q : Nat × Fun => SmF l q.2) (funcV s l n c) :=
  okk_bnd okk_any fun n1 nm _ => okk_bnd names_len fun n2 ps hp => okk_bnd okk_any fun n3 _ _ => okk_bnd sm_block fun n4 r hr =>
    okk_bnd (sm_blocks 65 n4 r.1 [r.2] 1 (by simp) (fun x hx => by obtain rfl := List.mem_singleton.1 hx; exact hr)) fun n5 q hq => okk_bnd okk_any fun n6 _ _ => okk_ok ⟨hp, by have := hq.1; show q.2.length ≤ _; omega, hq.2⟩
theorem sm_prog : ∀ (f n c : Nat) (p : Prg) (j : Nat), p.arrays.length ≤ j → p.funcs.length ≤ j → (∀ x, x ∈ p.funcs → SmF l x) → Okk (fun q : Prg => q.arrays.length ≤ j + f ∧ q.funcs.length ≤ j + f ∧ ∀ x, x ∈ q.funcs → SmF l x) (progF s l f n c p)
  | 0, n, c, p, j, h1, h2, h3 => okk_err
  | f + 1, n, c, p, j, h1, h2, h3 => by
    rw [progF]
    split
    · split
      · split
        · exact okk_err
        · refine okk_bnd okk_any fun n' x _ => ?_
          have := sm_prog f n' c ⟨p.arrays ++ [x], p.funcs⟩ (j + 1) (by rw [List.length_append]; simp only [List.length_cons, List.length_nil]; omega) (by show p.funcs.length ≤ _; omega) h3
          rw [show j + 1 + f = j + (f + 1) by omega] at this
          exact this
      · split
        · split
          · exact okk_err
          · refine okk_bnd sm_func fun n' y hy => ?_
            have := sm_prog f n' y.1 ⟨p.arrays, p.funcs ++ [y.2]⟩ (j + 1) (by show p.arrays.length ≤ _; omega) (by rw [List.length_append]; simp only [List.length_cons, List.length_nil]; omega) fun x hx' => by
              rcases List.mem_append.1 hx' with h | h
              · exact h3 x h
              · obtain rfl := List.mem_singleton.1 h; exact hy
            rw [show j + 1 + f = j + (f + 1) by omega] at this
            exact this
        · exact okk_err
    · exact okk_ok ⟨by omega, by omega, h3⟩
end
theorem parse_small (s : ByteArray) : SmallP (parseV s).1 := by
  have hnil : SmallP ⟨[], []⟩ := ⟨Nat.zero_le _, Nat.zero_le _, fun f hf => by cases hf⟩
  unfold parseV
  split
  · rename_i h0
    have hsm := all_small h0
    have hl := all_len s
    have hp := sm_prog (s := s) (l := (allV s).1) ((allV s).1.length + 1) 0 0 ⟨[], []⟩ 0 (Nat.zero_le _) (Nat.zero_le _) (fun x hx => by cases hx)
    rcases hP : progF s (allV s).1 ((allV s).1.length + 1) 0 0 ⟨[], []⟩ with ⟨a, e⟩ | ⟨n, p⟩
    · exact hnil
    · obtain ⟨h1, h2, h3⟩ := hp n p hP
      refine ⟨by unfold bigL; show p.arrays.length ≤ _; omega, by unfold bigL; show p.funcs.length ≤ _; omega, fun f hf => ?_⟩
      obtain ⟨g1, g2, g3⟩ := h3 f hf
      refine ⟨by unfold bigL; omega, by unfold bigL; omega, fun b hb => ?_⟩
      obtain ⟨k1, k2⟩ := g3 b hb
      refine ⟨by unfold bigL; omega, fun x hx => ?_⟩
      have k3 := k2 x hx
      unfold Sm cap at k3
      exact ⟨by unfold bigL; omega, by unfold bigL; omega⟩
  · exact hnil

/-! ### each is like itself -/
theorem allF_true {f : Nat → Bool} {k i : Nat} (h : ∀ j, f j = true) : allF f k i = true := allF_iff.2 fun j _ _ => h j
theorem textsB_self (a : List ByteArray) : textsB a a = true := by
  unfold textsB
  rw [decide_eq_true rfl, allF_true fun j => decide_eq_true rfl]; rfl
theorem sameInsB_self (a : Ins) (p : Bool) : sameInsB a a p = true := by
  unfold sameInsB
  simp [textsB_self]
theorem sameBlkB_self (a : Blk) (p : Bool) : sameBlkB a a p = true := by
  unfold sameBlkB
  rw [allF_true (f := sameCodeB a.code a.code p) fun j => sameInsB_self _ p]
  simp
theorem sameFunB_self (a : Fun) (p : Bool) : sameFunB a a p = true := by
  unfold sameFunB
  rw [allF_true fun j => sameBlkB_self _ p, textsB_self]
  simp
theorem sameArrB_self (a : Arr) (p : Bool) : sameArrB a a p = true := by
  unfold sameArrB
  simp
theorem sameB_self (a : Prg) (p : Bool) : sameB a a p = true := by
  unfold sameB
  rw [allF_true fun j => sameArrB_self _ p, allF_true fun j => sameFunB_self _ p]
  simp
end Go.Proofs.YtikkppdihepmdaaDoor

/- The chapter's examples; the law on what is parsed. -/
namespace Go.Proofs.YtikkppdihepmdaaDoor
open Go.Sx
set_option linter.unusedVariables false
set_option linter.unusedSimpArgs false
set_option maxRecDepth 100000

def exA : ByteArray := ⟨#[102, 110, 32, 109, 97, 105, 110, 40, 41, 32, 123, 32, 97, 58, 32, 120, 32, 61, 32, 99, 111, 110, 115, 116, 32, 55, 32, 111, 117, 116, 112, 117, 116, 32, 110, 101, 116, 32, 120, 32, 114, 101, 116, 117, 114, 110, 32, 120, 32, 125]⟩
def exB : ByteArray := ⟨#[97, 114, 114, 97, 121, 32, 116, 32, 48, 32, 108, 111, 119]⟩
theorem exA_e : (parseV exA).2.2 = 0 ∧ (parseV exA).1.funcs.length = 1 ∧ ((parseV exA).1.funcs.getD 0 fun0).blocks.length = 1 ∧ (((parseV exA).1.funcs.getD 0 fun0).blocks.getD 0 blk0).code.length = 3 := by decide +kernel
theorem exB_e : (parseV exB).2.2 = 12 ∧ (parseV exB).2.1 = 8 := by decide +kernel
set_option maxHeartbeats 2000000 in
theorem awake7_spec : Pure PG 10 [] (vb true) [] := by
  refine Proc.mk (cfg 54) tysOK [] Tryd.func10 rfl (by kernel_rfl) rfl rfl rfl ?_
  intro C x
  have s1 : exA.size ≤ 4611686018427387904 := by show (50 : Nat) ≤ _; decide
  have s2 : exB.size ≤ 4611686018427387904 := by show (13 : Nat) ≤ _; decide
  refine x.pure rfl trivial rfl (parse7_spec exA s1) ⟨rfl, trivial⟩ ?_
  refine x.pure rfl trivial rfl (parse7_spec exB s2) ⟨rfl, trivial⟩ ?_
  obtain ⟨a1, a2, a3, a4⟩ := exA_e
  obtain ⟨b1, b2⟩ := exB_e
  obtain ⟨PA, hA⟩ : ∃ P, parseV exA = P := ⟨_, rfl⟩
  obtain ⟨PB, hB⟩ : ∃ P, parseV exB = P := ⟨_, rfl⟩
  rw [hA] at a1 a2 a3 a4 ⊢
  rw [hB] at b1 b2 ⊢
  refine x.exit rfl ?_ ?_
  · simp only [AllP, Int.toNat_zero, a2, a3]
    exact ⟨fun _ => by omega, fun _ => by omega, fun _ => by omega⟩
  refine ⟨.inr rfl, (show VEq0 (vb _) (vb true) from ?_), trivial, rfl⟩
  rw [Int.toNat_zero, a1, a2, a3, a4, b1, b2]
  rfl
set_option maxHeartbeats 2000000 in
theorem treeParses_spec (s : ByteArray) (hs : s.size ≤ 4611686018427387904) : Pure PG 3 [vs s] (vb true) [] := by
  refine Proc.mk (cfg 37) tysOK [] Tryd.func3 rfl (by kernel_rfl) rfl rfl rfl ?_
  intro C x
  refine x.pure rfl trivial rfl (parse7_spec s hs) ⟨rfl, trivial⟩ ?_
  refine x.pure rfl trivial rfl (refparse7_spec s hs) ⟨rfl, trivial⟩ ?_
  rw [parse_same]
  have hsm := parse_small s
  obtain ⟨P, hP⟩ : ∃ P, parseV s = P := ⟨_, rfl⟩
  rw [hP] at hsm ⊢
  refine x.pureG rfl trivial rfl (fun _ => same_spec P.1 P.1 true hsm hsm) rfl ⟨⟨veq0_d rfl, veq0_d rfl, trivial⟩, ⟨veq0_d rfl, veq0_d rfl, trivial⟩, rfl, trivial⟩ ?_
  refine x.pureG rfl trivial rfl (fun _ => awake7_spec) rfl trivial ?_
  refine x.exit rfl trivial ?_
  refine ⟨.inr rfl, (show VEq0 (vb _) (vb true) from ?_), trivial, rfl⟩
  rw [sameB_self]
  simp
  rfl
end Go.Proofs.YtikkppdihepmdaaDoor
