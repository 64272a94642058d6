/- Texts put together: T03B, T03C, T03D, T03E, T03F, T03G, T03H, T03I, T03J. -/
import Derived.Test.YtofanbmeemahgaaDoorMA
import Derived.Test.YtofanbmeemahgaaDoorSxE

/- Blanks and remarks are passed over. -/
namespace Go.Proofs.YtofanbmeemahgaaDoor
open Go.Sx
set_option linter.unusedVariables false
set_option linter.unusedSimpArgs false
set_option maxRecDepth 100000

def nextR (c : Nat) (rm : Bool) : Bool := if c = 10 then false else if c = 35 then true else rm
def stopB (rm : Bool) (c : Nat) : Bool := ((!rm && !decide (c = 32)) && !decide (c = 9)) && !decide (c = 10)
def skF (s : ByteArray) : Nat → Bool → Nat → Nat
  | 0, _, p => p
  | n + 1, rm, p => if p < s.size then (if stopB (nextR (bt s p) rm) (bt s p) then p else skF s n (nextR (bt s p) rm) (p + 1)) else p
theorem skF_fuel (s : ByteArray) : ∀ (n m : Nat) (rm : Bool) (p : Nat), s.size ≤ p + n → s.size ≤ p + m → skF s n rm p = skF s m rm p
  | 0, 0, _, _, _, _ => rfl
  | 0, m + 1, rm, p, h, _ => by rw [skF, skF, if_neg (by omega)]
  | n + 1, 0, rm, p, _, h => by rw [skF, skF, if_neg (by omega)]
  | n + 1, m + 1, rm, p, h1, h2 => by
    rw [skF, skF]
    split
    · split
      · rfl
      · exact skF_fuel s n m _ _ (by omega) (by omega)
    · rfl
/-- Where one stands when blanks and remarks are passed over. -/
def skV (s : ByteArray) (rm : Bool) (p : Nat) : Nat := skF s s.size rm p
theorem skV_end {s : ByteArray} {rm : Bool} {p : Nat} (h : s.size ≤ p) : skV s rm p = p := by
  unfold skV
  rw [skF_fuel s s.size 0 rm p (by omega) (by omega), skF]
theorem skV_step {s : ByteArray} {rm : Bool} {p : Nat} (h : p < s.size) : skV s rm p = if stopB (nextR (bt s p) rm) (bt s p) then p else skV s (nextR (bt s p) rm) (p + 1) := by
  unfold skV
  obtain ⟨n, hn⟩ : ∃ n, s.size = n + 1 := ⟨s.size - 1, by omega⟩
  rw [skF_fuel s s.size (n + 1) rm p (by omega) (by omega), skF, if_pos h, skF_fuel s n s.size _ (p + 1) (by omega) (by omega)]
theorem skV_go {s : ByteArray} {rm : Bool} {p : Nat} (h : p < s.size) (hs : stopB (nextR (bt s p) rm) (bt s p) = false) : skV s rm p = skV s (nextR (bt s p) rm) (p + 1) := by
  rw [skV_step h, if_neg (by rw [hs]; simp)]
theorem skV_stop {s : ByteArray} {rm : Bool} {p : Nat} (h : p < s.size) (hs : stopB (nextR (bt s p) rm) (bt s p) = true) : skV s rm p = p := by
  rw [skV_step h, if_pos hs]
theorem skV_le (s : ByteArray) : ∀ (n : Nat) (rm : Bool) (p : Nat), s.size ≤ p + n → p ≤ s.size → p ≤ skV s rm p ∧ skV s rm p ≤ s.size ∧ (skV s rm p < s.size → stopB false (bt s (skV s rm p)) = true ∧ bt s (skV s rm p) ≠ 35)
  | 0, rm, p, h, hp => by rw [skV_end (by omega)]; exact ⟨by omega, hp, fun h => by omega⟩
  | n + 1, rm, p, h, hp => by
    by_cases hl : p < s.size
    · cases hs : stopB (nextR (bt s p) rm) (bt s p) with
      | true =>
        rw [skV_stop hl hs]
        refine ⟨Nat.le_refl _, hp, fun _ => ?_⟩
        unfold stopB at hs
        simp only [Bool.and_eq_true, Bool.not_eq_true', decide_eq_false_iff_not] at hs
        obtain ⟨⟨⟨h1, h2⟩, h3⟩, h4⟩ := hs
        refine ⟨?_, fun e => ?_⟩
        · unfold stopB; simp [h2, h3, h4]
        · rw [e] at h1; simp [nextR] at h1
      | false =>
        rw [skV_go hl hs]
        have := skV_le s n (nextR (bt s p) rm) (p + 1) (by omega) (by omega)
        exact ⟨by omega, this.2.1, this.2.2⟩
    · rw [skV_end (by omega)]; exact ⟨by omega, hp, fun h => by omega⟩
/-- Behind a remark's end. -/
theorem skV_remark (s : ByteArray) : ∀ (k p : Nat), p + k < s.size → bt s (p + k) = 10 → (∀ j, j < k → bt s (p + j) ≠ 10) → skV s true p = skV s false (p + k + 1)
  | 0, p, h, h10, _ => by
    have h10 : bt s p = 10 := h10
    have h : p < s.size := h
    rw [skV_go h (by rw [h10]; rfl), h10]; rfl
  | k + 1, p, h, h10, hno => by
    have h0 : bt s p ≠ 10 := hno 0 (by omega)
    have e : nextR (bt s p) true = true := by unfold nextR; rw [if_neg h0]; split <;> rfl
    rw [skV_go (by omega) (by rw [e]; rfl), e, skV_remark s k (p + 1) (by omega) (by rw [← h10]; congr 1; omega) (fun j hj => by rw [show p + 1 + j = p + (j + 1) by omega]; exact hno (j + 1) (by omega))]
    congr 1
    omega
theorem skV_remark_end (s : ByteArray) : ∀ (n p : Nat), s.size ≤ p + n → p ≤ s.size → (∀ j, p ≤ j → j < s.size → bt s j ≠ 10) → skV s true p = s.size
  | 0, p, h, hp, _ => by rw [skV_end (by omega)]; omega
  | n + 1, p, h, hp, hno => by
    by_cases hl : p < s.size
    · have h0 := hno p (Nat.le_refl _) hl
      have e : nextR (bt s p) true = true := by unfold nextR; rw [if_neg h0]; split <;> rfl
      rw [skV_go hl (by rw [e]; rfl), e]
      exact skV_remark_end s n (p + 1) (by omega) (by omega) fun j h1 h2 => hno j (by omega) h2
    · rw [skV_end (by omega)]; omega

theorem skip_spec (s : ByteArray) (p0 : Nat) (hs : s.size ≤ 9223372036854775807) (hp0 : p0 ≤ s.size) : Pure PG 17 [vs s, vi (p0 : Int)] (vi (skV s false p0 : Int)) [] := by
  refine Proc.mk (cfg 34) tysOK [] Tryd.func17 rfl (by kernel_rfl) rfl rfl rfl ?_
  intro C x
  refine x.loop (α := { p : Nat // p ≤ s.size ∧ skV s false p = skV s false p0 }) (fun y => ⟨[(0, vs s), (1, vi (y.1 : Int))], [], 0⟩) (fun y => s.size - y.1) ⟨p0, hp0, rfl⟩ rfl trivial ⟨⟨rfl, rfl, trivial⟩, trivial, rfl⟩ (fun y => ?_)
  obtain ⟨p, hp, same⟩ := y
  change Go C _ ⟨[(0, vs s), (1, vi (p : Int))], [], 0⟩ _
  refine x.cond rfl trivial (fun h1 => ?_) (fun h1 => ?_)
  · have h1 : p < s.size := by have := of_decide_eq_true h1; omega
    have ec : sb s ((p : Int)).toNat = (bt s p : Int) := sb_bt s p
    refine x.cond rfl ?_ (fun h2 => ?_) (fun h2 => ?_)
    · simp only [AllP]; omega
    · have h2 : bt s p = 35 := by have h2 : sb s ((p : Int)).toNat = 35 := of_decide_eq_true h2; omega
      have e1 : nextR (bt s p) false = true := by rw [h2]; rfl
      have g1 := skV_go (rm := false) h1 (by rw [e1, h2]; rfl)
      rw [e1] at g1
      refine x.pure rfl ?_ rfl (indexByte_spec (s.extract p s.size) 10) ⟨rfl, rfl, trivial⟩ ?_
      · simp only [AllP]; omega
      obtain ⟨n, hn⟩ : ∃ n, Lib.indexByte (s.extract p s.size).data.toList (10 : Int).toNat.toUInt8 = n := ⟨_, rfl⟩
      rw [hn]
      have hlen : (s.extract p s.size).data.toList.length = s.size - p := by
        rw [extract_data, List.length_drop, ← size_list]
      have hbt : ∀ j, ((s.extract p s.size).data.toList.getD j 0).toNat = bt s (p + j) := fun j => by rw [← bt_getD, bt_extract]
      refine x.cond rfl trivial (fun h3 => ?_) (fun h3 => ?_)
      · have h3 : n < 0 := of_decide_eq_true h3
        have hno := idx_none (by rw [hn]; exact h3)
        refine x.exit rfl trivial ?_
        refine ⟨.inr rfl, ?_, trivial, rfl⟩
        show (s.size : Int) = (skV s false p0 : Int)
        rw [← same, g1, skV_remark_end s s.size (p + 1) (by omega) (by omega)]
        intro j hj1 hj2 e
        refine hno (j - p) (by omega) ?_
        have := hbt (j - p)
        rw [show p + (j - p) = j by omega, e] at this
        exact UInt8.toNat_inj.1 this
      · have h3 : 0 ≤ n := by have := of_decide_eq_false h3; omega
        obtain ⟨a1, a2, a3⟩ := idx_some (by rw [hn]; exact h3)
        rw [hn] at a1 a2 a3
        have b2 : bt s (p + n.toNat) = 10 := by rw [← hbt, a2]; rfl
        have b3 : ∀ j, j < n.toNat → bt s (p + j) ≠ 10 := fun j hj e => by
          refine a3 j hj ?_
          have := hbt j
          rw [e] at this
          exact UInt8.toNat_inj.1 this
        have hn0 : n.toNat ≠ 0 := fun e => by rw [e, Nat.add_zero] at b2; omega
        obtain ⟨m, hm⟩ : ∃ m, n.toNat = m + 1 := ⟨n.toNat - 1, by omega⟩
        have g2 := skV_remark s m (p + 1) (by omega) (by rw [show p + 1 + m = p + n.toNat by omega]; exact b2) (fun j hj => by rw [show p + 1 + j = p + (j + 1) by omega]; exact b3 (j + 1) (by omega))
        refine x.back rfl ?_ ⟨⟨p + n.toNat + 1, by omega, ?_⟩, by show s.size - (p + n.toNat + 1) < s.size - p; omega, ⟨rfl, ?_, trivial⟩, trivial, rfl⟩
        · simp only [AllP, inI64]; omega
        · rw [← same, g1, g2]; congr 1; omega
        · show (p : Int) + n + 1 = ((p + n.toNat + 1 : Nat) : Int); omega
    have h2 : bt s p ≠ 35 := by have h2 : ¬ sb s ((p : Int)).toNat = 35 := of_decide_eq_false h2; omega
    have blank : (bt s p = 32 ∨ bt s p = 9 ∨ bt s p = 10) → ∃ z : { p : Nat // p ≤ s.size ∧ skV s false p = skV s false p0 }, z.1 = p + 1 := fun hb => by
      refine ⟨⟨p + 1, by omega, ?_⟩, rfl⟩
      have e1 : nextR (bt s p) false = false := by unfold nextR; rw [if_neg h2]; split <;> rfl
      have g1 := skV_go (rm := false) h1 (by rw [e1]; unfold stopB; rcases hb with e | e | e <;> rw [e] <;> rfl)
      rw [← same, g1, e1]
    refine x.cond rfl trivial (fun h3 => ?_) (fun h3 => ?_)
    · have h3b : bt s p = 32 := by have h3 : sb s ((p : Int)).toNat = 32 := of_decide_eq_true h3; omega
      refine x.cond rfl trivial (fun _ => ?_) (fun h4 => absurd (h3.symm.trans h4) (by simp))
      obtain ⟨z, hz⟩ := blank (.inl h3b)
      refine x.back rfl (show inI64 _ by unfold inI64; omega) ⟨z, by show s.size - z.1 < s.size - p; omega, ⟨rfl, ?_, trivial⟩, trivial, rfl⟩
      show (p : Int) + 1 = (z.1 : Int); omega
    have h3b : bt s p ≠ 32 := by have h3 : ¬ sb s ((p : Int)).toNat = 32 := of_decide_eq_false h3; omega
    refine x.cond rfl trivial (fun h4 => ?_) (fun h4 => ?_)
    · have h4b : bt s p = 9 := by have h4 : sb s ((p : Int)).toNat = 9 := of_decide_eq_true h4; omega
      refine x.cond rfl trivial (fun _ => ?_) (fun h5 => absurd (h4.symm.trans h5) (by simp))
      obtain ⟨z, hz⟩ := blank (.inr (.inl h4b))
      refine x.back rfl (show inI64 _ by unfold inI64; omega) ⟨z, by show s.size - z.1 < s.size - p; omega, ⟨rfl, ?_, trivial⟩, trivial, rfl⟩
      show (p : Int) + 1 = (z.1 : Int); omega
    have h4b : bt s p ≠ 9 := by have h4 : ¬ sb s ((p : Int)).toNat = 9 := of_decide_eq_false h4; omega
    refine x.cond rfl trivial (fun h5 => ?_) (fun h5 => ?_)
    · have h5b : bt s p = 10 := by have h5 : sb s ((p : Int)).toNat = 10 := of_decide_eq_true h5; omega
      obtain ⟨z, hz⟩ := blank (.inr (.inr h5b))
      refine x.back rfl (show inI64 _ by unfold inI64; omega) ⟨z, by show s.size - z.1 < s.size - p; omega, ⟨rfl, ?_, trivial⟩, trivial, rfl⟩
      show (p : Int) + 1 = (z.1 : Int); omega
    have h5b : bt s p ≠ 10 := by have h5 : ¬ sb s ((p : Int)).toNat = 10 := of_decide_eq_false h5; omega
    refine x.exit rfl trivial ?_
    refine ⟨.inr rfl, ?_, trivial, rfl⟩
    show (p : Int) = (skV s false p0 : Int)
    rw [← same, skV_stop h1]
    unfold nextR stopB
    rw [if_neg h5b, if_neg h2]
    simp [h3b, h4b, h5b]
  · have h1 : p = s.size := by have := of_decide_eq_false h1; omega
    refine x.exit rfl trivial ?_
    refine ⟨.inr rfl, ?_, trivial, rfl⟩
    show (p : Int) = (skV s false p0 : Int)
    rw [← same, skV_end (by omega)]

theorem skipped_spec (s : ByteArray) (p0 : Nat) (hs : s.size ≤ 9223372036854775807) (hp0 : p0 ≤ s.size) : Pure PG 22 [vs s, vi (p0 : Int)] (vi (skV s false p0 : Int)) [] := by
  refine Proc.mk (cfg 36) tysOK [] Tryd.func22 rfl (by kernel_rfl) rfl rfl rfl ?_
  intro C x
  refine x.loop (α := { y : Nat × Bool // y.1 ≤ s.size ∧ skV s y.2 y.1 = skV s false p0 }) (fun y => ⟨[(0, vs s), (1, vi (y.1.1 : Int)), (5, vb y.1.2)], [], 0⟩) (fun y => s.size - y.1.1) ⟨(p0, false), hp0, rfl⟩ rfl trivial ⟨⟨rfl, rfl, rfl, trivial⟩, trivial, rfl⟩ (fun y => ?_)
  obtain ⟨⟨p, rm⟩, hp, same⟩ := y
  have hp : p ≤ s.size := hp
  have same : skV s rm p = skV s false p0 := same
  change Go C _ ⟨[(0, vs s), (1, vi (p : Int)), (5, vb rm)], [], 0⟩ _
  refine x.cond rfl trivial (fun h1 => ?_) (fun h1 => ?_)
  · have h1 : p < s.size := by have := of_decide_eq_true h1; omega
    have ec : sb s ((p : Int)).toNat = (bt s p : Int) := sb_bt s p
    have go : ∀ rm2 : Bool, rm2 = nextR (bt s p) rm → (((!rm2 && !decide (sb s ((p : Int)).toNat = 32)) && !decide (sb s ((p : Int)).toNat = 9)) && !decide (sb s ((p : Int)).toNat = 10)) = stopB (nextR (bt s p) rm) (bt s p) := fun rm2 e => by
      subst e
      unfold stopB
      rw [ec]
      simp only [show ((32 : Int)) = ((32 : Nat) : Int) from rfl, show ((9 : Int)) = ((9 : Nat) : Int) from rfl, show ((10 : Int)) = ((10 : Nat) : Int) from rfl, dec_nat]
    have stop : stopB (nextR (bt s p) rm) (bt s p) = true → (p : Int) = (skV s false p0 : Int) := fun h => by rw [← same, skV_stop h1 h]
    have next : stopB (nextR (bt s p) rm) (bt s p) = false → skV s (nextR (bt s p) rm) (p + 1) = skV s false p0 := fun h => by rw [← same, skV_go h1 h]
    refine x.cond rfl ?_ (fun h2 => ?_) (fun h2 => ?_)
    · simp only [AllP]; omega
    · have h2 : bt s p = 35 := by have h2 : sb s ((p : Int)).toNat = 35 := of_decide_eq_true h2; omega
      have e : true = nextR (bt s p) rm := by rw [h2]; rfl
      refine x.cond rfl trivial (fun h3 => ?_) (fun h3 => ?_)
      · exfalso
        have h3 : sb s ((p : Int)).toNat = 10 := of_decide_eq_true h3
        omega
      refine x.cond rfl trivial (fun h4 => ?_) (fun h4 => ?_)
      · refine x.exit rfl trivial ?_
        exact ⟨.inr rfl, stop ((go _ e).symm.trans h4), trivial, rfl⟩
      · exact x.back rfl (show inI64 _ by unfold inI64; omega) ⟨⟨(p + 1, nextR (bt s p) rm), by show p + 1 ≤ s.size; omega, next ((go _ e).symm.trans h4)⟩, by show s.size - (p + 1) < s.size - p; omega, ⟨rfl, rfl, e, trivial⟩, trivial, rfl⟩
    have h2 : bt s p ≠ 35 := by have h2 : ¬ sb s ((p : Int)).toNat = 35 := of_decide_eq_false h2; omega
    refine x.cond rfl trivial (fun h3 => ?_) (fun h3 => ?_)
    · have h3 : bt s p = 10 := by have h3 : sb s ((p : Int)).toNat = 10 := of_decide_eq_true h3; omega
      have e : false = nextR (bt s p) rm := by rw [h3]; rfl
      refine x.cond rfl trivial (fun h4 => ?_) (fun h4 => ?_)
      · refine x.exit rfl trivial ?_
        exact ⟨.inr rfl, stop ((go _ e).symm.trans h4), trivial, rfl⟩
      · exact x.back rfl (show inI64 _ by unfold inI64; omega) ⟨⟨(p + 1, nextR (bt s p) rm), by show p + 1 ≤ s.size; omega, next ((go _ e).symm.trans h4)⟩, by show s.size - (p + 1) < s.size - p; omega, ⟨rfl, rfl, e, trivial⟩, trivial, rfl⟩
    · have h3 : bt s p ≠ 10 := by have h3 : ¬ sb s ((p : Int)).toNat = 10 := of_decide_eq_false h3; omega
      have e : rm = nextR (bt s p) rm := by unfold nextR; rw [if_neg h3, if_neg h2]
      refine x.cond rfl trivial (fun h4 => ?_) (fun h4 => ?_)
      · refine x.exit rfl trivial ?_
        exact ⟨.inr rfl, stop ((go _ e).symm.trans h4), trivial, rfl⟩
      · exact x.back rfl (show inI64 _ by unfold inI64; omega) ⟨⟨(p + 1, nextR (bt s p) rm), by show p + 1 ≤ s.size; omega, next ((go _ e).symm.trans h4)⟩, by show s.size - (p + 1) < s.size - p; omega, ⟨rfl, rfl, e, trivial⟩, trivial, rfl⟩
  · have h1 : p = s.size := by have := of_decide_eq_false h1; omega
    refine x.exit rfl trivial ?_
    refine ⟨.inr rfl, ?_, trivial, rfl⟩
    show (p : Int) = (skV s false p0 : Int)
    rw [← same, skV_end (by omega)]
end Go.Proofs.YtofanbmeemahgaaDoor

/- Rows of letters and digits. -/
namespace Go.Proofs.YtofanbmeemahgaaDoor
open Go.Sx
set_option linter.unusedVariables false
set_option linter.unusedSimpArgs false
set_option maxRecDepth 100000

def plainB (s : ByteArray) (p : Nat) : Bool := letB (Utf8.decode s p).1 || digB (Utf8.decode s p).1
/-- Where the row of letters and digits ends. -/
def rowN (s : ByteArray) : Nat → Nat → Nat
  | 0, p => p
  | n + 1, p => if p < s.size then (if plainB s p then rowN s n (p + (Utf8.decode s p).2) else p) else p
theorem rowN_end {s : ByteArray} {n p : Nat} (h : s.size ≤ p) : rowN s n p = p := by
  cases n with
  | zero => rfl
  | succ n => rw [rowN, if_neg (by omega)]
theorem rowN_fuel (s : ByteArray) : ∀ (n m p : Nat), s.size ≤ p + n → s.size ≤ p + m → rowN s n p = rowN s m p
  | 0, m, p, h, _ => by rw [rowN_end (by omega), rowN_end (by omega)]
  | n + 1, 0, p, _, h => by rw [rowN_end (by omega), rowN_end (by omega)]
  | n + 1, m + 1, p, h1, h2 => by
    have := (decode_pos s p).1
    rw [rowN, rowN]
    split
    · split
      · exact rowN_fuel s n m _ (by omega) (by omega)
      · rfl
    · rfl
def rowV (s : ByteArray) (p : Nat) : Nat := rowN s s.size p
theorem rowV_end {s : ByteArray} {p : Nat} (h : s.size ≤ p) : rowV s p = p := rowN_end h
theorem rowV_step {s : ByteArray} {p : Nat} (h : p < s.size) : rowV s p = if plainB s p then rowV s (p + (Utf8.decode s p).2) else p := by
  unfold rowV
  obtain ⟨n, hn⟩ : ∃ n, s.size = n + 1 := ⟨s.size - 1, by omega⟩
  have := (decode_pos s p).1
  rw [rowN_fuel s s.size (n + 1) p (by omega) (by omega), rowN, if_pos h, rowN_fuel s n s.size _ (by omega) (by omega)]
theorem rowV_le (s : ByteArray) : ∀ (n p : Nat), s.size ≤ p + n → p ≤ s.size → p ≤ rowV s p ∧ rowV s p ≤ s.size
  | 0, p, h, hp => by rw [rowV_end (by omega)]; omega
  | n + 1, p, h, hp => by
    by_cases hl : p < s.size
    · rw [rowV_step hl]
      split
      · have h1 := (decode_pos s p).1
        have h2 := decode_room hl
        have := rowV_le s n (p + (Utf8.decode s p).2) (by omega) h2
        omega
      · omega
    · rw [rowV_end (by omega)]; omega
theorem decode_extract {s : ByteArray} {p : Nat} (hp : p ≤ s.size) (q : Nat) : Utf8.decode (s.extract p s.size) q = Utf8.decode s (p + q) := by
  have h := dec_shift (s.size - p) q p (bt s (p + q)) (bt s (p + q + 1)) (bt s (p + q + 2)) (bt s (p + q + 3))
  rw [show p + (s.size - p) = s.size by omega] at h
  rw [decode_eq, decode_eq, extract_size, bt_extract, bt_extract, bt_extract, bt_extract, ← Nat.add_assoc, ← Nat.add_assoc, ← Nat.add_assoc, h]
theorem rowV_extract {s : ByteArray} {p : Nat} (hp : p ≤ s.size) : ∀ (n q : Nat), s.size ≤ p + q + n → p + rowV (s.extract p s.size) q = rowV s (p + q)
  | 0, q, h => by rw [rowV_end (by rw [extract_size]; omega), rowV_end (by omega)]
  | n + 1, q, h => by
    by_cases hl : p + q < s.size
    · rw [rowV_step (by rw [extract_size]; omega), rowV_step hl, plainB, plainB, decode_extract hp]
      have := (decode_pos s (p + q)).1
      split
      · rw [rowV_extract hp n _ (by omega), Nat.add_assoc]
      · rfl
    · rw [rowV_end (by rw [extract_size]; omega), rowV_end (by omega)]

theorem row_spec (s : ByteArray) (hs : s.size ≤ 9223372036854775807) : Pure PG 19 [vs s] (vi (rowV s 0 : Int)) [] := by
  refine Proc.mk (cfg 22) tysOK [] Tryd.func19 rfl (by kernel_rfl) rfl rfl rfl ?_
  intro C x
  refine x.loop (α := { p : Nat // p ≤ s.size ∧ rowV s p = rowV s 0 }) (fun y => ⟨[(0, vs s), (6, .ptr 0 0)], [(0, .iter s y.1)], 1⟩) (fun y => s.size - y.1) ⟨0, by omega, rfl⟩ rfl trivial ?_ (fun y => ?_)
  · exact ⟨⟨rfl, ⟨rfl, rfl⟩, trivial⟩, ⟨⟨rfl, rfl⟩, trivial⟩, rfl⟩
  obtain ⟨p, hp, same⟩ := y
  change Go C _ ⟨[(0, vs s), (6, .ptr 0 0)], [(0, .iter s p)], 1⟩ _
  obtain ⟨d1, d2, d3⟩ := decode_pos s p
  refine x.next rfl trivial rfl rfl rfl (fun h => ?_) (fun h => ?_)
  · have h : p < s.size := h
    have hr := decode_room h
    rw [rowV_step h] at same
    refine x.cond rfl trivial (fun _ => ?_) (fun h1 => by cases h1)
    refine x.pure rfl trivial rfl (letter_spec _) ⟨rfl, trivial⟩ ?_
    refine x.pureG rfl trivial rfl (fun _ => digit_spec _) rfl ⟨rfl, trivial⟩ ?_
    refine x.cond rfl trivial (fun h2 => ?_) (fun h2 => ?_)
    · have h2 : (!letB (Utf8.decode s p).1 && !digB (Utf8.decode s p).1) = true := h2
      have h3 : plainB s p = false := by
        unfold plainB
        simp only [Bool.and_eq_true, Bool.not_eq_true'] at h2
        rw [h2.1, h2.2]; rfl
      rw [if_neg (by rw [h3]; simp)] at same
      refine x.exit rfl trivial ?_
      refine ⟨.inr rfl, ?_, trivial, rfl⟩
      rw [← same]
      exact rfl
    · have h2 : (!letB (Utf8.decode s p).1 && !digB (Utf8.decode s p).1) = false := h2
      have h3 : plainB s p = true := by
        unfold plainB
        cases e : letB (Utf8.decode s p).1 with
        | true => rfl
        | false => rw [e] at h2; simpa using h2
      rw [if_pos h3] at same
      refine x.back rfl trivial ⟨⟨p + (Utf8.decode s p).2, hr, same⟩, by show s.size - (p + (Utf8.decode s p).2) < s.size - p; omega, ?_⟩
      exact ⟨⟨rfl, ⟨rfl, rfl⟩, trivial⟩, ⟨⟨rfl, rfl⟩, trivial⟩, rfl⟩
  · have h : ¬ p < s.size := h
    refine x.cond rfl trivial (fun h1 => by cases h1) (fun _ => ?_)
    refine x.exit rfl trivial ?_
    refine ⟨.inr rfl, ?_, trivial, rfl⟩
    rw [rowV_end (by omega)] at same
    show (s.size : Int) = (rowV s 0 : Int)
    rw [← same]; omega

theorem form_plain {s : ByteArray} {p : Nat} (h : p < s.size) : (decide (0 < (formV s (p : Int)).2) && (letB (formV s (p : Int)).1 || digB (formV s (p : Int)).1)) = plainB s p := by
  have hd := decode_pos s p
  unfold plainB
  rw [formV_at h]
  by_cases h1 : (Utf8.decode s p).2 = 1 ∧ 128 ≤ bt s p
  · rw [if_pos h1]
    have hr : (Utf8.decode s p).1 = 65533 := by
      rw [decode_eq] at h1 ⊢
      exact dec_bad _ _ _ _ _ _ h1.1 h1.2
    rw [hr]; decide
  · rw [if_neg h1]
    show (decide (0 < ((Utf8.decode s p).2 : Int)) && _) = _
    rw [decide_eq_true (by omega), Bool.true_and]
theorem refplain_spec (s : ByteArray) (p : Nat) (hs : s.size ≤ 9223372036854775807) (hp : p < s.size) : Pure PG 25 [vs s, vi (p : Int)] (vb (plainB s p)) [] := by
  refine Proc.mk (cfg 23) tysOK [] Tryd.func25 rfl (by kernel_rfl) rfl rfl rfl ?_
  intro C x
  refine x.pure rfl trivial rfl (form_spec s (p : Int) hs) ⟨rfl, rfl, trivial⟩ ?_
  refine x.pureG rfl trivial rfl (fun _ => ref_letter_spec _) rfl ⟨rfl, trivial⟩ ?_
  refine x.pureG rfl trivial rfl (fun _ _ => ref_digit_spec _) rfl ⟨rfl, trivial⟩ ?_
  refine x.exit rfl trivial ?_
  refine ⟨.inr rfl, ?_, trivial, rfl⟩
  exact form_plain hp
end Go.Proofs.YtofanbmeemahgaaDoor

/- The first token: the program's, and the answer's. -/
namespace Go.Proofs.YtofanbmeemahgaaDoor
open Go.Sx
set_option linter.unusedVariables false
set_option linter.unusedSimpArgs false
set_option maxRecDepth 100000

structure Tok where
  k : Int
  f : Int
  t : Int
deriving DecidableEq
abbrev dTok (t : Tok) : List D := [.int .u8 t.k, .int .i64 t.f, .int .i64 t.t]
abbrev vTok (t : Tok) : List V := [.d (.int .u8 t.k), vi t.f, vi t.t]
abbrev tokV (t : Tok) : V := .agg (vTok t)
def tok0 : Tok := ⟨0, 0, 0⟩
def nameB (b : ByteArray) : Bool := nameW b b.size 0 0
def kindOf (b : ByteArray) : Int := if wordB b then 2 else if nameB b then 1 else if (numV b).2 then 3 else 0
def pieceEnd (s : ByteArray) (p : Nat) : Nat := if bt s p = 45 ∧ digAt s (p + 1) = true then rowV s (p + 1) else rowV s p
def oneN (s : ByteArray) (a : Nat) : Tok × Int × Int :=
  if skV s false a = s.size then (tok0, (s.size : Int), 4)
  else if signB (bt s (skV s false a)) then (⟨4, skV s false a, skV s false a + 1⟩, 0, 0)
  else if kindOf (s.extract (skV s false a) (pieceEnd s (skV s false a))) = 0 then (tok0, (skV s false a : Int), 6)
  else (⟨kindOf (s.extract (skV s false a) (pieceEnd s (skV s false a))), skV s false a, pieceEnd s (skV s false a)⟩, 0, 0)
def oneV (s : ByteArray) (a : Int) : Tok × Int × Int := if a < 0 ∨ (s.size : Int) < a then (tok0, 0, 1) else oneN s a.toNat
theorem oneN_none {s : ByteArray} {a p : Nat} (hp : skV s false a = p) (h : p = s.size) : oneN s a = (tok0, (s.size : Int), 4) := by
  unfold oneN; rw [hp, if_pos h]
theorem oneN_sign {s : ByteArray} {a p : Nat} (hp : skV s false a = p) (h : p ≠ s.size) (h2 : signB (bt s p) = true) : oneN s a = (⟨4, p, p + 1⟩, 0, 0) := by
  unfold oneN; rw [hp, if_neg h, if_pos h2]
theorem oneN_bad {s : ByteArray} {a p : Nat} (hp : skV s false a = p) (h : p ≠ s.size) (h2 : signB (bt s p) = false) (h3 : kindOf (s.extract p (pieceEnd s p)) = 0) : oneN s a = (tok0, (p : Int), 6) := by
  unfold oneN; rw [hp, if_neg h, if_neg (by rw [h2]; simp), if_pos h3]
theorem oneN_ok {s : ByteArray} {a p : Nat} (hp : skV s false a = p) (h : p ≠ s.size) (h2 : signB (bt s p) = false) (h3 : kindOf (s.extract p (pieceEnd s p)) ≠ 0) : oneN s a = (⟨kindOf (s.extract p (pieceEnd s p)), p, pieceEnd s p⟩, 0, 0) := by
  unfold oneN; rw [hp, if_neg h, if_neg (by rw [h2]; simp), if_neg h3]
theorem pieceEnd_le {s : ByteArray} {p : Nat} (hp : p < s.size) : p ≤ pieceEnd s p ∧ pieceEnd s p ≤ s.size := by
  unfold pieceEnd
  split
  · have := rowV_le s s.size (p + 1) (by omega) (by omega); omega
  · exact rowV_le s s.size p (by omega) (by omega)
theorem kind_word {b : ByteArray} (h : wordB b = true) : kindOf b = 2 := by unfold kindOf; rw [if_pos h]
theorem kind_name {b : ByteArray} (h : wordB b = false) (h2 : nameB b = true) : kindOf b = 1 := by unfold kindOf; rw [if_neg (by rw [h]; simp), if_pos h2]
theorem kind_num {b : ByteArray} (h : wordB b = false) (h2 : nameB b = false) (h3 : (numV b).2 = true) : kindOf b = 3 := by unfold kindOf; rw [if_neg (by rw [h]; simp), if_neg (by rw [h2]; simp), if_pos h3]
theorem kind_none {b : ByteArray} (h : wordB b = false) (h2 : nameB b = false) (h3 : (numV b).2 = false) : kindOf b = 0 := by unfold kindOf; rw [if_neg (by rw [h]; simp), if_neg (by rw [h2]; simp), if_neg (by rw [h3]; simp)]
theorem sign_idx (n : Nat) (hn : n < 256) : decide (0 ≤ Lib.indexByte [40, 41, 123, 125, 91, 93, 44, 58, 61] n.toUInt8) = signB n := by
  have : ∀ n, n < 256 → decide (0 ≤ Lib.indexByte [40, 41, 123, 125, 91, 93, 44, 58, 61] n.toUInt8) = signB n := by decide +kernel
  exact this n hn
theorem ex_size (s : ByteArray) (p q : Nat) : (s.extract p q).size ≤ s.size := by
  rw [ByteArray.size_extract]; omega

theorem one_spec (s : ByteArray) (a : Int) (hs : s.size ≤ 4611686018427387904) : Pure PG 12 [vs s, vi a] (.tup [tokV (oneV s a).1, vi (oneV s a).2.1, vi (oneV s a).2.2]) [] := by
  refine Proc.mk (cfg 104) tysOK [] Tryd.func12 rfl (by kernel_rfl) rfl rfl rfl ?_
  intro C x
  refine x.cond rfl trivial (fun h => ?_) (fun h => ?_)
  · have h : (decide (a < 0) || decide ((s.size : Int) < a)) = true := h
    rw [Bool.or_eq_true, decide_eq_true_eq, decide_eq_true_eq] at h
    rw [oneV, if_pos h]
    refine x.exit rfl trivial ?_
    exact ⟨.inr rfl, ⟨rfl, rfl, rfl, trivial⟩, trivial, rfl⟩
  have h : (decide (a < 0) || decide ((s.size : Int) < a)) = false := h
  rw [Bool.or_eq_false_iff, decide_eq_false_iff_not, decide_eq_false_iff_not] at h
  rw [oneV, if_neg (by omega)]
  obtain ⟨a, rfl⟩ : ∃ n : Nat, a = n := ⟨a.toNat, by omega⟩
  rw [Int.toNat_natCast]
  refine x.pure rfl trivial rfl (skip_spec s a (by omega) (by omega)) ⟨rfl, rfl, trivial⟩ ?_
  obtain ⟨hp1, hp2, hp3⟩ := skV_le s s.size false a (by omega) (by omega)
  obtain ⟨p, hp⟩ : ∃ p, skV s false a = p := ⟨_, rfl⟩
  rw [hp] at hp1 hp2 hp3 ⊢
  refine x.cond rfl trivial (fun h2 => ?_) (fun h2 => ?_)
  · have h2 : p = s.size := by have h2 : (p : Int) = s.size := of_decide_eq_true h2; omega
    rw [oneN_none hp h2]
    refine x.exit rfl trivial ?_
    exact ⟨.inr rfl, ⟨rfl, by show (p : Int) = s.size; omega, rfl, trivial⟩, trivial, rfl⟩
  have h2 : p ≠ s.size := by have h2 : ¬ (p : Int) = s.size := of_decide_eq_false h2; omega
  have hpl : p < s.size := by omega
  have ec : sb s ((p : Int)).toNat = (bt s p : Int) := sb_bt s p
  have hbl := bt_lt s p
  refine x.pure rfl ?_ rfl (indexByte_spec ⟨#[40, 41, 123, 125, 91, 93, 44, 58, 61]⟩ (bt s p : Int)) ⟨rfl, ?_, trivial⟩ ?_
  · simp only [AllP]; omega
  · exact ec
  rw [Int.toNat_natCast]
  refine x.cond rfl trivial (fun h3 => ?_) (fun h3 => ?_)
  · have h3 : signB (bt s p) = true := (sign_idx _ hbl).symm.trans h3
    rw [oneN_sign hp h2 h3]
    refine x.exit rfl ?_ ?_
    · simp only [AllP, inI64]; omega
    exact ⟨.inr rfl, ⟨rfl, rfl, rfl, trivial⟩, trivial, rfl⟩
  have h3 : signB (bt s p) = false := (sign_idx _ hbl).symm.trans h3
  refine x.pure rfl ?_ rfl (row_spec (s.extract p s.size) (by have := ex_size s p s.size; omega)) ⟨rfl, trivial⟩ ?_
  · simp only [AllP]; omega
  have er := rowV_extract hp2 s.size 0 (by omega)
  rw [Nat.add_zero] at er
  obtain ⟨e1, e2⟩ := pieceEnd_le hpl
  have hrl := rowV_le s s.size p (by omega) hp2
  refine x.ite (α := Unit) (fun _ => ⟨[(0, vs s), (1, vi (p : Int)), (4, .ptr 0 0), (7, vi ((pieceEnd s p - p : Nat) : Int))], [(0, .box (vTok tok0))], 1⟩) rfl ?_ (fun h4 => ?_) (fun h4 => ?_) (fun _ => ?_)
  · simp only [AllP, inI64, Bool.and_eq_true, decide_eq_true_eq]
    exact ⟨by omega, fun _ => by omega, fun _ => by omega, fun _ => by omega, fun _ => by omega, fun _ => by omega⟩
  · have h4 : (((decide (sb s ((p : Int)).toNat = 45) && decide ((p : Int) + 1 < (s.size : Int))) && decide (48 ≤ sb s ((p : Int) + 1).toNat)) && decide (sb s ((p : Int) + 1).toNat ≤ 57)) = true := h4
    have ep1 : ((p : Int) + 1).toNat = p + 1 := by omega
    rw [ec, ep1, sb_bt] at h4
    simp only [Bool.and_eq_true, decide_eq_true_eq] at h4
    have e45 : bt s p = 45 := by omega
    have ed : digAt s (p + 1) = true := by
      unfold digAt
      simp only [Bool.and_eq_true, decide_eq_true_eq]
      omega
    have epe : pieceEnd s p = rowV s (p + 1) := by unfold pieceEnd; rw [if_pos ⟨e45, ed⟩]
    refine x.pure rfl ?_ rfl (row_spec (s.extract (p + 1) s.size) (by have := ex_size s (p + 1) s.size; omega)) ⟨?_, trivial⟩ ?_
    · simp only [AllP, inI64]; omega
    · show s.extract ((p : Int) + 1).toNat s.size = s.extract (p + 1) s.size
      rw [ep1]
    have er1 := rowV_extract (s := s) (p := p + 1) (by omega) s.size 0 (by omega)
    rw [Nat.add_zero] at er1
    refine x.back rfl ?_ ⟨(), ⟨rfl, rfl, ⟨rfl, rfl⟩, ?_, trivial⟩, ⟨⟨rfl, rfl, rfl, trivial⟩, trivial⟩, rfl⟩
    · simp only [AllP, inI64]; omega
    · show 1 + (rowV (s.extract (p + 1) s.size) 0 : Int) = ((pieceEnd s p - p : Nat) : Int)
      omega
  · have h4 : (((decide (sb s ((p : Int)).toNat = 45) && decide ((p : Int) + 1 < (s.size : Int))) && decide (48 ≤ sb s ((p : Int) + 1).toNat)) && decide (sb s ((p : Int) + 1).toNat ≤ 57)) = false := h4
    have ep1 : ((p : Int) + 1).toNat = p + 1 := by omega
    have epe : pieceEnd s p = rowV s p := by
      unfold pieceEnd
      rw [if_neg]
      rintro ⟨e45, ed⟩
      unfold digAt at ed
      simp only [Bool.and_eq_true, decide_eq_true_eq] at ed
      rw [ec, ep1, sb_bt] at h4
      rw [decide_eq_true (by omega), decide_eq_true (by omega), decide_eq_true (by omega), decide_eq_true (by omega)] at h4
      cases h4
    refine x.back rfl trivial ⟨(), ⟨rfl, rfl, ⟨rfl, rfl⟩, ?_, trivial⟩, ⟨⟨rfl, rfl, rfl, trivial⟩, trivial⟩, rfl⟩
    show (rowV (s.extract p s.size) 0 : Int) = ((pieceEnd s p - p : Nat) : Int)
    omega
  obtain ⟨q, hq⟩ : ∃ q, pieceEnd s p = q := ⟨_, rfl⟩
  rw [hq] at e1 e2 ⊢
  have eqq : (p : Int) + ((q - p : Nat) : Int) = (q : Int) := by omega
  obtain ⟨b, hb⟩ : ∃ b, s.extract p q = b := ⟨_, rfl⟩
  have hbs : b.size ≤ s.size := by rw [← hb]; exact ex_size s p q
  refine x.pure rfl ?_ rfl (number_spec b) ⟨?_, trivial⟩ ?_
  · simp only [AllP, inI64, eqq]; omega
  · show s.extract ((p : Int)).toNat ((p : Int) + ((q - p : Nat) : Int)).toNat = b
    rw [eqq, Int.toNat_natCast, Int.toNat_natCast, hb]
  have ebv : s.extract ((p : Int)).toNat ((p : Int) + ((q - p : Nat) : Int)).toNat = b := by rw [eqq, Int.toNat_natCast, Int.toNat_natCast, hb]
  refine x.le (s' := ⟨[(1, vi (p : Int)), (4, .ptr 0 0), (8, .ptr 1 0), (9, vs b), (87, .tup [vi (numV b).1, vb (numV b).2])], [(0, .box (vTok tok0)), (1, .box (vTok ⟨0, p, q⟩))], 2⟩) ?_ ?_
  · exact ⟨⟨rfl, ⟨rfl, rfl⟩, ⟨rfl, rfl⟩, ebv, ⟨rfl, rfl, trivial⟩, trivial⟩, ⟨⟨rfl, rfl, rfl, trivial⟩, ⟨rfl, rfl, eqq, trivial⟩, trivial⟩, rfl⟩
  refine x.pure rfl trivial rfl (word_spec b) ⟨rfl, trivial⟩ ?_
  have fin : ∀ k : Int, kindOf b = k → k ≠ 0 → oneN s a = (⟨k, p, q⟩, 0, 0) := fun k hk h0 => by
    rw [oneN_ok hp h2 h3 (by rw [hq, hb, hk]; exact h0), hq, hb, hk]
  refine x.cond rfl trivial (fun h5 => ?_) (fun h5 => ?_)
  · rw [fin 2 (kind_word h5) (by decide)]
    refine x.exit rfl trivial ?_
    exact ⟨.inr rfl, ⟨rfl, rfl, rfl, trivial⟩, trivial, rfl⟩
  refine x.pure rfl trivial rfl (name_spec b (by omega)) ⟨rfl, trivial⟩ ?_
  refine x.cond rfl trivial (fun h6 => ?_) (fun h6 => ?_)
  · rw [fin 1 (kind_name h5 h6) (by decide)]
    refine x.exit rfl trivial ?_
    exact ⟨.inr rfl, ⟨rfl, rfl, rfl, trivial⟩, trivial, rfl⟩
  refine x.cond rfl trivial (fun h7 => ?_) (fun h7 => ?_)
  · rw [fin 3 (kind_num h5 h6 h7) (by decide)]
    refine x.exit rfl trivial ?_
    exact ⟨.inr rfl, ⟨rfl, rfl, rfl, trivial⟩, trivial, rfl⟩
  · rw [oneN_bad hp h2 h3 (by rw [hq, hb]; exact kind_none h5 h6 h7)]
    refine x.exit rfl trivial ?_
    exact ⟨.inr rfl, ⟨rfl, rfl, rfl, trivial⟩, trivial, rfl⟩

theorem refone_spec (s : ByteArray) (a : Int) (hs : s.size ≤ 4611686018427387904) : Pure PG 13 [vs s, vi a] (.tup [tokV (oneV s a).1, vi (oneV s a).2.1, vi (oneV s a).2.2]) [] := by
  refine Proc.mk (cfg 91) tysOK [] Tryd.func13 rfl (by kernel_rfl) rfl rfl rfl ?_
  intro C x
  refine x.cond rfl trivial (fun h => ?_) (fun h => ?_)
  · have h : (decide (a < 0) || decide ((s.size : Int) < a)) = true := h
    rw [Bool.or_eq_true, decide_eq_true_eq, decide_eq_true_eq] at h
    rw [oneV, if_pos h]
    refine x.exit rfl trivial ?_
    exact ⟨.inr rfl, ⟨rfl, rfl, rfl, trivial⟩, trivial, rfl⟩
  have h : (decide (a < 0) || decide ((s.size : Int) < a)) = false := h
  rw [Bool.or_eq_false_iff, decide_eq_false_iff_not, decide_eq_false_iff_not] at h
  rw [oneV, if_neg (by omega)]
  obtain ⟨a, rfl⟩ : ∃ n : Nat, a = n := ⟨a.toNat, by omega⟩
  rw [Int.toNat_natCast]
  refine x.pure rfl trivial rfl (skipped_spec s a (by omega) (by omega)) ⟨rfl, rfl, trivial⟩ ?_
  obtain ⟨hp1, hp2, hp3⟩ := skV_le s s.size false a (by omega) (by omega)
  obtain ⟨p, hp⟩ : ∃ p, skV s false a = p := ⟨_, rfl⟩
  rw [hp] at hp1 hp2 hp3 ⊢
  refine x.cond rfl trivial (fun h2 => ?_) (fun h2 => ?_)
  · have h2 : p = s.size := by have h2 : (s.size : Int) ≤ p := of_decide_eq_true h2; omega
    rw [oneN_none hp h2]
    refine x.exit rfl trivial ?_
    exact ⟨.inr rfl, ⟨rfl, rfl, rfl, trivial⟩, trivial, rfl⟩
  have hpl : p < s.size := by have h2 : ¬ (s.size : Int) ≤ p := of_decide_eq_false h2; omega
  have h2 : p ≠ s.size := by omega
  have ec : sb s ((p : Int)).toNat = (bt s p : Int) := sb_bt s p
  have hbl := bt_lt s p
  refine x.pure rfl ?_ rfl (sign_spec (bt s p)) ⟨ec, trivial⟩ ?_
  · simp only [AllP]; omega
  refine x.cond rfl trivial (fun h3 => ?_) (fun h3 => ?_)
  · rw [oneN_sign hp h2 h3]
    refine x.exit rfl ?_ ?_
    · simp only [AllP, inI64]; omega
    exact ⟨.inr rfl, ⟨rfl, rfl, rfl, trivial⟩, trivial, rfl⟩
  refine x.pureG rfl ?_ rfl (fun _ => digit3_spec s (p + 1)) rfl ⟨rfl, rfl, trivial⟩ ?_
  · simp only [AllP, inI64]; exact ⟨by omega, fun _ => by omega⟩
  obtain ⟨e1, e2⟩ := pieceEnd_le hpl
  have hcond : (decide (sb s ((p : Int)).toNat = 45) && digAt s (p + 1)) = true ↔ bt s p = 45 ∧ digAt s (p + 1) = true := by
    rw [ec, Bool.and_eq_true, decide_eq_true_eq]
    constructor
    · rintro ⟨u, v⟩; exact ⟨by omega, v⟩
    · rintro ⟨u, v⟩; exact ⟨by omega, v⟩
  refine x.ite (α := { q0 : Nat // q0 ≤ s.size ∧ rowV s q0 = pieceEnd s p ∧ p ≤ q0 }) (fun y => ⟨[(0, vs s), (1, vi (p : Int)), (4, .ptr 0 0), (7, vi (y.1 : Int))], [(0, .box (vTok tok0))], 1⟩) rfl trivial (fun h4 => ?_) (fun h4 => ?_) (fun y => ?_)
  · have h4 := hcond.1 h4
    have hl : p + 1 < s.size := by
      have := h4.2; unfold digAt at this
      simp only [Bool.and_eq_true, decide_eq_true_eq] at this
      exact this.1
    refine x.back rfl (show inI64 _ by unfold inI64; omega) ⟨⟨p + 1, by omega, by unfold pieceEnd; rw [if_pos h4], by omega⟩, ⟨rfl, rfl, ⟨rfl, rfl⟩, rfl, trivial⟩, ⟨⟨rfl, rfl, rfl, trivial⟩, trivial⟩, rfl⟩
  · have h4 : ¬ (bt s p = 45 ∧ digAt s (p + 1) = true) := fun e => by rw [hcond.2 e] at h4; cases h4
    exact x.back rfl trivial ⟨⟨p, by omega, by unfold pieceEnd; rw [if_neg h4], Nat.le_refl _⟩, ⟨rfl, rfl, ⟨rfl, rfl⟩, rfl, trivial⟩, ⟨⟨rfl, rfl, rfl, trivial⟩, trivial⟩, rfl⟩
  obtain ⟨q0, hq0, hqe, hpq⟩ := y
  change Go C _ ⟨[(0, vs s), (1, vi (p : Int)), (4, .ptr 0 0), (7, vi (q0 : Int))], [(0, .box (vTok tok0))], 1⟩ _
  refine x.loop (α := { q : Nat // q ≤ s.size ∧ rowV s q = pieceEnd s p ∧ p ≤ q }) (fun y => ⟨[(0, vs s), (1, vi (p : Int)), (4, .ptr 0 0), (7, vi (y.1 : Int))], [(0, .box (vTok tok0))], 1⟩) (fun y => s.size - y.1) ⟨q0, hq0, hqe, hpq⟩ rfl trivial ⟨⟨rfl, rfl, ⟨rfl, rfl⟩, rfl, trivial⟩, ⟨⟨rfl, rfl, rfl, trivial⟩, trivial⟩, rfl⟩ (fun y => ?_)
  obtain ⟨q, hq1, hqe, hpq⟩ := y
  change Go C _ ⟨[(0, vs s), (1, vi (p : Int)), (4, .ptr 0 0), (7, vi (q : Int))], [(0, .box (vTok tok0))], 1⟩ _
  refine x.pureG rfl trivial rfl (fun h => refplain_spec s q (by omega) (by
    have h : decide ((q : Int) < s.size) = true := h
    have := of_decide_eq_true h; omega)) rfl ⟨rfl, rfl, trivial⟩ ?_
  refine x.cond rfl trivial (fun h5 => ?_) (fun h5 => ?_)
  · have h5 : (decide ((q : Int) < s.size) && plainB s q) = true := h5
    rw [Bool.and_eq_true, decide_eq_true_eq] at h5
    have hql : q < s.size := by omega
    rw [rowV_step hql, if_pos h5.2] at hqe
    have hr := decode_room hql
    have hd := (decode_pos s q).1
    refine x.pure rfl trivial rfl (next_spec s (q : Int) (by omega) ⟨by omega, by omega⟩) ⟨rfl, rfl, trivial⟩ ?_
    rw [nextV_at hql]
    exact x.back rfl trivial ⟨⟨q + (Utf8.decode s q).2, hr, hqe, by omega⟩, by show s.size - (q + (Utf8.decode s q).2) < s.size - q; omega, ⟨rfl, rfl, ⟨rfl, rfl⟩, rfl, trivial⟩, ⟨⟨rfl, rfl, rfl, trivial⟩, trivial⟩, rfl⟩
  have h5 : (decide ((q : Int) < s.size) && plainB s q) = false := h5
  have hqq : pieceEnd s p = q := by
    rw [← hqe]
    by_cases hl : q < s.size
    · rw [decide_eq_true (by omega), Bool.true_and] at h5
      rw [rowV_step hl, if_neg (by rw [h5]; simp)]
    · exact rowV_end (by omega)
  have hq := hqq
  obtain ⟨b, hb⟩ : ∃ b, s.extract p q = b := ⟨_, rfl⟩
  have hbs : b.size ≤ s.size := by rw [← hb]; exact ex_size s p q
  have ebv : s.extract ((p : Int)).toNat ((q : Int)).toNat = b := hb
  refine x.pure rfl ?_ rfl (ref_number_spec b (by omega)) ⟨ebv, trivial⟩ ?_
  · simp only [AllP]; omega
  rw [← num_eq b]
  refine x.pure rfl ?_ rfl (refword_spec b) ⟨ebv, trivial⟩ ?_
  · simp only [AllP]; omega
  have fin : ∀ k : Int, kindOf b = k → k ≠ 0 → oneN s a = (⟨k, p, q⟩, 0, 0) := fun k hk h0 => by
    rw [oneN_ok hp h2 h3 (by rw [hq, hb, hk]; exact h0), hq, hb, hk]
  refine x.cond rfl trivial (fun h5 => ?_) (fun h5 => ?_)
  · rw [fin 2 (kind_word h5) (by decide)]
    refine x.exit rfl trivial ?_
    exact ⟨.inr rfl, ⟨rfl, rfl, rfl, trivial⟩, trivial, rfl⟩
  refine x.pure rfl ?_ rfl (ref_name_spec b (by omega)) ⟨ebv, trivial⟩ ?_
  · simp only [AllP]; omega
  rw [← name_eq b]
  refine x.cond rfl trivial (fun h6 => ?_) (fun h6 => ?_)
  · rw [fin 1 (kind_name h5 h6) (by decide)]
    refine x.exit rfl trivial ?_
    exact ⟨.inr rfl, ⟨rfl, rfl, rfl, trivial⟩, trivial, rfl⟩
  refine x.cond rfl trivial (fun h7 => ?_) (fun h7 => ?_)
  · rw [fin 3 (kind_num h5 h6 h7) (by decide)]
    refine x.exit rfl trivial ?_
    exact ⟨.inr rfl, ⟨rfl, rfl, rfl, trivial⟩, trivial, rfl⟩
  · rw [oneN_bad hp h2 h3 (by rw [hq, hb]; exact kind_none h5 h6 h7)]
    refine x.exit rfl trivial ?_
    exact ⟨.inr rfl, ⟨rfl, rfl, rfl, trivial⟩, trivial, rfl⟩
end Go.Proofs.YtofanbmeemahgaaDoor

/- All tokens: the program's, and the answer's; the example. -/
namespace Go.Proofs.YtofanbmeemahgaaDoor
open Go.Sx
set_option linter.unusedVariables false
set_option linter.unusedSimpArgs false
set_option maxRecDepth 100000

def dToks (l : List Tok) : D := .sl 3 l.length fun i => dTok (l.getD i tok0)
abbrev tv (l : List Tok) : V := .d (dToks l)
abbrev tokC (l : List Tok) : Ch := .vec 25 3 l.length fun i => dTok (l.getD i tok0)
theorem app_tok (l : List Tok) (t : Tok) (j : Nat) (hj : j < l.length + 1) : app l.length (fun i => dTok (l.getD i tok0)) (fun _ => dTok t) j = dTok ((l ++ [t]).getD j tok0) := by
  unfold app
  by_cases h : j < l.length
  · show zipIte (j < l.length) (dTok (l.getD j tok0)) (dTok t) = _
    rw [List.getD_eq_getElem?_getD, List.getD_eq_getElem?_getD, List.getElem?_append_left h]
    simp only [dTok, zipIte, iteD_pos h]
    rw [if_pos h]
  · show zipIte (j < l.length) (dTok (l.getD j tok0)) (dTok t) = _
    have e : j = l.length := by omega
    rw [List.getD_eq_getElem?_getD (l := l ++ [t]), List.getElem?_append_right (by omega), e, Nat.sub_self]
    simp only [dTok, zipIte, iteD_neg (Nat.lt_irrefl _)]
    rw [if_neg (Nat.lt_irrefl _)]
    rfl
theorem kind_empty {b : ByteArray} (h : b.size = 0) : kindOf b = 0 := by
  have e : b.data.toList = [] := List.eq_nil_of_length_eq_zero (by rw [← size_list]; exact h)
  rw [ba_eq b, e]
  decide +kernel
theorem kind_piece {s : ByteArray} {p q : Nat} (h : kindOf (s.extract p q) ≠ 0) : p < q := by
  rcases Nat.lt_or_ge p q with h1 | h1
  · exact h1
  · exact absurd (kind_empty (by rw [ByteArray.size_extract]; omega)) h
theorem one_facts {s : ByteArray} {a : Nat} (ha : a ≤ s.size) : ((oneN s a).2.2 = 0 ∧ (a : Int) ≤ (oneN s a).1.f ∧ (oneN s a).1.f < (oneN s a).1.t ∧ (oneN s a).1.t ≤ s.size) ∨ (oneN s a).2.2 = 4 ∨ (oneN s a).2.2 = 6 := by
  obtain ⟨h1, h2, h3⟩ := skV_le s s.size false a (by omega) ha
  obtain ⟨p, hp⟩ : ∃ p, skV s false a = p := ⟨_, rfl⟩
  rw [hp] at h1 h2
  by_cases e : p = s.size
  · rw [oneN_none hp e]; exact .inr (.inl rfl)
  · cases hs : signB (bt s p) with
    | true =>
      rw [oneN_sign hp e hs]
      exact .inl ⟨rfl, by show (a : Int) ≤ p; omega, by show (p : Int) < p + 1; omega, by show (p : Int) + 1 ≤ s.size; omega⟩
    | false =>
      by_cases hk : kindOf (s.extract p (pieceEnd s p)) = 0
      · rw [oneN_bad hp e hs hk]; exact .inr (.inr rfl)
      · rw [oneN_ok hp e hs hk]
        have h4 := kind_piece hk
        have h5 := pieceEnd_le (s := s) (p := p) (by omega)
        exact .inl ⟨rfl, by show (a : Int) ≤ p; omega, by show (p : Int) < pieceEnd s p; omega, by show (pieceEnd s p : Int) ≤ s.size; omega⟩
def toksF (s : ByteArray) : Nat → Nat → List Tok → List Tok × Int × Int
  | 0, _, _ => ([], 0, 0)
  | n + 1, a, out => if (oneN s a).2.2 = 4 then (out, 0, 0) else if (oneN s a).2.2 = 0 then toksF s n (oneN s a).1.t.toNat (out ++ [(oneN s a).1]) else ([], (oneN s a).2.1, (oneN s a).2.2)
def allV (s : ByteArray) : List Tok × Int × Int :=
  if 65536 < s.size then ([], 0, 2)
  else if 0 ≤ badV s s.size 0 then ([], badV s s.size 0, 5)
  else toksF s (s.size + 1) 0 []
structure TI3 (s : ByteArray) where
  n : Nat
  a : Nat
  out : List Tok
  ha : a ≤ s.size
  fuel : s.size + 1 ≤ a + n
  len : out.length ≤ a
  same : toksF s n a out = toksF s (s.size + 1) 0 []
theorem clipT_spec (l : List Tok) (hl : l.length ≤ big) : Pure PG 30 [tv l] (tv l) [] := by
  refine Proc.mk (cfg 9) tysOK [] Tryd.func30 rfl (by kernel_rfl) rfl rfl rfl ?_
  intro C x
  unfold big at hl
  refine x.exit rfl ?_ ?_
  · simp only [AllP]; omega
  · exact ⟨.inr rfl, veq_d rfl, trivial, rfl⟩

theorem all_spec (s : ByteArray) (hs : s.size ≤ 4611686018427387904) : Pure PG 14 [vs s] (.tup [tv (allV s).1, vi (allV s).2.1, vi (allV s).2.2]) [] := by
  refine Proc.mk (cfg 40) tysOK [] Tryd.func14 rfl (by kernel_rfl) rfl rfl rfl ?_
  intro C x
  refine x.cond rfl trivial (fun h => ?_) (fun h => ?_)
  · have h : (65536 : Int) < s.size := of_decide_eq_true h
    rw [allV, if_pos (by omega)]
    refine x.exit rfl trivial ?_
    exact ⟨.inr rfl, ⟨rfl, rfl, rfl, trivial⟩, trivial, rfl⟩
  have h : ¬ (65536 : Int) < s.size := of_decide_eq_false h
  rw [allV, if_neg (by omega)]
  refine x.pure rfl trivial rfl (badW_spec s (by omega)) ⟨rfl, trivial⟩ ?_
  refine x.cond rfl trivial (fun h2 => ?_) (fun h2 => ?_)
  · have h2 : 0 ≤ badV s s.size 0 := of_decide_eq_true h2
    rw [if_pos h2]
    refine x.exit rfl trivial ?_
    exact ⟨.inr rfl, ⟨rfl, rfl, rfl, trivial⟩, trivial, rfl⟩
  have h2 : ¬ 0 ≤ badV s s.size 0 := of_decide_eq_false h2
  rw [if_neg h2]
  refine x.toLoop rfl trivial ?_
  refine Go.own 6 25 3 (fun j => dTok (([] : List Tok).getD j tok0)) rfl ?_
  refine x.loop (α := TI3 s) (fun y => ⟨[(0, vs s), (6, .own 0), (7, vi (y.a : Int))], [(0, tokC y.out)], 1⟩) (fun y => y.n) ⟨s.size + 1, 0, [], by omega, by omega, by simp, rfl⟩ rfl trivial ⟨⟨rfl, rfl, rfl, trivial⟩, ⟨⟨rfl, rfl, rfl, fun j hj => absurd hj (Nat.not_lt_zero _)⟩, trivial⟩, rfl⟩ (fun y => ?_)
  obtain ⟨n, a, out, hal, fuel, len, same⟩ := y
  change Go C _ ⟨[(0, vs s), (6, .own 0), (7, vi (a : Int))], [(0, tokC out)], 1⟩ _
  obtain ⟨n, rfl⟩ : ∃ m, n = m + 1 := ⟨n - 1, by omega⟩
  refine x.pure rfl trivial rfl (one_spec s (a : Int) hs) ⟨rfl, rfl, trivial⟩ ?_
  rw [show oneV s (a : Int) = oneN s a by rw [oneV, if_neg (by omega), Int.toNat_natCast]]
  have hf := one_facts hal
  rw [toksF] at same
  obtain ⟨⟨t, place, e⟩, hr⟩ : ∃ r, oneN s a = r := ⟨_, rfl⟩
  rw [hr] at hf same ⊢
  dsimp only at hf same
  refine x.cond rfl trivial (fun h3 => ?_) (fun h3 => ?_)
  · have h3 : e = 4 := of_decide_eq_true h3
    rw [if_pos h3] at same
    rw [← same]
    refine Sx.Go.freeze 0 ?_
    refine x.pure rfl trivial rfl (clipT_spec out (by unfold big; omega)) ⟨veq_d rfl, trivial⟩ ?_
    refine x.exit rfl trivial ?_
    exact ⟨.inr rfl, ⟨veq0_d rfl, rfl, rfl, trivial⟩, trivial, rfl⟩
  have h3 : e ≠ 4 := of_decide_eq_false h3
  rw [if_neg h3] at same
  refine x.cond rfl trivial (fun h4 => ?_) (fun h4 => ?_)
  · have h4 : (!decide (e = 0)) = true := h4
    have h4 : e ≠ 0 := by simpa using h4
    rw [if_neg h4] at same
    rw [← same]
    refine x.exit rfl trivial ?_
    exact ⟨.inr rfl, ⟨rfl, rfl, rfl, trivial⟩, trivial, rfl⟩
  have h4 : (!decide (e = 0)) = false := h4
  have h4 : e = 0 := by simpa using h4
  rw [if_pos h4] at same
  have hb : (a : Int) ≤ t.f ∧ t.f < t.t ∧ t.t ≤ s.size := by
    rcases hf with h | h | h
    · exact h.2
    · omega
    · omega
  refine x.back rfl ?_ ⟨⟨n, t.t.toNat, out ++ [t], by omega, by omega, by rw [List.length_append]; simp only [List.length_cons, List.length_nil]; omega, same⟩, by show n < n + 1; omega, ⟨rfl, rfl, ?_, trivial⟩, ⟨⟨rfl, rfl, ?_, fun j hj => app_tok out t j hj⟩, trivial⟩, rfl⟩
  · simp only [AllP, big]; omega
  · show t.t = ((t.t.toNat : Nat) : Int); omega
  · show out.length + 1 = (out ++ [t]).length; simp

theorem refall_spec (s : ByteArray) (hs : s.size ≤ 4611686018427387904) : Pure PG 15 [vs s] (.tup [tv (allV s).1, vi (allV s).2.1, vi (allV s).2.2]) [] := by
  refine Proc.mk (cfg 39) tysOK [] Tryd.func15 rfl (by kernel_rfl) rfl rfl rfl ?_
  intro C x
  refine x.cond rfl trivial (fun h => ?_) (fun h => ?_)
  · have h : (65536 : Int) < s.size := of_decide_eq_true h
    rw [allV, if_pos (by omega)]
    refine x.exit rfl trivial ?_
    exact ⟨.inr rfl, ⟨rfl, rfl, rfl, trivial⟩, trivial, rfl⟩
  have h : ¬ (65536 : Int) < s.size := of_decide_eq_false h
  rw [allV, if_neg (by omega)]
  refine x.pure rfl trivial rfl (bad_spec s (by omega)) ⟨rfl, trivial⟩ ?_
  refine x.cond rfl trivial (fun h2 => ?_) (fun h2 => ?_)
  · have h2 : 0 ≤ badV s s.size 0 := of_decide_eq_true h2
    rw [if_pos h2]
    refine x.exit rfl trivial ?_
    exact ⟨.inr rfl, ⟨rfl, rfl, rfl, trivial⟩, trivial, rfl⟩
  have h2 : ¬ 0 ≤ badV s s.size 0 := of_decide_eq_false h2
  rw [if_neg h2]
  refine x.toLoop rfl trivial ?_
  refine Go.own 6 25 3 (fun j => dTok (([] : List Tok).getD j tok0)) rfl ?_
  refine x.loop (α := TI3 s) (fun y => ⟨[(0, vs s), (6, .own 0), (7, vi (y.a : Int))], [(0, tokC y.out)], 1⟩) (fun y => y.n) ⟨s.size + 1, 0, [], by omega, by omega, by simp, rfl⟩ rfl trivial ⟨⟨rfl, rfl, rfl, trivial⟩, ⟨⟨rfl, rfl, rfl, fun j hj => absurd hj (Nat.not_lt_zero _)⟩, trivial⟩, rfl⟩ (fun y => ?_)
  obtain ⟨n, a, out, hal, fuel, len, same⟩ := y
  change Go C _ ⟨[(0, vs s), (6, .own 0), (7, vi (a : Int))], [(0, tokC out)], 1⟩ _
  obtain ⟨n, rfl⟩ : ∃ m, n = m + 1 := ⟨n - 1, by omega⟩
  refine x.pure rfl trivial rfl (refone_spec s (a : Int) hs) ⟨rfl, rfl, trivial⟩ ?_
  rw [show oneV s (a : Int) = oneN s a by rw [oneV, if_neg (by omega), Int.toNat_natCast]]
  have hf := one_facts hal
  rw [toksF] at same
  obtain ⟨⟨t, place, e⟩, hr⟩ : ∃ r, oneN s a = r := ⟨_, rfl⟩
  rw [hr] at hf same ⊢
  dsimp only at hf same
  refine x.cond rfl trivial (fun h3 => ?_) (fun h3 => ?_)
  · have h3 : e = 4 := of_decide_eq_true h3
    rw [if_pos h3] at same
    rw [← same]
    refine Sx.Go.freeze 0 ?_
    refine x.exit rfl trivial ?_
    exact ⟨.inr rfl, ⟨veq0_d rfl, rfl, rfl, trivial⟩, trivial, rfl⟩
  have h3 : e ≠ 4 := of_decide_eq_false h3
  rw [if_neg h3] at same
  refine x.cond rfl trivial (fun h4 => ?_) (fun h4 => ?_)
  · have h4 : (!decide (e = 0)) = true := h4
    have h4 : e ≠ 0 := by simpa using h4
    rw [if_neg h4] at same
    rw [← same]
    refine x.exit rfl trivial ?_
    exact ⟨.inr rfl, ⟨rfl, rfl, rfl, trivial⟩, trivial, rfl⟩
  have h4 : (!decide (e = 0)) = false := h4
  have h4 : e = 0 := by simpa using h4
  rw [if_pos h4] at same
  have hb : (a : Int) ≤ t.f ∧ t.f < t.t ∧ t.t ≤ s.size := by
    rcases hf with h | h | h
    · exact h.2
    · omega
    · omega
  refine x.back rfl ?_ ⟨⟨n, t.t.toNat, out ++ [t], by omega, by omega, by rw [List.length_append]; simp only [List.length_cons, List.length_nil]; omega, same⟩, by show n < n + 1; omega, ⟨rfl, rfl, ?_, trivial⟩, ⟨⟨rfl, rfl, ?_, fun j hj => app_tok out t j hj⟩, trivial⟩, rfl⟩
  · simp only [AllP, big]; omega
  · show t.t = ((t.t.toNat : Nat) : Int); omega
  · show out.length + 1 = (out ++ [t]).length; simp

theorem tok_dec (a b : Tok) : (decide (a.k = b.k) && (decide (a.f = b.f) && (decide (a.t = b.t) && true))) = decide (a = b) := by
  rw [Bool.eq_iff_iff]
  simp only [Bool.and_eq_true, decide_eq_true_eq, and_true]
  constructor
  · rintro ⟨h1, h2, h3⟩; cases a; cases b; simp_all
  · rintro rfl; exact ⟨rfl, rfl, rfl⟩
theorem toks_at {l : List Tok} {j : Nat} (h : j < l.length) : l[j] = l.getD j tok0 := by
  rw [List.getD_eq_getElem?_getD, List.getElem?_eq_getElem h]; rfl
theorem sameT_spec (l m : List Tok) (hl : l.length ≤ 9223372036854775807) (hm : m.length ≤ 9223372036854775807) : Pure PG 16 [tv l, tv m] (vb (decide (l = m))) [] := by
  refine Proc.mk (cfg 26) tysOK [] Tryd.func16 rfl (by kernel_rfl) rfl rfl rfl ?_
  intro C x
  refine x.cond rfl trivial (fun h => ?_) (fun h => ?_)
  · have h : (!decide ((l.length : Int) = (m.length : Int))) = true := h
    have h : ¬ (l.length : Int) = (m.length : Int) := by simpa using h
    refine x.exit rfl trivial ?_
    refine ⟨.inr rfl, ?_, trivial, rfl⟩
    show false = decide (l = m)
    rw [eq_comm, decide_eq_false_iff_not]
    intro e; rw [e] at h; exact h rfl
  have h : (!decide ((l.length : Int) = (m.length : Int))) = false := h
  have h : l.length = m.length := by
    have h : (l.length : Int) = (m.length : Int) := by simpa using h
    omega
  refine x.loop (α := { i : Nat // i ≤ l.length ∧ ∀ j, j < i → l.getD j tok0 = m.getD j tok0 }) (fun y => ⟨[(0, tv l), (1, tv m), (5, vi (y.1 : Int))], [], 0⟩) (fun y => l.length - y.1) ⟨0, by omega, fun j hj => by omega⟩ rfl trivial ⟨⟨veq_d rfl, veq_d rfl, rfl, trivial⟩, trivial, rfl⟩ (fun y => ?_)
  obtain ⟨i, hi, hup⟩ := y
  change Go C _ ⟨[(0, tv l), (1, tv m), (5, vi (i : Int))], [], 0⟩ _
  refine x.cond rfl trivial (fun h1 => ?_) (fun h1 => ?_)
  · have h1 : i < l.length := by have := of_decide_eq_true h1; omega
    refine x.plan [0, 1, 4, 5] [2, 3, 6, 7] [8] rfl trivial mixedP (by kernel_rfl) Ret.noPanic ?_
    refine x.qdone rfl ?_ ?_
    · simp only [AllP]; omega
    refine x.cond rfl trivial (fun h2 => ?_) (fun h2 => ?_)
    · have h2 : (!(decide ((l.getD i tok0).k = (m.getD i tok0).k) && (decide ((l.getD i tok0).f = (m.getD i tok0).f) && (decide ((l.getD i tok0).t = (m.getD i tok0).t) && true)))) = true := h2
      rw [tok_dec] at h2
      have h2 : l.getD i tok0 ≠ m.getD i tok0 := by simpa using h2
      refine x.exit rfl trivial ?_
      refine ⟨.inr rfl, ?_, trivial, rfl⟩
      show false = decide (l = m)
      rw [eq_comm, decide_eq_false_iff_not]
      intro e; rw [e] at h2; exact h2 rfl
    · have h2 : (!(decide ((l.getD i tok0).k = (m.getD i tok0).k) && (decide ((l.getD i tok0).f = (m.getD i tok0).f) && (decide ((l.getD i tok0).t = (m.getD i tok0).t) && true)))) = false := h2
      rw [tok_dec] at h2
      have h2 : l.getD i tok0 = m.getD i tok0 := by simpa using h2
      refine x.back rfl (show inI64 _ by unfold inI64; omega) ⟨⟨i + 1, by omega, fun j hj => ?_⟩, by show l.length - (i + 1) < l.length - i; omega, ⟨veq_d rfl, veq_d rfl, rfl, trivial⟩, trivial, rfl⟩
      by_cases e : j = i
      · rw [e]; exact h2
      · exact hup j (by omega)
  · have h1 : i = l.length := by have := of_decide_eq_false h1; omega
    refine x.exit rfl trivial ?_
    refine ⟨.inr rfl, ?_, trivial, rfl⟩
    show true = decide (l = m)
    rw [eq_comm, decide_eq_true_eq]
    refine List.ext_getElem h fun j h3 h4 => ?_
    rw [toks_at h3, toks_at h4]
    exact hup j (by omega)
theorem toks_len (s : ByteArray) : ∀ (n a : Nat) (out : List Tok), a ≤ s.size → out.length ≤ a → (toksF s n a out).1.length ≤ s.size
  | 0, a, out, _, _ => by simp [toksF]
  | n + 1, a, out, ha, hl => by
    rw [toksF]
    split
    · show out.length ≤ s.size; omega
    · split
      · rename_i h0
        have hf := one_facts ha
        have hb : (a : Int) ≤ (oneN s a).1.f ∧ (oneN s a).1.f < (oneN s a).1.t ∧ (oneN s a).1.t ≤ s.size := by
          rcases hf with h | h | h
          · exact h.2
          · omega
          · omega
        exact toks_len s n _ _ (by omega) (by rw [List.length_append]; simp only [List.length_cons, List.length_nil]; omega)
      · simp
theorem all_len (s : ByteArray) : (allV s).1.length ≤ s.size := by
  unfold allV
  split
  · simp
  · split
    · simp
    · exact toks_len s _ 0 [] (by omega) (by simp)
def exA : ByteArray := ⟨#[120, 32, 61, 32, 97, 100, 100, 32, 97, 32, 45, 55, 32, 35, 32, 115, 117, 109]⟩
def exB : ByteArray := ⟨#[97, 45, 98]⟩
theorem exA_all : (allV exA).2.2 = 0 ∧ (allV exA).1.length = 5 ∧ ((allV exA).1.getD 2 tok0).k = 2 ∧ ((allV exA).1.getD 4 tok0).k = 3 := by decide +kernel
theorem exB_all : (allV exB).2.2 = 6 ∧ (allV exB).2.1 = 1 := by decide +kernel
theorem awake3_spec : Pure PG 11 [] (vb true) [] := by
  refine Proc.mk (cfg 49) tysOK [] Tryd.func11 rfl (by kernel_rfl) rfl rfl rfl ?_
  intro C x
  refine x.pure rfl trivial rfl (all_spec exA (by decide)) ⟨rfl, trivial⟩ ?_
  refine x.pure rfl trivial rfl (all_spec exB (by decide)) ⟨rfl, trivial⟩ ?_
  have hA := exA_all
  have hB := exB_all
  obtain ⟨A, hA0⟩ : ∃ A, allV exA = A := ⟨_, rfl⟩
  obtain ⟨B, hB0⟩ : ∃ B, allV exB = B := ⟨_, rfl⟩
  rw [hA0] at hA ⊢
  rw [hB0] at hB ⊢
  refine x.pureG rfl ?_ rfl (fun _ => word_spec ⟨#[112, 104, 105]⟩) rfl ⟨rfl, trivial⟩ ?_
  · simp only [AllP, hA.2.1]
    exact ⟨fun _ => by omega, fun _ => by omega⟩
  refine x.exit rfl trivial ?_
  refine ⟨.inr rfl, ?_, trivial, rfl⟩
  show ((((((decide (A.2.2 = 0) && decide ((A.1.length : Int) = 5)) && decide ((A.1.getD 2 tok0).k = 2)) && decide ((A.1.getD 4 tok0).k = 3)) && decide (B.2.2 = 6)) && decide (B.2.1 = 1)) && wordB ⟨#[112, 104, 105]⟩) = true
  rw [hA.1, hA.2.1, hA.2.2.1, hA.2.2.2, hB.1, hB.2]
  decide +kernel
end Go.Proofs.YtofanbmeemahgaaDoor

/- The laws TokenWords, TokenOnes, TokenAlls. -/
namespace Go.Proofs.YtofanbmeemahgaaDoor
open Go.Sx
set_option linter.unusedVariables false
set_option linter.unusedSimpArgs false
set_option maxRecDepth 100000

theorem tokenWords_spec (s : ByteArray) : Pure PG 3 [vs s] (vb true) [] := by
  refine Proc.mk (cfg 11) tysOK [] Tryd.func3 rfl (by kernel_rfl) rfl rfl rfl ?_
  intro C x
  refine x.pure rfl trivial rfl (word_spec s) ⟨rfl, trivial⟩ ?_
  refine x.pure rfl trivial rfl (refword_spec s) ⟨rfl, trivial⟩ ?_
  refine x.pureG rfl trivial rfl (fun _ => awake3_spec) rfl trivial ?_
  refine x.exit rfl trivial ?_
  refine ⟨.inr rfl, ?_, trivial, rfl⟩
  show ((wordB s == wordB s) && true) = true
  simp
theorem tokenOnes_spec (s : ByteArray) (a : Int) : Pure PG 4 [vs s, vi a] (vb true) [] := by
  refine Proc.mk (cfg 44) tysOK [] Tryd.func4 rfl (by kernel_rfl) rfl rfl rfl ?_
  intro C x
  refine x.cond rfl trivial (fun h => ?_) (fun h => ?_)
  · refine x.exit rfl trivial ?_
    exact ⟨.inr rfl, rfl, trivial, rfl⟩
  have hs : s.size ≤ 4611686018427387904 := by have := of_decide_eq_false h; omega
  refine x.pure rfl trivial rfl (one_spec s a hs) ⟨rfl, rfl, trivial⟩ ?_
  refine x.pure rfl trivial rfl (refone_spec s a hs) ⟨rfl, rfl, trivial⟩ ?_
  obtain ⟨⟨t, place, e⟩, hr⟩ : ∃ r, oneV s a = r := ⟨_, rfl⟩
  rw [hr]
  refine x.pureG rfl trivial rfl (fun _ => awake3_spec) rfl trivial ?_
  refine x.exit rfl trivial ?_
  refine ⟨.inr rfl, ?_, trivial, rfl⟩
  show ((((decide (t.k = t.k) && (decide (t.f = t.f) && (decide (t.t = t.t) && true))) && decide (place = place)) && decide (e = e)) && true) = true
  simp
theorem tokenAlls_spec (s : ByteArray) (hs : s.size ≤ 4611686018427387904) : Pure PG 5 [vs s] (vb true) [] := by
  refine Proc.mk (cfg 37) tysOK [] Tryd.func5 rfl (by kernel_rfl) rfl rfl rfl ?_
  intro C x
  have hl := all_len s
  refine x.pure rfl trivial rfl (all_spec s hs) ⟨rfl, trivial⟩ ?_
  refine x.pure rfl trivial rfl (refall_spec s hs) ⟨rfl, trivial⟩ ?_
  obtain ⟨⟨l, place, e⟩, hr⟩ : ∃ r, allV s = r := ⟨_, rfl⟩
  rw [hr] at hl ⊢
  refine x.pureG rfl trivial rfl (fun _ => sameT_spec l l (by dsimp only at hl; omega) (by dsimp only at hl; omega)) rfl ⟨veq_d rfl, veq_d rfl, trivial⟩ ?_
  refine x.pureG rfl trivial rfl (fun _ => awake3_spec) rfl trivial ?_
  refine x.exit rfl trivial ?_
  refine ⟨.inr rfl, ?_, trivial, rfl⟩
  show (((decide (e = e) && decide (place = place)) && decide (l = l)) && true) = true
  simp
end Go.Proofs.YtofanbmeemahgaaDoor

/- Tokens of a text that goes on, or that begins further on. -/
namespace Go.Proofs.YtofanbmeemahgaaDoor
open Go.Sx
set_option linter.unusedVariables false
set_option linter.unusedSimpArgs false
set_option maxRecDepth 100000

theorem dec_ext {sz sz' p a b c d b' c' d' : Nat} (hp : p < sz) (hz : sz < sz') (hb : p + 1 < sz → b' = b) (hc : p + 2 < sz → c' = c) (hd : p + 3 < sz → d' = d) (hb2 : p + 1 = sz → b' = 10) (hc2 : p + 2 = sz → c' = 10) (hd2 : p + 3 = sz → d' = 10) : dec sz' p a b' c' d' = dec sz p a b c d := by
  by_cases h1 : p + 1 < sz
  · have eb := hb h1
    subst eb
    by_cases h2 : p + 2 < sz
    · have ec := hc h2
      subst ec
      by_cases h3 : p + 3 < sz
      · have ed := hd h3
        subst ed
        unfold dec
        simp only [h1, h2, h3, show p + 1 < sz' by omega, show p + 2 < sz' by omega, show p + 3 < sz' by omega]
      · have ed := hd2 (by omega)
        subst ed
        unfold dec
        simp only [h1, h2, h3, show p + 1 < sz' by omega, show p + 2 < sz' by omega, show ¬ (10 / 64 = 2) by decide, and_false, false_and, if_false]
    · have ec := hc2 (by omega)
      subst ec
      unfold dec
      simp only [h1, h2, show p + 1 < sz' by omega, show ¬ (10 / 64 = 2) by decide, and_false, false_and, if_false]
  · have eb := hb2 (by omega)
    subst eb
    unfold dec
    simp only [h1, show ¬ (10 / 64 = 2) by decide, and_false, false_and, if_false]
theorem bt_end {s x : ByteArray} (h10 : bt x 0 = 10) : bt (s ++ x) s.size = 10 := by have := bt_right s x 0; rw [Nat.add_zero] at this; rw [this, h10]
section
variable {s x : ByteArray} (hx : 0 < x.size) (h10 : bt x 0 = 10)
include hx h10
theorem decode_ext {p : Nat} (hp : p < s.size) : Utf8.decode (s ++ x) p = Utf8.decode s p := by
  have he := bt_end (s := s) h10
  rw [decode_eq, decode_eq, bt_left hp]
  refine dec_ext hp (by rw [app_size]; omega) (fun h => bt_left h) (fun h => bt_left h) (fun h => bt_left h) (fun h => by rw [h]; exact he) (fun h => by rw [h]; exact he) (fun h => by rw [h]; exact he)
theorem skV_ext : ∀ (n : Nat) (rm : Bool) (p : Nat), s.size ≤ p + n → p ≤ s.size → (skV s rm p < s.size → skV (s ++ x) rm p = skV s rm p) ∧ (skV s rm p = s.size → skV (s ++ x) rm p = skV (s ++ x) false (s.size + 1))
  | n, rm, p, h, hp => by
    have hz : s.size < (s ++ x).size := by rw [app_size]; omega
    by_cases hl : p < s.size
    · match n with
      | 0 => omega
      | n + 1 =>
        have eb : bt (s ++ x) p = bt s p := bt_left hl
        rw [skV_step hl, skV_step (by omega : p < (s ++ x).size), eb]
        cases hs : stopB (nextR (bt s p) rm) (bt s p) with
        | true => exact ⟨fun _ => rfl, fun e => by simp at e; omega⟩
        | false =>
          simp only [Bool.false_eq_true, if_false]
          exact skV_ext n _ _ (by omega) (by omega)
    · have e : p = s.size := by omega
      subst e
      rw [skV_end (Nat.le_refl _)]
      refine ⟨fun h => by omega, fun _ => ?_⟩
      have eb := bt_end (s := s) h10
      rw [skV_step hz, eb]
      rfl
omit hx in
theorem plain_end : plainB (s ++ x) s.size = false := by
  have eb := bt_end (s := s) h10
  unfold plainB
  rw [decode_ascii (by omega), eb]
  decide
theorem rowV_ext : ∀ (n p : Nat), s.size ≤ p + n → p ≤ s.size → rowV (s ++ x) p = rowV s p
  | n, p, h, hp => by
    have hz : s.size < (s ++ x).size := by rw [app_size]; omega
    by_cases hl : p < s.size
    · match n with
      | 0 => omega
      | n + 1 =>
        have ed := decode_ext hx h10 hl
        have hr := decode_room hl
        have h1 := (decode_pos s p).1
        rw [rowV_step hl, rowV_step (by omega : p < (s ++ x).size), plainB, plainB, ed]
        split
        · exact rowV_ext n _ (by omega) hr
        · rfl
    · have e : p = s.size := by omega
      subst e
      rw [rowV_end (Nat.le_refl _), rowV_step hz, plain_end h10]
      rfl
theorem digAt_ext {p : Nat} (hp : p ≤ s.size) : digAt (s ++ x) p = digAt s p := by
  have hz : s.size < (s ++ x).size := by rw [app_size]; omega
  unfold digAt
  by_cases hl : p < s.size
  · rw [bt_left hl, decide_eq_true hl, decide_eq_true (by omega : p < (s ++ x).size)]
  · have e : p = s.size := by omega
    subst e
    rw [bt_end h10, decide_eq_false (by omega : ¬ s.size < s.size)]
    simp
theorem pieceEnd_ext {p : Nat} (hp : p < s.size) : pieceEnd (s ++ x) p = pieceEnd s p := by
  unfold pieceEnd
  rw [bt_left hp, digAt_ext hx h10 (by omega), rowV_ext hx h10 s.size (p + 1) (by omega) (by omega), rowV_ext hx h10 s.size p (by omega) (by omega)]
end
theorem ex_data (s : ByteArray) (p q : Nat) : (s.extract p q).data.toList = (s.data.toList.drop p).take (q - p) := by
  rw [ByteArray.data_extract, Array.toList_extract, List.extract_eq_take_drop]
theorem ba_inj {a b : ByteArray} (h : a.data.toList = b.data.toList) : a = b := by rw [ba_eq a, ba_eq b, h]
theorem ex_left (s x : ByteArray) {p q : Nat} (hq : q ≤ s.size) : (s ++ x).extract p q = s.extract p q := by
  refine ba_inj ?_
  rw [size_list] at hq
  rw [ex_data, ex_data, app_data]
  by_cases hp : p ≤ s.data.toList.length
  · rw [List.drop_append_of_le_length hp, List.take_append_of_le_length (by rw [List.length_drop]; omega)]
  · rw [show q - p = 0 by omega]; simp
theorem ex_right (c y : ByteArray) (p q : Nat) : (c ++ y).extract (c.size + p) (c.size + q) = y.extract p q := by
  refine ba_inj ?_
  rw [ex_data, ex_data, app_data, size_list c, show c.data.toList.length + q - (c.data.toList.length + p) = q - p by omega, ← List.drop_drop, List.drop_left]
theorem oneN_ext {s x : ByteArray} (hx : 0 < x.size) (h10 : bt x 0 = 10) {a : Nat} (ha : a ≤ s.size) : (skV s false a < s.size → oneN (s ++ x) a = oneN s a) ∧ (skV s false a = s.size → oneN (s ++ x) a = oneN (s ++ x) (s.size + 1)) := by
  obtain ⟨e1, e2⟩ := skV_ext hx h10 s.size false a (by omega) ha
  have hz : s.size < (s ++ x).size := by rw [app_size]; omega
  refine ⟨fun h => ?_, fun h => ?_⟩
  · have e := e1 h
    obtain ⟨p, hp⟩ : ∃ p, skV s false a = p := ⟨_, rfl⟩
    rw [hp] at h e
    have hpe := pieceEnd_le h
    unfold oneN
    rw [e, hp, if_neg (show ¬ p = (s ++ x).size by omega), if_neg (show ¬ p = s.size by omega), bt_left h, pieceEnd_ext hx h10 h, ex_left s x hpe.2]
  · unfold oneN
    rw [e2 h]
/-! ### further on -/
theorem skV_shift (c y : ByteArray) : ∀ (n : Nat) (rm : Bool) (q : Nat), y.size ≤ q + n → skV (c ++ y) rm (c.size + q) = c.size + skV y rm q
  | n, rm, q, h => by
    by_cases hl : q < y.size
    · match n with
      | 0 => omega
      | n + 1 =>
        rw [skV_step hl, skV_step (by rw [app_size]; omega), bt_right]
        split
        · rfl
        · exact skV_shift c y n _ (q + 1) (by omega)
    · rw [skV_end (by rw [app_size]; omega), skV_end (by omega)]
theorem rowV_shift (c y : ByteArray) : ∀ (n q : Nat), y.size ≤ q + n → rowV (c ++ y) (c.size + q) = c.size + rowV y q
  | n, q, h => by
    by_cases hl : q < y.size
    · match n with
      | 0 => omega
      | n + 1 =>
        have h1 := (decode_pos y q).1
        rw [rowV_step hl, rowV_step (by rw [app_size]; omega), plainB, plainB, decode_right]
        split
        · rw [Nat.add_assoc]; exact rowV_shift c y n _ (by omega)
        · rfl
    · rw [rowV_end (by rw [app_size]; omega), rowV_end (by omega)]
theorem pieceEnd_shift (c y : ByteArray) (q : Nat) : pieceEnd (c ++ y) (c.size + q) = c.size + pieceEnd y q := by
  have ed : digAt (c ++ y) (c.size + q + 1) = digAt y (q + 1) := by
    unfold digAt
    rw [Nat.add_assoc, bt_right, app_size]
    congr 1
    rw [Bool.eq_iff_iff, decide_eq_true_eq, decide_eq_true_eq]; omega
  unfold pieceEnd
  rw [bt_right, ed, Nat.add_assoc, rowV_shift c y y.size (q + 1) (by omega), rowV_shift c y y.size q (by omega)]
  split <;> rfl
def shT (k : Nat) (t : Tok) : Tok := ⟨t.k, t.f + k, t.t + k⟩
def shE (k : Nat) (r : Tok × Int × Int) : Tok × Int × Int := if r.2.2 = 0 then (shT k r.1, r.2) else (r.1, r.2.1 + k, r.2.2)
theorem oneN_shift (c y : ByteArray) (q : Nat) (hq : q ≤ y.size) : oneN (c ++ y) (c.size + q) = shE c.size (oneN y q) := by
  have hs := skV_shift c y y.size false q (by omega)
  have hle := skV_le y y.size false q (by omega) hq
  obtain ⟨p, hp⟩ : ∃ p, skV y false q = p := ⟨_, rfl⟩
  rw [hp] at hs hle
  by_cases e : p = y.size
  · rw [oneN_none hp e, oneN_none hs (by rw [app_size]; omega), app_size]
    unfold shE
    rw [if_neg (show ¬ ((4 : Int) = 0) by decide)]
    refine Prod.ext rfl (Prod.ext ?_ rfl)
    show ((c.size + y.size : Nat) : Int) = (y.size : Int) + c.size; omega
  · have e2 : c.size + p ≠ (c ++ y).size := by rw [app_size]; omega
    cases hb : signB (bt y p) with
    | true =>
      rw [oneN_sign hp e hb, oneN_sign hs e2 (by rw [bt_right]; exact hb)]
      unfold shE shT
      rw [if_pos rfl]
      refine Prod.ext ?_ rfl
      show (⟨4, ((c.size + p : Nat) : Int), ((c.size + p : Nat) : Int) + 1⟩ : Tok) = ⟨4, (p : Int) + c.size, (p : Int) + 1 + c.size⟩
      congr 1 <;> omega
    | false =>
      have hpe := pieceEnd_shift c y p
      have hex := ex_right c y p (pieceEnd y p)
      by_cases hk : kindOf (y.extract p (pieceEnd y p)) = 0
      · rw [oneN_bad hp e hb hk, oneN_bad hs e2 (by rw [bt_right]; exact hb) (by rw [hpe, hex]; exact hk)]
        unfold shE
        rw [if_neg (show ¬ ((6 : Int) = 0) by decide)]
        refine Prod.ext rfl (Prod.ext ?_ rfl)
        show ((c.size + p : Nat) : Int) = (p : Int) + c.size; omega
      · rw [oneN_ok hp e hb hk, oneN_ok hs e2 (by rw [bt_right]; exact hb) (by rw [hpe, hex]; exact hk), hpe, hex]
        unfold shE shT
        rw [if_pos rfl]
        refine Prod.ext ?_ rfl
        show (⟨_, ((c.size + p : Nat) : Int), ((c.size + pieceEnd y p : Nat) : Int)⟩ : Tok) = ⟨_, (p : Int) + c.size, (pieceEnd y p : Int) + c.size⟩
        congr 1 <;> omega
/-! ### where bytes are no text -/
theorem form_go {s : ByteArray} {p : Nat} (h : p < s.size) : (formV s (p : Int)).2 ≠ 0 → (p : Int) + (formV s (p : Int)).2 = ((p + (Utf8.decode s p).2 : Nat) : Int) := fun hne => by
  have := nextV_at h
  unfold nextV at this
  rwa [if_neg hne] at this
theorem form_congr {s y : ByteArray} {p q : Nat} (hp : p < s.size) (hq : q < y.size) (hd : Utf8.decode s p = Utf8.decode y q) : (formV s (p : Int)).2 = 0 ↔ (formV y (q : Int)).2 = 0 := by
  rw [form_zero hp, form_zero hq, hd]
theorem badV_fuel (s : ByteArray) : ∀ (n m p : Nat), s.size ≤ p + n → s.size ≤ p + m → badV s n (p : Int) = badV s m (p : Int)
  | 0, m, p, h, _ => by rw [badV_end (by omega), badV_end (by omega)]
  | n + 1, 0, p, _, h => by rw [badV_end (by omega), badV_end (by omega)]
  | n + 1, m + 1, p, h1, h2 => by
    rw [badV, badV]
    split
    · rename_i hl
      have hl : p < s.size := by omega
      split
      · rfl
      · rename_i h0
        rw [form_go hl h0]
        have := (decode_pos s p).1
        exact badV_fuel s n m _ (by omega) (by omega)
    · rfl
theorem badV_ge (s : ByteArray) : ∀ (n p : Nat), badV s n (p : Int) = -1 ∨ (p : Int) ≤ badV s n (p : Int) ∧ badV s n (p : Int) < s.size
  | 0, p => .inl rfl
  | n + 1, p => by
    rw [badV]
    split
    · rename_i hl
      have hl : p < s.size := by omega
      split
      · exact .inr ⟨Int.le_refl _, by omega⟩
      · rename_i h0
        rw [form_go hl h0]
        rcases badV_ge s n (p + (Utf8.decode s p).2) with h | h
        · exact .inl h
        · exact .inr ⟨by omega, h.2⟩
    · exact .inl rfl
theorem badV_ext {s x : ByteArray} (hx : 0 < x.size) (h10 : bt x 0 = 10) : ∀ (n p : Nat), s.size ≤ p + n → p ≤ s.size →
    badV (s ++ x) (s ++ x).size (p : Int) = if badV s s.size (p : Int) = -1 then badV (s ++ x) (s ++ x).size (s.size : Int) else badV s s.size (p : Int)
  | n, p, h, hp => by
    have hz : s.size < (s ++ x).size := by rw [app_size]; omega
    by_cases hl : p < s.size
    · match n with
      | 0 => omega
      | n + 1 =>
        have ed := decode_ext hx h10 hl
        have hc := form_congr (by omega : p < (s ++ x).size) hl ed
        have hr := decode_room hl
        have h1 := (decode_pos s p).1
        have e1 := badV_fuel s s.size (s.size - 1 + 1) p (by omega) (by omega)
        have e2 := badV_fuel (s ++ x) (s ++ x).size ((s ++ x).size - 1 + 1) p (by omega) (by omega)
        rw [badV, if_pos (by omega)] at e1 e2
        rw [e1, e2]
        by_cases h0 : (formV s (p : Int)).2 = 0
        · rw [if_pos h0, if_pos (hc.2 h0), if_neg (by omega)]
        · have h0' : (formV (s ++ x) (p : Int)).2 ≠ 0 := fun e => h0 (hc.1 e)
          rw [if_neg h0, if_neg h0', form_go hl h0, form_go (by omega) h0', ed]
          rw [badV_fuel s (s.size - 1) s.size _ (by omega) (by omega), badV_fuel (s ++ x) ((s ++ x).size - 1) (s ++ x).size _ (by omega) (by omega)]
          exact badV_ext hx h10 n _ (by omega) hr
    · have e : p = s.size := by omega
      subst e
      rw [badV_end (s := s) (by omega), if_pos rfl]
theorem badV_shift (c y : ByteArray) : ∀ (n q : Nat), y.size ≤ q + n → badV (c ++ y) (c ++ y).size ((c.size + q : Nat) : Int) = if badV y y.size (q : Int) = -1 then -1 else badV y y.size (q : Int) + c.size
  | n, q, h => by
    by_cases hl : q < y.size
    · match n with
      | 0 => omega
      | n + 1 =>
        have hl2 : c.size + q < (c ++ y).size := by rw [app_size]; omega
        have ed := decode_right c y q
        have hc := form_congr hl2 hl ed
        have h1 := (decode_pos y q).1
        have e1 := badV_fuel y y.size (y.size - 1 + 1) q (by omega) (by omega)
        have e2 := badV_fuel (c ++ y) (c ++ y).size ((c ++ y).size - 1 + 1) (c.size + q) (by omega) (by omega)
        rw [badV, if_pos (by omega)] at e1 e2
        rw [e1, e2]
        by_cases h0 : (formV y (q : Int)).2 = 0
        · rw [if_pos h0, if_pos (hc.2 h0), if_neg (by omega)]; omega
        · have h0' : (formV (c ++ y) ((c.size + q : Nat) : Int)).2 ≠ 0 := fun e => h0 (hc.1 e)
          rw [if_neg h0, if_neg h0', form_go hl h0, form_go hl2 h0', ed, Nat.add_assoc]
          rw [badV_fuel y (y.size - 1) y.size _ (by omega) (by omega), badV_fuel (c ++ y) ((c ++ y).size - 1) (c ++ y).size _ (by rw [app_size]; omega) (by rw [app_size]; omega)]
          exact badV_shift c y n _ (by omega)
    · rw [badV_end (by rw [app_size]; omega), badV_end (by omega), if_pos rfl]
end Go.Proofs.YtofanbmeemahgaaDoor

/- All tokens, one behind the other; the laws TokenJoins, TokenRemarks. -/
namespace Go.Proofs.YtofanbmeemahgaaDoor
open Go.Sx
set_option linter.unusedVariables false
set_option linter.unusedSimpArgs false
set_option maxRecDepth 100000

/-- From a on stand the tokens l, and then there is none, for the reason r. -/
def Run (s : ByteArray) : Nat → List Tok → Int × Int → Prop
  | a, [], r => (oneN s a).2 = r ∧ r.2 ≠ 0
  | a, t :: l, r => oneN s a = (t, 0, 0) ∧ (a : Int) ≤ t.f ∧ t.f < t.t ∧ t.t ≤ s.size ∧ Run s t.t.toNat l r
theorem one_zero {s : ByteArray} {a : Nat} (h : (oneN s a).2.2 = 0) : (oneN s a).2.1 = 0 := by
  unfold oneN at h ⊢
  split
  · rename_i e; rw [if_pos e] at h; exact absurd h (show ¬ ((4 : Int) = 0) by decide)
  · rename_i e
    rw [if_neg e] at h
    split
    · rfl
    · rename_i e2
      rw [if_neg e2] at h
      split
      · rename_i e3; rw [if_pos e3] at h; exact absurd h (show ¬ ((6 : Int) = 0) by decide)
      · rfl
theorem run_ex (s : ByteArray) : ∀ (n a : Nat), s.size ≤ a + n → a ≤ s.size → ∃ l r, Run s a l r
  | n, a, h, ha => by
    rcases one_facts ha with ⟨h0, h1, h2, h3⟩ | h4 | h6
    · match n with
      | 0 => omega
      | n + 1 =>
        obtain ⟨l, r, hr⟩ := run_ex s n (oneN s a).1.t.toNat (by omega) (by omega)
        exact ⟨(oneN s a).1 :: l, r, Prod.ext rfl (Prod.ext (one_zero h0) h0), h1, h2, h3, hr⟩
    · exact ⟨[], _, rfl, by omega⟩
    · exact ⟨[], _, rfl, by omega⟩
theorem run_toks {s : ByteArray} : ∀ {l : List Tok} {a n : Nat} {r : Int × Int} (out : List Tok), Run s a l r → s.size + 1 ≤ a + n → a ≤ s.size → toksF s n a out = if r.2 = 4 then (out ++ l, 0, 0) else ([], r.1, r.2)
  | [], a, n, r, out, h, hn, ha => by
    obtain ⟨n, rfl⟩ : ∃ m, n = m + 1 := ⟨n - 1, by omega⟩
    obtain ⟨h1, h2⟩ := h
    subst h1
    rw [toksF, List.append_nil]
    by_cases e : (oneN s a).2.2 = 4
    · rw [if_pos e, if_pos e]
    · rw [if_neg e, if_neg e, if_neg h2]
  | t :: l, a, n, r, out, h, hn, ha => by
    obtain ⟨n, rfl⟩ : ∃ m, n = m + 1 := ⟨n - 1, by omega⟩
    obtain ⟨h1, h2, h3, h4, h5⟩ := h
    rw [toksF, h1, if_neg (show ¬ ((0 : Int) = 4) by decide), if_pos rfl]
    show toksF s n t.t.toNat (out ++ [t]) = _
    rw [run_toks (out ++ [t]) h5 (by omega) (by omega), List.append_assoc]
    rfl
theorem run_end {s : ByteArray} : ∀ {l : List Tok} {a : Nat} {r : Int × Int}, Run s a l r → a ≤ s.size → r.2 = 4 ∨ r.2 = 6
  | [], a, r, ⟨h1, h2⟩, ha => by
    rcases one_facts ha with ⟨h0, _⟩ | h4 | h6
    · rw [h1] at h0; exact absurd h0 h2
    · rw [h1] at h4; exact .inl h4
    · rw [h1] at h6; exact .inr h6
  | t :: l, a, r, ⟨h1, h2, h3, h4, h5⟩, ha => run_end h5 (by omega)
/-- A text goes on behind a line's end. -/
theorem run_ext {s x : ByteArray} (hx : 0 < x.size) (h10 : bt x 0 = 10) : ∀ {l : List Tok} {a : Nat} {r : Int × Int}, Run s a l r → a ≤ s.size →
    (r.2 = 6 → Run (s ++ x) a l r) ∧ (r.2 = 4 → ∀ m r', Run (s ++ x) (s.size + 1) m r' → (m = [] ∨ ∃ t, m.head? = some t ∧ (s.size : Int) + 1 ≤ t.f) → Run (s ++ x) a (l ++ m) r')
  | [], a, r, ⟨h1, h2⟩, ha => by
    obtain ⟨e1, e2⟩ := oneN_ext hx h10 ha
    have hle := skV_le s s.size false a (by omega) ha
    have h4 : (oneN s a).2.2 = 4 ↔ skV s false a = s.size := by
      constructor
      · intro h
        unfold oneN at h
        by_cases e : skV s false a = s.size
        · exact e
        · rw [if_neg e] at h
          split at h
          · exact absurd h (show ¬ ((0 : Int) = 4) by decide)
          · split at h
            · exact absurd h (show ¬ ((6 : Int) = 4) by decide)
            · exact absurd h (show ¬ ((0 : Int) = 4) by decide)
      · intro h; rw [oneN_none rfl h]
    refine ⟨fun h6 => ⟨?_, h2⟩, fun h => ?_⟩
    · rw [e1 (by
        have : ¬ skV s false a = s.size := fun e => by have := h4.2 e; rw [h1] at this; omega
        omega)]
      exact h1
    · intro m r' hm hhead
      have he := e2 (h4.1 (by rw [h1]; exact h))
      match m, hm with
      | [], hm => exact ⟨by rw [he]; exact hm.1, hm.2⟩
      | t :: m, ⟨g1, g2, g3, g4, g5⟩ => exact ⟨by rw [he]; exact g1, by omega, g3, g4, g5⟩
  | t :: l, a, r, ⟨h1, h2, h3, h4, h5⟩, ha => by
    obtain ⟨i1, i2⟩ := run_ext hx h10 h5 (by omega)
    have hlt : skV s false a < s.size := by
      have hle := skV_le s s.size false a (by omega) ha
      rcases Nat.lt_or_ge (skV s false a) s.size with h | h
      · exact h
      · have := oneN_none (s := s) (a := a) rfl (by omega)
        rw [h1] at this
        have := congrArg (fun r => r.2.2) this
        exact absurd this (show ¬ ((0 : Int) = 4) by decide)
    have e := (oneN_ext hx h10 ha).1 hlt
    have hz : s.size ≤ (s ++ x).size := by rw [app_size]; omega
    exact ⟨fun h => ⟨by rw [e]; exact h1, h2, h3, by omega, i1 h⟩, fun h m r' hm hh => ⟨by rw [e]; exact h1, h2, h3, by omega, i2 h m r' hm hh⟩⟩
/-- A text begins further on. -/
theorem run_shift (c y : ByteArray) : ∀ {l : List Tok} {q : Nat} {r : Int × Int}, Run y q l r → q ≤ y.size → Run (c ++ y) (c.size + q) (l.map (shT c.size)) (r.1 + c.size, r.2)
  | [], q, r, ⟨h1, h2⟩, hq => by
    refine ⟨?_, h2⟩
    rw [oneN_shift c y q hq]
    unfold shE
    rw [if_neg (by rw [h1]; exact h2), h1]
  | t :: l, q, r, ⟨h1, h2, h3, h4, h5⟩, hq => by
    refine ⟨?_, ?_, ?_, ?_, ?_⟩
    · rw [oneN_shift c y q hq, h1]
      unfold shE
      rw [if_pos rfl]
    · show ((c.size + q : Nat) : Int) ≤ t.f + c.size; omega
    · show t.f + c.size < t.t + c.size; omega
    · show t.t + (c.size : Int) ≤ (c ++ y).size; rw [app_size]; omega
    · have := run_shift c y h5 (by omega)
      rwa [show c.size + t.t.toNat = (shT c.size t).t.toNat by show _ = (t.t + (c.size : Int)).toNat; omega] at this
theorem run_first {s : ByteArray} {l : List Tok} {a : Nat} {r : Int × Int} (h : Run s a l r) : l = [] ∨ ∃ t, l.head? = some t ∧ (a : Int) ≤ t.f := by
  match l, h with
  | [], _ => exact .inl rfl
  | t :: l, h => exact .inr ⟨t, rfl, h.2.1⟩
/-- What All says, of a text that isn't too long. -/
theorem allV_bad {s : ByteArray} (h : s.size ≤ 65536) (hb : 0 ≤ badV s s.size 0) : allV s = ([], badV s s.size 0, 5) := by
  rw [allV, if_neg (by omega), if_pos hb]
theorem allV_run {s : ByteArray} (h : s.size ≤ 65536) (hb : badV s s.size 0 = -1) {l : List Tok} {r : Int × Int} (hr : Run s 0 l r) : allV s = if r.2 = 4 then (l, 0, 0) else ([], r.1, r.2) := by
  rw [allV, if_neg (by omega), if_neg (by omega), run_toks [] hr (by omega) (by omega), List.nil_append]
theorem bad_cases (s : ByteArray) : badV s s.size 0 = -1 ∨ 0 ≤ badV s s.size 0 ∧ badV s s.size 0 < s.size := badV_ge s s.size 0
def nl : ByteArray := ⟨#[10]⟩
theorem app_assoc (a b c : ByteArray) : a ++ b ++ c = a ++ (b ++ c) := ba_inj (by rw [app_data, app_data, app_data, app_data, List.append_assoc])
theorem nl_size (b : ByteArray) : (nl ++ b).size = b.size + 1 := by rw [app_size]; show 1 + b.size = _; omega
theorem nl_ten (b : ByteArray) : bt (nl ++ b) 0 = 10 := by
  rw [bt_left (by decide)]; decide +kernel
theorem bad_nl (a b : ByteArray) : badV (a ++ (nl ++ b)) (a ++ (nl ++ b)).size 0 = if badV a a.size 0 = -1 then (if badV b b.size 0 = -1 then -1 else badV b b.size 0 + (a.size + 1 : Nat)) else badV a a.size 0 := by
  have h1 := badV_ext (s := a) (x := nl ++ b) (by rw [nl_size]; omega) (nl_ten b) a.size 0 (by omega) (by omega)
  have h1 : badV (a ++ (nl ++ b)) (a ++ (nl ++ b)).size 0 = if badV a a.size 0 = -1 then badV (a ++ (nl ++ b)) (a ++ (nl ++ b)).size (a.size : Int) else badV a a.size 0 := h1
  have h2 := badV_shift (a ++ nl) b b.size 0 (by omega)
  have hk : (a ++ nl).size = a.size + 1 := app_size a nl
  rw [app_assoc, hk] at h2
  have h2 : badV (a ++ (nl ++ b)) (a ++ (nl ++ b)).size ((a.size + 1 : Nat) : Int) = if badV b b.size 0 = -1 then -1 else badV b b.size 0 + (a.size + 1 : Nat) := h2
  have hs : a.size < (a ++ (nl ++ b)).size := by rw [app_size, nl_size]; omega
  have hd : Utf8.decode (a ++ (nl ++ b)) a.size = (10, 1) := by
    have e := bt_end (s := a) (x := nl ++ b) (nl_ten b)
    rw [decode_ascii (by omega), e]
  have h3 : badV (a ++ (nl ++ b)) (a ++ (nl ++ b)).size (a.size : Int) = badV (a ++ (nl ++ b)) (a ++ (nl ++ b)).size ((a.size + 1 : Nat) : Int) := by
    rw [badV_fuel _ (a ++ (nl ++ b)).size ((a ++ (nl ++ b)).size - 1 + 1) a.size (by omega) (by omega), badV, if_pos (by omega)]
    have hf : (formV (a ++ (nl ++ b)) (a.size : Int)).2 ≠ 0 := fun e => by
      have := (form_zero hs).1 e
      rw [hd] at this
      exact absurd this.1 (by decide)
    rw [if_neg hf, form_go hs hf, hd]
    exact badV_fuel _ _ _ _ (by omega) (by omega)
  rw [h1, h3, h2]
theorem joins_plain {a b : ByteArray} (ha : a.size ≤ 5000) (hb : b.size ≤ 5000) (he : (allV a).2.2 = 0) :
    allV (a ++ (nl ++ b)) = if (allV b).2.2 = 0 then ((allV a).1 ++ (allV b).1.map (shT (a.size + 1)), 0, 0) else ([], (allV b).2.1 + (a.size + 1 : Nat), (allV b).2.2) := by
  have hsz : (a ++ (nl ++ b)).size = a.size + b.size + 1 := by rw [app_size, nl_size]; omega
  obtain ⟨l, r, hl⟩ := run_ex a a.size 0 (by omega) (by omega)
  obtain ⟨m, r2, hm⟩ := run_ex b b.size 0 (by omega) (by omega)
  rcases bad_cases a with hba | ⟨hba, _⟩
  · have ea := allV_run (by omega) hba hl
    have hr4 : r.2 = 4 := by
      rcases run_end hl (by omega) with h | h
      · exact h
      · rw [ea, if_neg (by omega)] at he; exact absurd he (by show ¬ r.2 = 0; omega)
    rw [if_pos hr4] at ea
    have hbn := bad_nl a b
    rw [if_pos hba] at hbn
    rcases bad_cases b with hbb | ⟨hbb, _⟩
    · rw [if_pos hbb] at hbn
      have eb := allV_run (by omega) hbb hm
      have hsh := run_shift (a ++ nl) b hm (by omega)
      have hk : (a ++ nl).size = a.size + 1 := app_size a nl
      rw [app_assoc, hk] at hsh
      have hsh : Run (a ++ (nl ++ b)) (a.size + 1) (m.map (shT (a.size + 1))) (r2.1 + (a.size + 1 : Nat), r2.2) := hsh
      have hfirst : m.map (shT (a.size + 1)) = [] ∨ ∃ t, (m.map (shT (a.size + 1))).head? = some t ∧ (a.size : Int) + 1 ≤ t.f := by
        rcases run_first hsh with h | ⟨t, h1, h2⟩
        · exact .inl h
        · exact .inr ⟨t, h1, by omega⟩
      have hall := (run_ext (s := a) (x := nl ++ b) (by rw [nl_size]; omega) (nl_ten b) hl (by omega)).2 hr4 _ _ hsh hfirst
      rw [allV_run (by omega) hbn hall, ea, eb]
      rcases run_end hm (by omega) with h | h
      · rw [if_pos h, if_pos h]; rfl
      · have n4 : ¬ r2.2 = 4 := by omega
        rw [if_neg n4, if_neg (show ¬ ((r2.1 + ((a.size + 1 : Nat) : Int), r2.2).2 = 4) from n4), if_neg (show ¬ r2.2 = 0 by omega)]
    · rw [if_neg (by omega)] at hbn
      rw [allV_bad (by omega) (by rw [hbn]; omega), hbn, allV_bad (by omega) hbb, if_neg (show ¬ ((5 : Int) = 0) by decide)]
  · rw [allV_bad (by omega) hba] at he
    exact absurd he (show ¬ ((5 : Int) = 0) by decide)
end Go.Proofs.YtofanbmeemahgaaDoor

/- The laws TokenJoins, TokenRemarks. -/
namespace Go.Proofs.YtofanbmeemahgaaDoor
open Go.Sx
set_option linter.unusedVariables false
set_option linter.unusedSimpArgs false
set_option maxRecDepth 100000

def hash : ByteArray := ⟨#[35]⟩
theorem remark_run {r : ByteArray} (hno : ∀ j, j < r.size → bt r j ≠ 10) : Run (hash ++ r) 0 [] (((hash ++ r).size : Int), 4) := by
  have hk : (hash ++ r).size = r.size + 1 := by rw [app_size]; show 1 + r.size = _; omega
  have h35 : bt (hash ++ r) 0 = 35 := by rw [bt_left (by decide)]; decide +kernel
  have hsk : skV (hash ++ r) false 0 = (hash ++ r).size := by
    rw [skV_go (by omega) (by rw [h35]; rfl), h35]
    refine skV_remark_end _ (hash ++ r).size 1 (by omega) (by omega) fun j h1 h2 => ?_
    have := bt_right hash r (j - 1)
    rw [show hash.size + (j - 1) = j by show 1 + (j - 1) = j; omega] at this
    rw [this]
    exact hno _ (by omega)
  exact ⟨by rw [oneN_none hsk rfl], show ¬ ((4 : Int) = 0) by decide⟩
theorem remark_all {r : ByteArray} (hr : r.size ≤ 5000) (hno : ∀ j, j < r.size → bt r j ≠ 10) : (allV (hash ++ r)).2.2 = 0 ∧ badV (hash ++ r) (hash ++ r).size 0 = -1 ∨ (allV (hash ++ r)).2.2 = 5 := by
  have hk : (hash ++ r).size = r.size + 1 := by rw [app_size]; show 1 + r.size = _; omega
  rcases bad_cases (hash ++ r) with h | ⟨h, _⟩
  · refine .inl ⟨?_, h⟩
    rw [allV_run (by omega) h (remark_run hno), if_pos rfl]
  · right; rw [allV_bad (by omega) h]
theorem remarks_plain {s r : ByteArray} (hs : s.size ≤ 5000) (hr : r.size ≤ 5000) (hno : ∀ j, j < r.size → bt r j ≠ 10) (hb : badV (hash ++ r) (hash ++ r).size 0 = -1) : allV (s ++ (nl ++ (hash ++ r))) = allV s := by
  have hk : (hash ++ r).size = r.size + 1 := by rw [app_size]; show 1 + r.size = _; omega
  have hsz : (s ++ (nl ++ (hash ++ r))).size = s.size + r.size + 2 := by rw [app_size, nl_size]; omega
  obtain ⟨l, e, hl⟩ := run_ex s s.size 0 (by omega) (by omega)
  have hbn := bad_nl s (hash ++ r)
  rcases bad_cases s with hbs | ⟨hbs, _⟩
  · rw [if_pos hbs, if_pos hb] at hbn
    obtain ⟨x6, x4⟩ := run_ext (s := s) (x := nl ++ (hash ++ r)) (by rw [nl_size]; omega) (nl_ten _) hl (by omega)
    rw [allV_run (by omega) hbs hl]
    rcases run_end hl (by omega) with h | h
    · have hsh := run_shift (s ++ nl) (hash ++ r) (remark_run hno) (by omega)
      have hk2 : (s ++ nl).size = s.size + 1 := app_size s nl
      rw [app_assoc, hk2] at hsh
      have hall := x4 h [] _ hsh (.inl rfl)
      rw [allV_run (by omega) hbn hall, if_pos h, if_pos (show (4 : Int) = 4 from rfl), List.append_nil]
    · rw [allV_run (by omega) hbn (x6 h)]
  · rw [if_neg (by omega)] at hbn
    rw [allV_bad (by omega) (by rw [hbn]; exact hbs), hbn, allV_bad (by omega) hbs]
theorem text_join (a b : ByteArray) : a ++ (⟨#[10]⟩ : ByteArray) ++ b = a ++ (nl ++ b) := app_assoc a nl b
theorem text_remark (s r : ByteArray) : s ++ (⟨#[10, 35]⟩ : ByteArray) ++ r = s ++ (nl ++ (hash ++ r)) := ba_inj (by rw [app_data, app_data, app_data, app_data, app_data, List.append_assoc]; rfl)

theorem tokenRemarks_spec (s r : ByteArray) : Pure PG 8 [vs s, vs r] (vb true) [] := by
  refine Proc.mk (cfg 78) tysOK [] Tryd.func8 rfl (by kernel_rfl) rfl rfl rfl ?_
  intro C x
  refine x.cond rfl trivial (fun h => ?_) (fun h => ?_)
  · refine x.exit rfl trivial ?_
    exact ⟨.inr rfl, rfl, trivial, rfl⟩
  have h : (decide ((5000 : Int) < s.size) || decide ((5000 : Int) < r.size)) = false := h
  simp only [Bool.or_eq_false_iff, decide_eq_false_iff_not] at h
  have hs : s.size ≤ 5000 := by omega
  have hr : r.size ≤ 5000 := by omega
  refine x.loop (α := { i : Nat // i ≤ r.size ∧ ∀ j, j < i → bt r j ≠ 10 }) (fun y => ⟨[(0, vs s), (1, vs r), (5, vi (y.1 : Int))], [], 0⟩) (fun y => r.size - y.1) ⟨0, by omega, fun j hj => by omega⟩ rfl trivial ⟨⟨rfl, rfl, rfl, trivial⟩, trivial, rfl⟩ (fun y => ?_)
  obtain ⟨i, hi, hup⟩ := y
  change Go C _ ⟨[(0, vs s), (1, vs r), (5, vi (i : Int))], [], 0⟩ _
  refine x.cond rfl trivial (fun h1 => ?_) (fun h1 => ?_)
  · have h1 : i < r.size := by have := of_decide_eq_true h1; omega
    have ec : sb r ((i : Int)).toNat = (bt r i : Int) := sb_bt r i
    refine x.cond rfl ?_ (fun h2 => ?_) (fun h2 => ?_)
    · simp only [AllP]; omega
    · refine x.exit rfl trivial ?_
      exact ⟨.inr rfl, rfl, trivial, rfl⟩
    · have h2 : ¬ sb r ((i : Int)).toNat = 10 := of_decide_eq_false h2
      refine x.back rfl (show inI64 _ by unfold inI64; omega) ⟨⟨i + 1, by omega, fun j hj => ?_⟩, by show r.size - (i + 1) < r.size - i; omega, ⟨rfl, rfl, rfl, trivial⟩, trivial, rfl⟩
      by_cases e : j = i
      · rw [e]; omega
      · exact hup j (by omega)
  have h1 : i = r.size := by have := of_decide_eq_false h1; omega
  subst h1
  have hk : (hash ++ r).size = r.size + 1 := by rw [app_size]; show 1 + r.size = _; omega
  have hsz : (s ++ (nl ++ (hash ++ r))).size = s.size + r.size + 2 := by rw [app_size, nl_size]; omega
  refine x.pure rfl trivial rfl (all_spec s (by omega)) ⟨rfl, trivial⟩ ?_
  refine x.pure rfl ?_ rfl (all_spec (hash ++ r) (by omega)) ⟨rfl, trivial⟩ ?_
  · show ((1 + r.size : Nat) : Int) ≤ 9223372036854775807; omega
  have hrem := remark_all hr hup
  have hl := all_len s
  obtain ⟨⟨cl, cp, ce⟩, hc⟩ : ∃ v, allV (hash ++ r) = v := ⟨_, rfl⟩
  rw [hc] at hrem ⊢
  have hrem : ce = 0 ∧ badV (hash ++ r) (hash ++ r).size 0 = -1 ∨ ce = 5 := hrem
  refine x.cond rfl trivial (fun h3 => ?_) (fun h3 => ?_)
  · have h3 : (!decide (ce = 0)) = true := h3
    have h5 : ce = 5 := by
      rcases hrem with h | h
      · rw [h.1] at h3; cases h3
      · exact h
    refine x.pureG rfl trivial rfl (fun _ => awake3_spec) rfl trivial ?_
    refine x.exit rfl trivial ?_
    refine ⟨.inr rfl, ?_, trivial, rfl⟩
    show (decide (ce = 5) && true) = true
    rw [h5]; rfl
  have h3 : (!decide (ce = 0)) = false := h3
  have h0 : ce = 0 := by simpa using h3
  have hb : badV (hash ++ r) (hash ++ r).size 0 = -1 := by
    rcases hrem with h | h
    · exact h.2
    · omega
  refine x.pure rfl ?_ rfl (all_spec (s ++ (nl ++ (hash ++ r))) (by omega)) ⟨text_remark s r, trivial⟩ ?_
  · have e1 : (s ++ (⟨#[10, 35]⟩ : ByteArray)).size = s.size + 2 := by rw [app_size]; rfl
    simp only [AllP, e1]
    show _ ∧ _
    refine ⟨?_, ?_⟩
    · show ((s.size + 2 : Nat) : Int) ≤ 9223372036854775807; omega
    · omega
  rw [remarks_plain hs hr hup hb]
  obtain ⟨⟨l, pl, e⟩, hr⟩ : ∃ v, allV s = v := ⟨_, rfl⟩
  rw [hr] at hl ⊢
  have hl : l.length ≤ s.size := hl
  refine x.pureG rfl trivial rfl (fun _ => sameT_spec l l (by omega) (by omega)) rfl ⟨veq_d rfl, veq_d rfl, trivial⟩ ?_
  refine x.pureG rfl trivial rfl (fun _ => awake3_spec) rfl trivial ?_
  refine x.exit rfl trivial ?_
  refine ⟨.inr rfl, ?_, trivial, rfl⟩
  show (((decide (e = e) && decide (pl = pl)) && decide (l = l)) && true) = true
  simp

theorem one_place {s : ByteArray} {a : Nat} (ha : a ≤ s.size) : 0 ≤ (oneN s a).2.1 ∧ (oneN s a).2.1 ≤ s.size := by
  have hle := skV_le s s.size false a (by omega) ha
  unfold oneN
  split
  · exact ⟨by show (0 : Int) ≤ s.size; omega, Int.le_refl _⟩
  · split
    · exact ⟨Int.le_refl _, by show (0 : Int) ≤ s.size; omega⟩
    · split
      · exact ⟨by show (0 : Int) ≤ skV s false a; omega, by show (skV s false a : Int) ≤ s.size; omega⟩
      · exact ⟨Int.le_refl _, by show (0 : Int) ≤ s.size; omega⟩
theorem run_place {s : ByteArray} : ∀ {l : List Tok} {a : Nat} {r : Int × Int}, Run s a l r → a ≤ s.size → 0 ≤ r.1 ∧ r.1 ≤ s.size
  | [], a, r, ⟨h1, _⟩, ha => h1 ▸ one_place ha
  | t :: l, a, r, ⟨_, h2, h3, h4, h5⟩, ha => run_place h5 (by omega)
theorem allV_place {s : ByteArray} (h : s.size ≤ 65536) : 0 ≤ (allV s).2.1 ∧ (allV s).2.1 ≤ s.size := by
  rcases bad_cases s with hb | ⟨hb, hb2⟩
  · obtain ⟨l, r, hl⟩ := run_ex s s.size 0 (by omega) (by omega)
    rw [allV_run h hb hl]
    split
    · exact ⟨Int.le_refl _, by show (0 : Int) ≤ s.size; omega⟩
    · exact run_place hl (by omega)
  · rw [allV_bad h hb]
    exact ⟨hb, by show badV s s.size 0 ≤ s.size; omega⟩
theorem run_mem {s : ByteArray} : ∀ {l : List Tok} {a : Nat} {r : Int × Int}, Run s a l r → a ≤ s.size → ∀ i, i < l.length → (a : Int) ≤ (l.getD i tok0).f ∧ (l.getD i tok0).f < (l.getD i tok0).t ∧ (l.getD i tok0).t ≤ s.size
  | [], a, r, _, _, i, hi => absurd hi (Nat.not_lt_zero _)
  | t :: l, a, r, ⟨h1, h2, h3, h4, h5⟩, ha, i, hi => by
    match i with
    | 0 => exact ⟨h2, h3, h4⟩
    | i + 1 =>
      have := run_mem h5 (by omega) i (by simpa using hi)
      refine ⟨?_, this.2⟩
      have := this.1
      show (a : Int) ≤ (l.getD i tok0).f
      omega
theorem allV_toks {s : ByteArray} (h : s.size ≤ 65536) {i : Nat} (hi : i < (allV s).1.length) : 0 ≤ ((allV s).1.getD i tok0).f ∧ ((allV s).1.getD i tok0).f ≤ s.size ∧ 0 ≤ ((allV s).1.getD i tok0).t ∧ ((allV s).1.getD i tok0).t ≤ s.size := by
  rcases bad_cases s with hb | ⟨hb, hb2⟩
  · obtain ⟨l, r, hl⟩ := run_ex s s.size 0 (by omega) (by omega)
    rw [allV_run h hb hl] at hi ⊢
    split at hi
    · rename_i e
      rw [if_pos e]
      have := run_mem hl (by omega) i hi
      dsimp only
      omega
    · exact absurd hi (Nat.not_lt_zero _)
  · rw [allV_bad h hb] at hi
    exact absurd hi (Nat.not_lt_zero _)

theorem tokenJoins_spec (a b : ByteArray) : Pure PG 7 [vs a, vs b] (vb true) [] := by
  refine Proc.mk (cfg 111) tysOK [] Tryd.func7 rfl (by kernel_rfl) rfl rfl rfl ?_
  intro C x
  refine x.cond rfl trivial (fun h => ?_) (fun h => ?_)
  · refine x.exit rfl trivial ?_
    exact ⟨.inr rfl, rfl, trivial, rfl⟩
  have h : (decide ((5000 : Int) < a.size) || decide ((5000 : Int) < b.size)) = false := h
  simp only [Bool.or_eq_false_iff, decide_eq_false_iff_not] at h
  have ha : a.size ≤ 5000 := by omega
  have hb : b.size ≤ 5000 := by omega
  have hsz : (a ++ (nl ++ b)).size = a.size + b.size + 1 := by rw [app_size, nl_size]; omega
  refine x.pure rfl trivial rfl (all_spec a (by omega)) ⟨rfl, trivial⟩ ?_
  have hpl := joins_plain ha hb
  have hla := all_len a
  have hlb := all_len b
  obtain ⟨⟨l, lp, le⟩, hl⟩ : ∃ v, allV a = v := ⟨_, rfl⟩
  rw [hl] at hpl hla ⊢
  dsimp only at hpl hla
  refine x.cond rfl trivial (fun h2 => ?_) (fun h2 => ?_)
  · refine x.pure rfl trivial rfl awake3_spec trivial ?_
    refine x.exit rfl trivial ?_
    exact ⟨.inr rfl, rfl, trivial, rfl⟩
  have h2 : (!decide (le = 0)) = false := h2
  have h2 : le = 0 := by simpa using h2
  have hpl := hpl h2
  refine x.pure rfl trivial rfl (all_spec b (by omega)) ⟨rfl, trivial⟩ ?_
  refine x.pure rfl ?_ rfl (all_spec (a ++ (nl ++ b)) (by omega)) ⟨text_join a b, trivial⟩ ?_
  · have e1 : (a ++ (⟨#[10]⟩ : ByteArray)).size = a.size + 1 := by rw [app_size]; rfl
    simp only [AllP, e1]
    refine ⟨?_, ?_⟩
    · show ((a.size + 1 : Nat) : Int) ≤ 9223372036854775807; omega
    · omega
  rw [hpl]
  obtain ⟨⟨m, mp, me⟩, hm⟩ : ∃ v, allV b = v := ⟨_, rfl⟩
  have hmb := allV_place (s := b) (by omega)
  rw [hm] at hlb hmb ⊢
  dsimp only at hlb hmb ⊢
  refine x.cond rfl trivial (fun h3 => ?_) (fun h3 => ?_)
  · have h3 : (!decide (me = 0)) = true := h3
    have h3 : me ≠ 0 := by simpa using h3
    rw [if_neg h3]
    refine x.pureG rfl ?_ rfl (fun _ => awake3_spec) rfl trivial ?_
    · simp only [AllP, inI64]
      exact ⟨fun _ => by omega, fun _ => by omega⟩
    refine x.exit rfl trivial ?_
    refine ⟨.inr rfl, ?_, trivial, rfl⟩
    show ((decide (me = me) && decide (mp + ((a.size + 1 : Nat) : Int) = mp + (a.size : Int) + 1)) && true) = true
    rw [decide_eq_true (show mp + ((a.size + 1 : Nat) : Int) = mp + (a.size : Int) + 1 by omega)]
    simp
  have h3 : (!decide (me = 0)) = false := h3
  have h3 : me = 0 := by simpa using h3
  rw [if_pos h3]
  have hmt : ∀ i, i < m.length → 0 ≤ (m.getD i tok0).f ∧ (m.getD i tok0).f ≤ b.size ∧ 0 ≤ (m.getD i tok0).t ∧ (m.getD i tok0).t ≤ b.size := fun i hi => by
    have := allV_toks (s := b) (by omega) (i := i) (by rw [hm]; exact hi)
    rwa [hm] at this
  refine x.loop (α := { i : Nat // i ≤ m.length }) (fun y => ⟨[(0, vs a), (8, tv m), (11, tv (l ++ m.map (shT (a.size + 1)))), (13, vi 0), (14, .own 0), (15, vi (y.1 : Int))], [(0, tokC (l ++ (m.take y.1).map (shT (a.size + 1))))], 1⟩) (fun y => m.length - y.1) ⟨0, by omega⟩ rfl ?_ ?_ (fun y => ?_)
  · simp only [AllP, big]; omega
  · refine ⟨⟨rfl, veq_d rfl, veq_d rfl, rfl, rfl, rfl, trivial⟩, ⟨⟨rfl, rfl, ?_, fun j hj => ?_⟩, trivial⟩, rfl⟩
    · show 0 + l.length = (l ++ (m.take 0).map (shT (a.size + 1))).length; simp
    · show zipIte (j < 0) _ (dTok (l.getD (j - 0) tok0)) = dTok ((l ++ (m.take 0).map (shT (a.size + 1))).getD j tok0)
      rw [zipIte_neg (Nat.not_lt_zero j)]
      simp
  obtain ⟨i, hi⟩ := y
  obtain ⟨n, hn⟩ : ∃ n, l ++ (m.take i).map (shT (a.size + 1)) = n := ⟨_, rfl⟩
  have hnl : n.length ≤ a.size + b.size := by
    rw [← hn, List.length_append, List.length_map, List.length_take]; omega
  change Go C _ ⟨[(0, vs a), (8, tv m), (11, tv (l ++ m.map (shT (a.size + 1)))), (13, vi 0), (14, .own 0), (15, vi (i : Int))], [(0, tokC (l ++ (m.take i).map (shT (a.size + 1))))], 1⟩ _
  rw [hn]
  refine x.cond rfl trivial (fun h4 => ?_) (fun h4 => ?_)
  · have h4 : i < m.length := by have := of_decide_eq_true h4; omega
    have hmem : 0 ≤ (m.getD i tok0).f ∧ (m.getD i tok0).f ≤ b.size ∧ 0 ≤ (m.getD i tok0).t ∧ (m.getD i tok0).t ≤ b.size := hmt i h4
    have hsh : l ++ (m.take (i + 1)).map (shT (a.size + 1)) = n ++ [shT (a.size + 1) (m.getD i tok0)] := by
      rw [List.take_succ_eq_append_getElem h4, List.map_append, ← List.append_assoc, hn, toks_at]; rfl
    refine x.plan [0, 1, 2, 6, 7, 11, 15, 16, 20] [3, 4, 5, 8, 9, 10, 12, 13, 14, 17, 18, 19, 21, 22, 23, 24] [25, 26, 27] rfl trivial mixedP (by kernel_rfl) Ret.noPanic ?_
    refine x.qdone rfl ?_ ?_
    · simp only [AllP, inI64, Int.toNat_natCast]; omega
    refine x.back rfl ?_ ⟨⟨i + 1, by omega⟩, by show m.length - (i + 1) < m.length - i; omega, ⟨rfl, veq_d rfl, veq_d rfl, rfl, rfl, rfl, trivial⟩, ⟨⟨rfl, rfl, ?_, fun j hj => ?_⟩, trivial⟩, rfl⟩
    · simp only [AllP, big, inI64]; omega
    · show n.length + 1 = (l ++ (m.take (i + 1)).map (shT (a.size + 1))).length
      rw [hsh]; simp
    · rw [hsh]
      have e := app_tok n (shT (a.size + 1) (m.getD i tok0)) j hj
      refine Eq.trans ?_ e
      show app n.length _ (fun _ => dTok ⟨(m.getD i tok0).k, (m.getD i tok0).f + (a.size : Int) + 1, (m.getD i tok0).t + (a.size : Int) + 1⟩) j = _
      congr 2
      funext _
      show dTok _ = dTok ⟨(m.getD i tok0).k, (m.getD i tok0).f + ((a.size + 1 : Nat) : Int), (m.getD i tok0).t + ((a.size + 1 : Nat) : Int)⟩
      congr 2 <;> omega
  · have h4 : i = m.length := by have := of_decide_eq_false h4; omega
    have hall : n = l ++ m.map (shT (a.size + 1)) := by rw [← hn, h4, List.take_length]
    refine Sx.Go.freeze 0 ?_
    refine x.pureG rfl trivial rfl (fun _ => sameT_spec (l ++ m.map (shT (a.size + 1))) n (by rw [← hall]; omega) (by omega)) rfl ⟨veq_d rfl, veq_d rfl, trivial⟩ ?_
    refine x.pureG rfl trivial rfl (fun _ => awake3_spec) rfl trivial ?_
    refine x.exit rfl trivial ?_
    refine ⟨.inr rfl, ?_, trivial, rfl⟩
    show ((decide ((0 : Int) = 0) && decide (l ++ m.map (shT (a.size + 1)) = n)) && true) = true
    rw [decide_eq_true hall.symm]; rfl
end Go.Proofs.YtofanbmeemahgaaDoor

/- The law TokenPieces. -/
namespace Go.Proofs.YtofanbmeemahgaaDoor
open Go.Sx
set_option linter.unusedVariables false
set_option linter.unusedSimpArgs false
set_option maxRecDepth 100000

theorem skV_again {s : ByteArray} {a : Nat} (ha : a ≤ s.size) (h : skV s false a < s.size) : skV s false (skV s false a) = skV s false a := by
  obtain ⟨h1, h2, h3⟩ := skV_le s s.size false a (by omega) ha
  obtain ⟨h4, h5⟩ := h3 h
  refine skV_stop h ?_
  have h6 : bt s (skV s false a) ≠ 10 := fun e => by rw [e] at h4; cases h4
  have e : nextR (bt s (skV s false a)) false = false := by unfold nextR; rw [if_neg h6, if_neg h5]
  rw [e]; exact h4
theorem one_again {s : ByteArray} {a : Nat} (ha : a ≤ s.size) {t : Tok} (h : oneN s a = (t, 0, 0)) : oneV s t.f = (t, 0, 0) := by
  have hle := skV_le s s.size false a (by omega) ha
  have hlt : skV s false a < s.size := by
    rcases Nat.lt_or_ge (skV s false a) s.size with h1 | h1
    · exact h1
    · have := oneN_none (s := s) (a := a) rfl (by omega)
      rw [h] at this
      have := congrArg (fun r => r.2.2) this
      exact absurd this (show ¬ ((0 : Int) = 4) by decide)
  have hf : t.f = (skV s false a : Int) := by
    have h2 := h
    unfold oneN at h2
    rw [if_neg (by omega)] at h2
    split at h2
    · exact (congrArg (fun r => r.1.f) h2).symm
    · split at h2
      · exact absurd (congrArg (fun r => r.2.2) h2) (show ¬ ((6 : Int) = 0) by decide)
      · exact (congrArg (fun r => r.1.f) h2).symm
  rw [hf, oneV, if_neg (by omega), Int.toNat_natCast, ← h]
  unfold oneN
  rw [skV_again ha hlt]
theorem run_drop {s : ByteArray} {r : Int × Int} : ∀ {l : List Tok} {a : Nat} {i : Nat}, Run s a (l.drop i) r → i < l.length → oneN s a = (l.getD i tok0, 0, 0) ∧ (a : Int) ≤ (l.getD i tok0).f ∧ (l.getD i tok0).f < (l.getD i tok0).t ∧ (l.getD i tok0).t ≤ s.size ∧ Run s (l.getD i tok0).t.toNat (l.drop (i + 1)) r := fun {l a i} h hi => by
  rw [List.drop_eq_getElem_cons hi, toks_at hi] at h
  exact h
theorem tokenPieces_spec (s : ByteArray) : Pure PG 6 [vs s] (vb true) [] := by
  refine Proc.mk (cfg 125) tysOK [] Tryd.func6 rfl (by kernel_rfl) rfl rfl rfl ?_
  intro C x
  refine x.cond rfl trivial (fun h => ?_) (fun h => ?_)
  · refine x.exit rfl trivial ?_
    exact ⟨.inr rfl, rfl, trivial, rfl⟩
  have hs : s.size ≤ 5000 := by have := of_decide_eq_false h; omega
  refine x.pure rfl trivial rfl (all_spec s (by omega)) ⟨rfl, trivial⟩ ?_
  have hll := all_len s
  have key : ((allV s).2.2 = 0 ∧ Run s 0 (allV s).1 ((allV s).2.1, 4) ∨ (allV s).2.2 ≠ 0 ∧ (allV s).1 = []) ∨ ∃ pl, (allV s).2.2 = 0 ∧ Run s 0 (allV s).1 (pl, 4) := by
    rcases bad_cases s with hb | ⟨hb, _⟩
    · obtain ⟨l, r, hr⟩ := run_ex s s.size 0 (by omega) (by omega)
      rw [allV_run (by omega) hb hr]
      rcases run_end hr (by omega) with h4 | h6
      · rw [if_pos h4]
        exact .inr ⟨r.1, rfl, by rw [← h4]; exact hr⟩
      · rw [if_neg (by omega)]
        exact .inl (.inr ⟨by show r.2 ≠ 0; omega, rfl⟩)
    · rw [allV_bad (by omega) hb]
      exact .inl (.inr ⟨show ¬ ((5 : Int) = 0) by decide, rfl⟩)
  obtain ⟨⟨l, lp, e⟩, hl⟩ : ∃ v, allV s = v := ⟨_, rfl⟩
  rw [hl] at hll key ⊢
  dsimp only at hll key
  have key2 : e ≠ 0 → l = [] := fun h0 => by
    rcases key with (h | h) | ⟨pl, h, _⟩
    · exact absurd h.1 h0
    · exact h.2
    · exact absurd h h0
  have key3 : e = 0 → ∃ pl, Run s 0 l (pl, 4) := fun h0 => by
    rcases key with (h | h) | ⟨pl, _, h⟩
    · exact ⟨_, h.2⟩
    · exact absurd h0 h.1
    · exact ⟨pl, h⟩
  refine x.cond rfl trivial (fun h1 => ?_) (fun h1 => ?_)
  · have h1 : (!decide (e = 0)) = true := h1
    have h1 : e ≠ 0 := by simpa using h1
    refine x.pureG rfl trivial rfl (fun _ => awake3_spec) rfl trivial ?_
    refine x.exit rfl trivial ?_
    refine ⟨.inr rfl, ?_, trivial, rfl⟩
    show (decide ((l.length : Int) = 0) && true) = true
    rw [key2 h1]; rfl
  have h1 : (!decide (e = 0)) = false := h1
  have h1 : e = 0 := by simpa using h1
  obtain ⟨pl, hrun⟩ := key3 h1
  refine x.loop (α := { y : Nat × Nat // y.1 ≤ l.length ∧ y.2 ≤ s.size ∧ Run s y.2 (l.drop y.1) (pl, 4) }) (fun y => ⟨[(0, vs s), (3, tv l), (6, vi (y.1.2 : Int)), (7, vi (y.1.1 : Int))], [], 0⟩) (fun y => l.length - y.1.1) ⟨(0, 0), by omega, by omega, hrun⟩ rfl trivial ⟨⟨rfl, veq_d rfl, rfl, rfl, trivial⟩, trivial, rfl⟩ (fun y => ?_)
  obtain ⟨⟨i, a⟩, hi, ha, hr⟩ := y
  have hi : i ≤ l.length := hi
  have ha : a ≤ s.size := ha
  have hr : Run s a (l.drop i) (pl, 4) := hr
  change Go C _ ⟨[(0, vs s), (3, tv l), (6, vi (a : Int)), (7, vi (i : Int))], [], 0⟩ _
  have ea : oneV s (a : Int) = oneN s a := by rw [oneV, if_neg (by omega), Int.toNat_natCast]
  refine x.cond rfl trivial (fun h2 => ?_) (fun h2 => ?_)
  · have h2 : i < l.length := by have := of_decide_eq_true h2; omega
    obtain ⟨r1, r2, r3, r4, r5⟩ := run_drop hr h2
    obtain ⟨t, ht⟩ : ∃ t, l.getD i tok0 = t := ⟨_, rfl⟩
    rw [ht] at r1 r2 r3 r4 r5
    have htI : l.getD ((i : Int)).toNat tok0 = t := ht
    refine x.pure rfl trivial rfl (one_spec s (a : Int) (by omega)) ⟨rfl, rfl, trivial⟩ ?_
    rw [ea, r1]
    refine x.pure rfl ?_ rfl (one_spec s t.f (by omega)) ⟨rfl, ?_, trivial⟩ ?_
    · simp only [AllP]; omega
    · show (l.getD ((i : Int)).toNat tok0).f = t.f
      rw [htI]
    rw [one_again ha r1]
    refine x.quiet rfl trivial mixedP (by kernel_rfl) ?_
    refine x.qdone rfl ?_ ?_
    · simp only [AllP]
      refine ⟨fun _ => by omega, fun _ => by omega, fun _ => by omega, fun _ => by omega, fun _ => by omega⟩
    refine x.cond rfl ?_ (fun h3 => ?_) (fun h3 => ?_)
    · trivial
    · exfalso
      rw [htI] at h3
      rw [decide_eq_false (show ¬ t.f < (a : Int) by omega), decide_eq_false (show ¬ t.t ≤ t.f by omega)] at h3
      simp at h3
    · refine x.back rfl ?_ ⟨⟨(i + 1, t.t.toNat), by show i + 1 ≤ _; omega, by show t.t.toNat ≤ _; omega, r5⟩, by show l.length - (i + 1) < l.length - i; omega, ⟨rfl, veq_d rfl, ?_, rfl, trivial⟩, trivial, rfl⟩
      · simp only [AllP, inI64]; omega
      · show (l.getD ((i : Int)).toNat tok0).t = ((t.t.toNat : Nat) : Int)
        rw [htI]; omega
  · have h2 : i = l.length := by have := of_decide_eq_false h2; omega
    subst h2
    rw [List.drop_length] at hr
    obtain ⟨q1, q2⟩ := hr
    refine x.pure rfl trivial rfl (one_spec s (a : Int) (by omega)) ⟨rfl, rfl, trivial⟩ ?_
    rw [ea]
    have hpl : pl = s.size := by
      have := q1
      unfold oneN at this
      split at this
      · exact (congrArg (fun r => r.1) this).symm
      · split at this
        · exact absurd (congrArg (fun r => r.2) this) (show ¬ ((0 : Int) = 4) by decide)
        · split at this
          · exact absurd (congrArg (fun r => r.2) this) (show ¬ ((6 : Int) = 4) by decide)
          · exact absurd (congrArg (fun r => r.2) this) (show ¬ ((0 : Int) = 4) by decide)
    obtain ⟨⟨t0, p0, e0⟩, ho⟩ : ∃ v, oneN s a = v := ⟨_, rfl⟩
    rw [ho] at q1 ⊢
    obtain ⟨rfl, rfl⟩ := Prod.mk.inj q1
    refine x.pureG rfl trivial rfl (fun _ => awake3_spec) rfl trivial ?_
    refine x.exit rfl trivial ?_
    refine ⟨.inr rfl, ?_, trivial, rfl⟩
    show ((decide ((4 : Int) = 4) && decide (p0 = (s.size : Int))) && true) = true
    rw [hpl]; simp
end Go.Proofs.YtofanbmeemahgaaDoor
