/- A number out of its text. -/
import Derived.Test.YtgibncjbojocoaaT01V
import Derived.Test.YtgibncjbojocoaaT01P
namespace Go.Proofs.Ytgibncjbojocoaa
open Go.Sx
set_option linter.unusedVariables false
set_option linter.unusedSimpArgs false
set_option maxRecDepth 100000

theorem hasPrefix_spec (s p : ByteArray) :
    Pure Try.prog 31 [vs s, vs p] (vb (decide ((p.size : Int) ≤ s.size) && decide ((s.extract 0 p.size).data.toList = p.data.toList))) [] := by
  refine Proc.mk (cfg 18) tysOK [] Try.func31 rfl (by kernel_rfl) rfl rfl rfl ?_
  intro C x
  refine x.exit rfl ?_ ?_
  · intro h
    exact ⟨by omega, by simpa using h⟩
  refine ⟨.inr rfl, ?_, trivial, rfl⟩
  show _ = _
  rfl

def cutV (s p : ByteArray) : ByteArray × Bool := if (decide ((p.size : Int) ≤ s.size) && decide ((s.extract 0 p.size).data.toList = p.data.toList)) = true then (s.extract p.size s.size, true) else (s, false)

theorem cut1_spec (s p : ByteArray) : Pure Try.prog 30 [vs s, vs p] (.tup [vs (cutV s p).1, vb (cutV s p).2]) [] := by
  refine Proc.mk (cfg 15) tysOK [] Try.func30 rfl (by kernel_rfl) rfl rfl rfl ?_
  intro C x
  refine x.pure rfl trivial rfl (hasPrefix_spec s p) ⟨rfl, rfl, trivial⟩ ?_
  refine x.cond rfl trivial (fun h => ?_) (fun h => ?_)
  · refine x.exit rfl trivial ?_
    refine ⟨.inr rfl, ?_, trivial, rfl⟩
    rw [cutV, if_neg (by simpa only [Bool.not_eq_true', Bool.not_eq_true] using h)]
    exact ⟨rfl, rfl, trivial⟩
  · have h' : (decide ((p.size : Int) ≤ s.size) && decide ((s.extract 0 p.size).data.toList = p.data.toList)) = true := by simpa using h
    refine x.exit rfl ?_ ?_
    · simp only [Bool.and_eq_true, decide_eq_true_eq] at h'
      simp only [AllP]
      omega
    refine ⟨.inr rfl, ?_, trivial, rfl⟩
    rw [cutV, if_pos h']
    exact ⟨rfl, rfl, trivial⟩

theorem cut_spec (s p : ByteArray) : Pure Try.prog 28 [vs s, vs p] (.tup [vs (cutV s p).1, vb (cutV s p).2]) [] := by
  refine Proc.mk (cfg 11) tysOK [] Try.func28 rfl (by kernel_rfl) rfl rfl rfl ?_
  intro C x
  refine x.pure rfl trivial rfl (cut1_spec s p) ⟨rfl, rfl, trivial⟩ ?_
  refine x.exit rfl trivial ?_
  exact ⟨.inr rfl, ⟨rfl, rfl, trivial⟩, trivial, rfl⟩

/-- The number that the digits from byte i on make, behind u. -/
def dv (s : ByteArray) : Nat → Nat → Nat → Option Nat
  | 0, _, u => some u
  | n + 1, i, u => if i < s.size then if 48 ≤ bt s i ∧ bt s i ≤ 57 then dv s n (i + 1) (10 * u + (bt s i - 48)) else none else some u
theorem dv_end {s : ByteArray} {n i u : Nat} (h : ¬ i < s.size) : dv s n i u = some u := by
  cases n with
  | zero => rfl
  | succ n => rw [dv, if_neg h]

theorem dec_ascii {sz p a b c d : Nat} (h : a < 128) : dec sz p a b c d = (a, 1) := by rw [dec, if_pos h]
theorem dec_high {sz p a b c d : Nat} (h : ¬ a < 128) : 128 ≤ (dec sz p a b c d).1 := by
  unfold dec
  rw [if_neg h]
  split
  · split
    · rename_i h; exact h
    · simp
  split
  · split
    · rename_i h; exact Nat.le_trans (by omega) h.1
    · simp
  split
  · split
    · rename_i h; exact Nat.le_trans (by omega) h.1
    · simp
  · simp
theorem decode_ascii {s : ByteArray} {p : Nat} (h : bt s p < 128) : Utf8.decode s p = (bt s p, 1) := by rw [decode_eq]; exact dec_ascii h
theorem decode_high {s : ByteArray} {p : Nat} (h : ¬ bt s p < 128) : 128 ≤ (Utf8.decode s p).1 := by rw [decode_eq]; exact dec_high h

def numV (s : ByteArray) : Int × Bool :=
  let d := (cutV s ⟨#[45]⟩).1
  let neg := (cutV s ⟨#[45]⟩).2
  if d.size = 0 ∨ 19 < d.size ∨ (bt d 0 = 48 ∧ (neg = true ∨ 1 < d.size)) then (0, false)
  else match dv d d.size 0 0 with
    | none => (0, false)
    | some u => if neg = true ∧ u ≤ 9223372036854775808 then (-(u : Int), true) else if neg = false ∧ u < 9223372036854775808 then ((u : Int), true) else (0, false)

structure WI (s : ByteArray) where
  n : Nat
  p : Nat
  u : Nat
  fuel : s.size ≤ p + n
  same : dv s n p u = dv s s.size 0 0
  hp : p ≤ s.size
  hu : u < 10 ^ p

theorem number_spec (s : ByteArray) : Pure Try.prog 20 [vs s] (.tup [vi (numV s).1, vb (numV s).2]) [] := by
  refine Proc.mk ⟨66, 0, false, tys⟩ tysOK [] Try.func20 rfl (by kernel_rfl) rfl rfl rfl ?_
  intro C x
  refine x.pure rfl trivial rfl (cut_spec s ⟨#[45]⟩) ⟨rfl, rfl, trivial⟩ ?_
  generalize hd : (cutV s ⟨#[45]⟩).1 = d
  generalize hng : (cutV s ⟨#[45]⟩).2 = ng
  have hnil : d.data.toList = (⟨#[]⟩ : ByteArray).data.toList ↔ d.size = 0 := by
    rw [show d.size = d.data.toList.length from (Array.length_toList).symm, List.length_eq_zero_iff]
  have hsb : sb d (Int.toNat 0) = (bt d 0 : Int) := sb_bt d 0
  have hcond : (decide (d.data.toList = (⟨#[]⟩ : ByteArray).data.toList) || decide ((19 : Int) < d.size) || decide (sb d (Int.toNat 0) = 48) && (ng || decide ((1 : Int) < d.size))) = decide (d.size = 0 ∨ 19 < d.size ∨ (bt d 0 = 48 ∧ (ng = true ∨ 1 < d.size))) := by
    rw [Bool.eq_iff_iff]
    simp only [Bool.or_eq_true, Bool.and_eq_true, decide_eq_true_eq, hnil, hsb]
    cases ng <;> simp only [Bool.false_eq_true, false_or, true_or, and_true] <;> omega
  refine x.cond rfl ?_ (fun h => ?_) (fun h => ?_)
  · intro h
    simp only [Bool.or_eq_false_iff, decide_eq_false_iff_not] at h
    have : ¬ d.size = 0 := fun e => h.1 (hnil.2 e)
    omega
  · refine x.exit rfl trivial ?_
    refine ⟨.inr rfl, ?_, trivial, rfl⟩
    have : d.size = 0 ∨ 19 < d.size ∨ (bt d 0 = 48 ∧ (ng = true ∨ 1 < d.size)) := by
      rw [hcond] at h
      simpa only [decide_eq_true_eq] using h
    simp only [numV, hd, hng]
    rw [if_pos this]
    exact ⟨rfl, rfl, trivial⟩
  have hno : ¬ (d.size = 0 ∨ 19 < d.size ∨ (bt d 0 = 48 ∧ (ng = true ∨ 1 < d.size))) := by
    rw [hcond] at h
    simpa only [decide_eq_false_iff_not] using h
  have hsz : d.size ≤ 19 := by omega
  refine x.loop (α := WI d) (fun y => ⟨[(5, vb ng), (6, .d (.int .u64 (y.u : Int))), (35, .ptr 0 0)], [(0, .iter d y.p)], 1⟩) (fun y => d.size + 4 - y.p) ⟨d.size, 0, 0, by omega, rfl, by omega, by simp⟩ rfl trivial ?_ (fun y => ?_)
  · exact ⟨⟨rfl, rfl, ⟨rfl, rfl⟩, trivial⟩, ⟨⟨rfl, rfl⟩, trivial⟩, rfl⟩
  obtain ⟨n, p, u, fuel, same, hp, hu⟩ := y
  change Go C _ ⟨[(5, vb ng), (6, .d (.int .u64 (u : Int))), (35, .ptr 0 0)], [(0, .iter d p)], 1⟩ _
  refine x.next rfl trivial rfl rfl rfl (fun h => ?_) (fun h => ?_)
  · refine x.cond rfl trivial (fun _ => ?_) (fun h1 => by cases h1)
    refine x.pure rfl trivial rfl (digit_spec _) ⟨rfl, trivial⟩ ?_
    cases n with
    | zero => omega
    | succ n =>
      rw [dv, if_pos h] at same
      refine x.cond rfl trivial (fun h2 => ?_) (fun h2 => ?_)
      · have hnd : ¬ (48 ≤ bt d p ∧ bt d p ≤ 57) := fun hh => by
          rw [decode_ascii (by omega)] at h2
          simp at h2
          omega
        rw [if_neg hnd] at same
        refine x.exit rfl trivial ?_
        refine ⟨.inr rfl, ?_, trivial, rfl⟩
        simp only [numV, hd, hng]
        rw [if_neg hno, ← same]
        exact ⟨rfl, rfl, trivial⟩
      · have hdg : 48 ≤ bt d p ∧ bt d p ≤ 57 := by
          by_cases ha : bt d p < 128
          · rw [decode_ascii ha] at h2
            simp at h2
            omega
          · have := decode_high ha
            simp at h2
            omega
        rw [if_pos hdg] at same
        have hdec := decode_ascii (s := d) (p := p) (by omega)
        have hpow : 10 ^ (p + 1) ≤ 10 ^ 19 := Nat.pow_le_pow_right (by omega) (by omega)
        have hu' : 10 * u + (bt d p - 48) < 10 ^ (p + 1) := by rw [Nat.pow_succ]; omega
        refine x.back rfl trivial ?_
        refine ⟨⟨n, p + (Utf8.decode d p).2, 10 * u + (bt d p - 48), by rw [hdec]; omega, by rw [hdec]; exact same, by rw [hdec]; show p + 1 ≤ _; omega, by rw [hdec]; exact hu'⟩, by show d.size + 4 - (p + (Utf8.decode d p).2) < d.size + 4 - p; rw [hdec]; show d.size + 4 - (p + 1) < d.size + 4 - p; omega, ?_⟩
        refine ⟨⟨rfl, ?_, ⟨rfl, rfl⟩, trivial⟩, ⟨⟨rfl, rfl⟩, trivial⟩, rfl⟩
        show IntKind.u64.wrap (IntKind.u64.wrap (10 * (u : Int)) + IntKind.u64.wrap (IntKind.i32.wrap (((Utf8.decode d p).1 : Int) - 48))) = ((10 * u + (bt d p - 48) : Nat) : Int)
        rw [hdec, IntKind.wrap_u64, IntKind.wrap_u64, IntKind.wrap_u64, IntKind.wrap_i32]
        omega
  · refine x.cond rfl trivial (fun h1 => by cases h1) (fun _ => ?_)
    rw [dv_end h] at same
    have hpow : 10 ^ p ≤ 10 ^ 19 := Nat.pow_le_pow_right (by omega) (by omega)
    have hres : numV s = if ng = true ∧ u ≤ 9223372036854775808 then (-(u : Int), true) else if ng = false ∧ u < 9223372036854775808 then ((u : Int), true) else (0, false) := by
      simp only [numV, hd, hng]
      rw [if_neg hno, ← same]
    rw [hres]
    refine x.cond rfl trivial (fun h1 => ?_) (fun h1 => ?_)
    · simp only [Bool.and_eq_true, decide_eq_true_eq] at h1
      refine x.exit rfl trivial ?_
      refine ⟨.inr rfl, ?_, trivial, rfl⟩
      rw [if_pos ⟨h1.1, by omega⟩]
      refine ⟨?_, rfl, trivial⟩
      show IntKind.i64.wrap (IntKind.u64.wrap (0 - (u : Int))) = -(u : Int)
      rw [IntKind.wrap_i64, IntKind.wrap_u64]
      omega
    · rw [if_neg (by rintro ⟨rfl, hh⟩; simp at h1; omega)]
      refine x.cond rfl trivial (fun h2 => ?_) (fun h2 => ?_)
      · simp only [Bool.and_eq_true, Bool.not_eq_true', decide_eq_true_eq] at h2
        refine x.exit rfl trivial ?_
        refine ⟨.inr rfl, ?_, trivial, rfl⟩
        rw [if_pos ⟨h2.1, by omega⟩]
        refine ⟨?_, rfl, trivial⟩
        show IntKind.i64.wrap (u : Int) = (u : Int)
        rw [IntKind.wrap_i64]
        omega
      · refine x.exit rfl trivial ?_
        refine ⟨.inr rfl, ?_, trivial, rfl⟩
        rw [if_neg (by rintro ⟨rfl, hh⟩; simp at h2; omega)]
        exact ⟨rfl, rfl, trivial⟩
end Go.Proofs.Ytgibncjbojocoaa
