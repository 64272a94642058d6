/- A number out of its text: the reference's; both answer alike. -/
import Derived.Test.YtgibncjbojocoaaT01W
namespace Go.Proofs.Ytgibncjbojocoaa
open Go.Sx
set_option linter.unusedVariables false
set_option linter.unusedSimpArgs false
set_option maxRecDepth 100000

def frV (s : ByteArray) : Nat := if 0 < s.size ∧ bt s 0 = 45 then 1 else 0
theorem frV_le (s : ByteArray) : frV s ≤ 1 := by unfold frV; split <;> omega
theorem frV_size (s : ByteArray) : frV s ≤ s.size := by unfold frV; split <;> omega
def backN (s : ByteArray) (u : Nat) : Int := if frV s = 1 then IntKind.i64.wrap (IntKind.u64.wrap (0 - (u : Int))) else IntKind.i64.wrap (u : Int)
def refNumV (s : ByteArray) : Int × Bool :=
  if s.size = frV s ∨ frV s + 19 < s.size then (0, false)
  else match dv s s.size (frV s) 0 with
    | none => (0, false)
    | some u => if (showV (backN s u)).data.toList = s.data.toList then (backN s u, true) else (0, false)

theorem backN_in (s : ByteArray) (u : Nat) : inI64 (backN s u) := by
  unfold backN inI64
  split
  · rw [IntKind.wrap_i64]; omega
  · rw [IntKind.wrap_i64]; omega

structure XI (s : ByteArray) where
  n : Nat
  i : Nat
  u : Nat
  fuel : s.size ≤ i + n
  same : dv s n i u = dv s s.size (frV s) 0
  hi : frV s ≤ i ∧ i ≤ s.size
  hu : u < 10 ^ (i - frV s)

theorem ref_number_spec (s : ByteArray) (hs : s.size ≤ 9223372036854775807) : Pure Try.prog 21 [vs s] (.tup [vi (refNumV s).1, vb (refNumV s).2]) [] := by
  refine Proc.mk ⟨64, 0, false, tys⟩ tysOK [] Try.func21 rfl (by kernel_rfl) rfl rfl rfl ?_
  intro C x
  have hfr := frV_le s
  refine x.ite (α := Unit) (fun _ => ⟨[(0, vs s), (4, vi (frV s : Int))], [], 0⟩) rfl (fun h => by simp only [decide_eq_true_eq] at h; exact ⟨by omega, h⟩) (fun h => ?_) (fun h => ?_) (fun _ => ?_)
  · refine x.back rfl trivial ⟨(), ⟨rfl, ?_, trivial⟩, trivial, rfl⟩
    show (1 : Int) = (frV s : Int)
    simp only [Bool.and_eq_true, decide_eq_true_eq] at h
    rw [show sb s (Int.toNat 0) = (bt s 0 : Int) from sb_bt s 0] at h
    rw [frV, if_pos (by omega)]
    rfl
  · refine x.back rfl trivial ⟨(), ⟨rfl, ?_, trivial⟩, trivial, rfl⟩
    show (0 : Int) = (frV s : Int)
    simp only [Bool.and_eq_false_iff, decide_eq_false_iff_not] at h
    rw [show sb s (Int.toNat 0) = (bt s 0 : Int) from sb_bt s 0] at h
    rw [frV, if_neg (by omega)]
    rfl
  have hw : IntKind.i64.wrap ((frV s : Int) + 19) = (frV s : Int) + 19 := by rw [IntKind.wrap_i64]; omega
  refine x.cond rfl trivial (fun h => ?_) (fun h => ?_)
  · refine x.exit rfl trivial ?_
    refine ⟨.inr rfl, ?_, trivial, rfl⟩
    simp only [Bool.or_eq_true, decide_eq_true_eq, hw] at h
    rw [refNumV, if_pos (by omega)]
    exact ⟨rfl, rfl, trivial⟩
  have hno : ¬ (s.size = frV s ∨ frV s + 19 < s.size) := by
    simp only [Bool.or_eq_false_iff, decide_eq_false_iff_not, hw] at h
    omega
  refine x.loop (α := XI s) (fun y => ⟨[(0, vs s), (4, vi (frV s : Int)), (5, .d (.int .u64 (y.u : Int))), (6, vi (y.i : Int))], [], 0⟩) (fun y => s.size - y.i) ⟨s.size, frV s, 0, by omega, rfl, ⟨Nat.le_refl _, frV_size s⟩, by simp⟩ rfl trivial ?_ (fun y => ?_)
  · exact ⟨⟨rfl, rfl, rfl, rfl, trivial⟩, trivial, rfl⟩
  obtain ⟨n, i, u, fuel, same, hi, hu⟩ := y
  change Go C _ ⟨[(0, vs s), (4, vi (frV s : Int)), (5, .d (.int .u64 (u : Int))), (6, vi (i : Int))], [], 0⟩ _
  have hsb : sb s (i : Int).toNat = (bt s i : Int) := by rw [Int.toNat_natCast]; exact sb_bt s i
  refine x.cond rfl trivial (fun h => ?_) (fun h => ?_)
  · have h' : i < s.size := by simpa using h
    have hpow : 10 ^ (i - frV s + 1) ≤ 10 ^ 19 := Nat.pow_le_pow_right (by omega) (by omega)
    cases n with
    | zero => omega
    | succ n =>
    rw [dv, if_pos h'] at same
    refine x.cond rfl ?_ (fun h2 => ?_) (fun h2 => ?_)
    · simp only [AllP]; omega
    · simp only [Bool.or_eq_true, decide_eq_true_eq, hsb] at h2
      rw [if_neg (by omega)] at same
      refine x.exit rfl trivial ?_
      refine ⟨.inr rfl, ?_, trivial, rfl⟩
      rw [refNumV, if_neg hno, ← same]
      exact ⟨rfl, rfl, trivial⟩
    · simp only [Bool.or_eq_false_iff, decide_eq_false_iff_not, hsb] at h2
      have hdg : 48 ≤ bt s i ∧ bt s i ≤ 57 := by omega
      rw [if_pos hdg] at same
      have hu' : 10 * u + (bt s i - 48) < 10 ^ (i - frV s + 1) := by rw [Nat.pow_succ]; omega
      refine x.back rfl ?_ ?_
      · simp only [AllP]; omega
      refine ⟨⟨n, i + 1, 10 * u + (bt s i - 48), by omega, same, by omega, by rw [show i + 1 - frV s = i - frV s + 1 by omega]; exact hu'⟩, by show s.size - (i + 1) < s.size - i; omega, ⟨rfl, rfl, ?_, ?_, trivial⟩, trivial, rfl⟩
      · show IntKind.u64.wrap (IntKind.u64.wrap ((u : Int) * 10) + IntKind.u64.wrap (IntKind.u8.wrap (sb s (i : Int).toNat - 48))) = ((10 * u + (bt s i - 48) : Nat) : Int)
        rw [hsb, IntKind.wrap_u64, IntKind.wrap_u64, IntKind.wrap_u64, IntKind.wrap_u8]
        omega
      · show IntKind.i64.wrap ((i : Int) + 1) = ((i + 1 : Nat) : Int)
        rw [IntKind.wrap_i64]
        omega
  · have h' : ¬ i < s.size := by simpa using h
    rw [dv_end h'] at same
    have hr : refNumV s = if (showV (backN s u)).data.toList = s.data.toList then (backN s u, true) else (0, false) := by
      rw [refNumV, if_neg hno, ← same]
    refine x.ite (α := Unit) (fun _ => ⟨[(0, vs s), (7, vi (backN s u))], [], 0⟩) rfl trivial (fun h2 => ?_) (fun h2 => ?_) (fun _ => ?_)
    · refine x.back rfl trivial ⟨(), ⟨rfl, ?_, trivial⟩, trivial, rfl⟩
      show _ = backN s u
      rw [backN, if_pos (by simp at h2; omega)]
    · refine x.back rfl trivial ⟨(), ⟨rfl, ?_, trivial⟩, trivial, rfl⟩
      show _ = backN s u
      rw [backN, if_neg (by simp at h2; omega)]
    refine x.pure rfl trivial rfl (ref_show_spec _ (backN_in s u)) ⟨rfl, trivial⟩ ?_
    rw [hr]
    refine x.cond rfl trivial (fun h3 => ?_) (fun h3 => ?_)
    · refine x.exit rfl trivial ?_
      refine ⟨.inr rfl, ?_, trivial, rfl⟩
      rw [if_neg (by simpa using h3)]
      exact ⟨rfl, rfl, trivial⟩
    · refine x.exit rfl trivial ?_
      refine ⟨.inr rfl, ?_, trivial, rfl⟩
      rw [if_pos (by simpa using h3)]
      exact ⟨rfl, rfl, trivial⟩
end Go.Proofs.Ytgibncjbojocoaa
