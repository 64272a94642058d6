/- Is it a name? The reference's answer. -/
import Derived.Test.YtgibncjbojocoaaT01N
namespace Go.Proofs.Ytgibncjbojocoaa
open Go.Sx
set_option linter.unusedVariables false
set_option linter.unusedSimpArgs false
set_option maxRecDepth 100000

def refNameW (s : ByteArray) : Nat → Int → Bool
  | 0, _ => true
  | n + 1, i => if i < s.size then
      if (!letB (formV s i).1 && (decide (i = 0) || !digB (formV s i).1)) = true then false else refNameW s n (nextV s i)
    else true
theorem refNameW_end {s : ByteArray} {n : Nat} {i : Int} (h : ¬ i < s.size) : refNameW s n i = true := by
  cases n with
  | zero => rfl
  | succ n => rw [refNameW, if_neg h]
def refNameV (s : ByteArray) : Bool :=
  if (decide ((s.size : Int) = 0) || decide (0 ≤ badV s s.size 0) || decide (24 < runesV s s.size 0 0)) = true then false else refNameW s s.size 0

structure OI (s : ByteArray) where
  n : Nat
  i : Int
  fuel : (s.size : Int) ≤ i + n
  same : refNameW s n i = refNameW s s.size 0
  hi : 0 ≤ i ∧ i ≤ s.size

theorem ref_name_spec (s : ByteArray) (hs : s.size ≤ 9223372036854775807) : Pure Try.prog 17 [vs s] (vb (refNameV s)) [] := by
  refine Proc.mk (cfg 44) tysOK [] Try.func17 rfl (by kernel_rfl) rfl rfl rfl ?_
  intro C x
  refine x.pureG rfl trivial rfl (fun _ => bad_spec s hs) rfl ⟨rfl, trivial⟩ ?_
  refine x.pureG rfl trivial rfl (fun _ => runes_spec s hs) rfl ⟨rfl, trivial⟩ ?_
  refine x.cond rfl trivial (fun h0 => ?_) (fun h0 => ?_)
  · refine x.exit rfl trivial ?_
    refine ⟨.inr rfl, ?_, trivial, rfl⟩
    rw [refNameV, if_pos h0]
    exact rfl
  have h0' : refNameV s = refNameW s s.size 0 := by
    rw [refNameV, if_neg (by rw [h0]; simp)]
  refine x.loop (α := OI s) (fun y => ⟨[(0, vs s), (3, vi y.i)], [], 0⟩) (fun y => (s.size + 4 - y.i).toNat) ⟨s.size, 0, by omega, rfl, by omega⟩ rfl trivial ?_ (fun y => ?_)
  · exact ⟨⟨rfl, rfl, trivial⟩, trivial, rfl⟩
  obtain ⟨n, i, fuel, same, hi⟩ := y
  change Go C _ ⟨[(0, vs s), (3, vi i)], [], 0⟩ _
  refine x.cond rfl trivial (fun h => ?_) (fun h => ?_)
  · have h' : i < s.size := by simpa using h
    have hn := nextV_gt s i
    have hr := nextV_room s i (by omega)
    refine x.pure rfl trivial rfl (form_spec s i hs) ⟨rfl, rfl, trivial⟩ ?_
    refine x.pure rfl trivial rfl (ref_letter_spec _) ⟨rfl, trivial⟩ ?_
    refine x.pureG rfl trivial rfl (fun _ _ => ref_digit_spec _) rfl ⟨rfl, trivial⟩ ?_
    cases n with
    | zero => omega
    | succ n =>
      rw [refNameW, if_pos h'] at same
      refine x.cond rfl trivial (fun h2 => ?_) (fun h2 => ?_)
      · rw [if_pos (show (!letB (formV s i).1 && (decide (i = 0) || !digB (formV s i).1)) = true from h2)] at same
        refine x.exit rfl trivial ?_
        refine ⟨.inr rfl, ?_, trivial, rfl⟩
        rw [h0', ← same]
        exact rfl
      · rw [if_neg (by rw [show (!letB (formV s i).1 && (decide (i = 0) || !digB (formV s i).1)) = false from h2]; simp)] at same
        refine x.pure rfl trivial rfl (next_spec s i hs (by omega)) ⟨rfl, rfl, trivial⟩ ?_
        refine x.back rfl trivial ?_
        refine ⟨⟨n, nextV s i, by omega, same, by omega⟩, by show ((s.size : Int) + 4 - nextV s i).toNat < ((s.size : Int) + 4 - i).toNat; omega, ?_⟩
        exact ⟨⟨rfl, rfl, trivial⟩, trivial, rfl⟩
  · have h' : ¬ i < s.size := by simpa using h
    refine x.exit rfl trivial ?_
    refine ⟨.inr rfl, ?_, trivial, rfl⟩
    rw [h0', ← same, refNameW_end h']
    exact rfl
end Go.Proofs.Ytgibncjbojocoaa
