/- Is it a name? The program's own answer. -/
import Derived.Test.YtgibncjbojocoaaDoorT01M
import Derived.Test.YtgibncjbojocoaaDoorT01A
namespace Go.Proofs.YtgibncjbojocoaaDoor
open Go.Sx
set_option linter.unusedVariables false
set_option linter.unusedSimpArgs false
set_option maxRecDepth 100000

def letB (r : Int) : Bool := (decide (97 ≤ r) && decide (r ≤ 122) || decide (65 ≤ r) && decide (r ≤ 90) || decide (r = 95) || decide (945 ≤ r) && decide (r ≤ 969) || decide (913 ≤ r) && decide (r ≤ 937) && !decide (r = 930))
def digB (r : Int) : Bool := (decide (48 ≤ r) && decide (r ≤ 57))

def nameW (s : ByteArray) : Nat → Nat → Int → Bool
  | 0, _, c => decide (0 < c)
  | n + 1, p, c => if p < s.size then
      if (!letB (Utf8.decode s p).1 && (decide ((p : Int) = 0) || !digB (Utf8.decode s p).1)) = true then false
      else if 24 < c + 1 then false else nameW s n (p + (Utf8.decode s p).2) (c + 1)
    else decide (0 < c)
theorem nameW_end {s : ByteArray} {n p : Nat} {c : Int} (h : ¬ p < s.size) : nameW s n p c = decide (0 < c) := by
  cases n with
  | zero => rfl
  | succ n => rw [nameW, if_neg h]

structure NI (s : ByteArray) where
  n : Nat
  p : Nat
  c : Int
  fuel : s.size ≤ p + n
  same : nameW s n p c = nameW s s.size 0 0
  hc : 0 ≤ c ∧ c ≤ 24
  hp : p ≤ s.size + 4

theorem name_spec (s : ByteArray) (hs : s.size ≤ 9223372036854775807) : Pure PG 10 [vs s] (vb (nameW s s.size 0 0)) [] := by
  refine Proc.mk (cfg 30) tysOK [] Tryd.func10 rfl (by kernel_rfl) rfl rfl rfl ?_
  intro C x
  refine x.loop (α := NI s) (fun y => ⟨[(0, vs s), (3, vi y.c), (7, .ptr 0 0)], [(0, .iter s y.p)], 1⟩) (fun y => s.size + 4 - y.p) ⟨s.size, 0, 0, by omega, rfl, by omega, by omega⟩ rfl trivial ?_ (fun y => ?_)
  · exact ⟨⟨rfl, rfl, ⟨rfl, rfl⟩, trivial⟩, ⟨⟨rfl, rfl⟩, trivial⟩, rfl⟩
  obtain ⟨n, p, c, fuel, same, hc, hp⟩ := y
  change Go C _ ⟨[(0, vs s), (3, vi c), (7, .ptr 0 0)], [(0, .iter s p)], 1⟩ _
  obtain ⟨d1, d2, d3⟩ := decode_pos s p
  refine x.next rfl trivial rfl rfl rfl (fun h => ?_) (fun h => ?_)
  · refine x.cond rfl trivial (fun _ => ?_) (fun h1 => by cases h1)
    refine x.pure rfl trivial rfl (letter_spec _) ⟨rfl, trivial⟩ ?_
    refine x.pureG rfl trivial rfl (fun _ _ => digit_spec _) rfl ⟨rfl, trivial⟩ ?_
    cases n with
    | zero => omega
    | succ n =>
      rw [nameW, if_pos h] at same
      refine x.cond rfl trivial (fun h2 => ?_) (fun h2 => ?_)
      · refine x.exit rfl trivial ?_
        refine ⟨.inr rfl, ?_, trivial, rfl⟩
        rw [if_pos (show (!letB (Utf8.decode s p).1 && (decide ((p : Int) = 0) || !digB (Utf8.decode s p).1)) = true from h2)] at same
        rw [← same]
        exact rfl
      · rw [if_neg (by rw [show (!letB (Utf8.decode s p).1 && (decide ((p : Int) = 0) || !digB (Utf8.decode s p).1)) = false from h2]; simp)] at same
        refine x.cond rfl (show inI64 (c + 1) by unfold inI64; omega) (fun h3 => ?_) (fun h3 => ?_)
        · refine x.exit rfl trivial ?_
          refine ⟨.inr rfl, ?_, trivial, rfl⟩
          rw [if_pos (by simpa using h3)] at same
          rw [← same]
          exact rfl
        · rw [if_neg (by simpa using h3)] at same
          refine x.back rfl trivial ?_
          refine ⟨⟨n, p + (Utf8.decode s p).2, c + 1, by omega, same, by simp at h3; omega, by omega⟩, by show s.size + 4 - (p + (Utf8.decode s p).2) < s.size + 4 - p; omega, ?_⟩
          exact ⟨⟨rfl, rfl, ⟨rfl, rfl⟩, trivial⟩, ⟨⟨rfl, rfl⟩, trivial⟩, rfl⟩
  · refine x.cond rfl trivial (fun h1 => by cases h1) (fun _ => ?_)
    refine x.exit rfl trivial ?_
    refine ⟨.inr rfl, ?_, trivial, rfl⟩
    rw [← same, nameW_end h]
    exact rfl
end Go.Proofs.YtgibncjbojocoaaDoor
