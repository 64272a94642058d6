/- How many runes a text has, and where a bad one stands: the reference's. -/
import Derived.Test.YtgibncjbojocoaaDoorT01L
namespace Go.Proofs.YtgibncjbojocoaaDoor
open Go.Sx
set_option linter.unusedVariables false
set_option linter.unusedSimpArgs false
set_option maxRecDepth 100000

def runesV (s : ByteArray) : Nat → Int → Int → Int
  | 0, _, c => c
  | n + 1, i, c => if i < s.size then runesV s n (nextV s i) (c + 1) else c
theorem runesV_end {s : ByteArray} {n : Nat} {i c : Int} (h : ¬ i < s.size) : runesV s n i c = c := by
  cases n with
  | zero => rfl
  | succ n => rw [runesV, if_neg h]
def badV (s : ByteArray) : Nat → Int → Int
  | 0, _ => -1
  | n + 1, i => if i < s.size then if (formV s i).2 = 0 then i else badV s n (i + (formV s i).2) else -1
theorem badV_end {s : ByteArray} {n : Nat} {i : Int} (h : ¬ i < s.size) : badV s n i = -1 := by
  cases n with
  | zero => rfl
  | succ n => rw [badV, if_neg h]

structure RI (s : ByteArray) where
  n : Nat
  i : Int
  c : Int
  fuel : (s.size : Int) ≤ i + n
  same : runesV s n i c = runesV s s.size 0 0
  hc : 0 ≤ c ∧ c ≤ i
  hi : 0 ≤ i ∧ i ≤ s.size

theorem runes_spec (s : ByteArray) (hs : s.size ≤ 9223372036854775807) : Pure PG 9 [vs s] (vi (runesV s s.size 0 0)) [] := by
  refine Proc.mk (cfg 15) tysOK [] Tryd.func9 rfl (by kernel_rfl) rfl rfl rfl ?_
  intro C x
  refine x.loop (α := RI s) (fun y => ⟨[(0, vs s), (3, vi y.c), (4, vi y.i)], [], 0⟩) (fun y => (s.size + 4 - y.i).toNat) ⟨s.size, 0, 0, by omega, rfl, by omega, by omega⟩ rfl trivial ?_ (fun y => ?_)
  · exact ⟨⟨rfl, rfl, rfl, trivial⟩, trivial, rfl⟩
  obtain ⟨n, i, c, fuel, same, hc, hi⟩ := y
  change Go C _ ⟨[(0, vs s), (3, vi c), (4, vi i)], [], 0⟩ _
  refine x.cond rfl trivial (fun h => ?_) (fun h => ?_)
  · have h' : i < s.size := by simpa using h
    have hn := nextV_gt s i
    have hr := nextV_room s i (by omega)
    refine x.pure rfl (show inI64 (c + 1) by unfold inI64; omega) rfl (next_spec s i hs (by omega)) ⟨rfl, rfl, trivial⟩ ?_
    refine x.back rfl trivial ?_
    cases n with
    | zero => omega
    | succ n =>
      rw [runesV, if_pos h'] at same
      refine ⟨⟨n, nextV s i, c + 1, by omega, same, by omega, by omega⟩, by show ((s.size : Int) + 4 - nextV s i).toNat < ((s.size : Int) + 4 - i).toNat; omega, ?_⟩
      exact ⟨⟨rfl, rfl, rfl, trivial⟩, trivial, rfl⟩
  · have h' : ¬ i < s.size := by simpa using h
    refine x.exit rfl trivial ?_
    refine ⟨.inr rfl, ?_, trivial, rfl⟩
    rw [← same, runesV_end h']
    exact rfl

structure BI (s : ByteArray) where
  n : Nat
  i : Int
  fuel : (s.size : Int) ≤ i + n
  same : badV s n i = badV s s.size 0
  hi : 0 ≤ i ∧ i ≤ s.size

theorem bad_spec (s : ByteArray) (hs : s.size ≤ 9223372036854775807) : Pure PG 7 [vs s] (vi (badV s s.size 0)) [] := by
  refine Proc.mk (cfg 22) tysOK [] Tryd.func7 rfl (by kernel_rfl) rfl rfl rfl ?_
  intro C x
  refine x.loop (α := BI s) (fun y => ⟨[(0, vs s), (3, vi y.i)], [], 0⟩) (fun y => (s.size + 4 - y.i).toNat) ⟨s.size, 0, by omega, rfl, by omega⟩ rfl trivial ?_ (fun y => ?_)
  · exact ⟨⟨rfl, rfl, trivial⟩, trivial, rfl⟩
  obtain ⟨n, i, fuel, same, hi⟩ := y
  change Go C _ ⟨[(0, vs s), (3, vi i)], [], 0⟩ _
  refine x.cond rfl trivial (fun h => ?_) (fun h => ?_)
  · have h' : i < s.size := by simpa using h
    have hl := formV_len s i
    have hr := formV_room s i (by omega)
    refine x.pure rfl trivial rfl (form_spec s i hs) ⟨rfl, rfl, trivial⟩ ?_
    cases n with
    | zero => omega
    | succ n =>
      rw [badV, if_pos h'] at same
      refine x.cond rfl trivial (fun h1 => ?_) (fun h1 => ?_)
      · have h1' : (formV s i).2 = 0 := by simpa using h1
        rw [if_pos h1'] at same
        refine x.exit rfl trivial ?_
        refine ⟨.inr rfl, ?_, trivial, rfl⟩
        rw [← same]
        exact rfl
      · have h1' : ¬ (formV s i).2 = 0 := by simpa using h1
        rw [if_neg h1'] at same
        refine x.back rfl (show inI64 (i + (formV s i).2) by unfold inI64; omega) ?_
        refine ⟨⟨n, i + (formV s i).2, by omega, same, by omega⟩, by show ((s.size : Int) + 4 - (i + (formV s i).2)).toNat < ((s.size : Int) + 4 - i).toNat; omega, ?_⟩
        exact ⟨⟨rfl, rfl, trivial⟩, trivial, rfl⟩
  · have h' : ¬ i < s.size := by simpa using h
    refine x.exit rfl trivial ?_
    refine ⟨.inr rfl, ?_, trivial, rfl⟩
    rw [← same, badV_end h']
    exact rfl
end Go.Proofs.YtgibncjbojocoaaDoor
