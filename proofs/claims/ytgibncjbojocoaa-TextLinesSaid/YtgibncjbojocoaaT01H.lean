/- Places in a text: the program's own. -/
import Derived.Test.YtgibncjbojocoaaT01G
namespace Go.Proofs.Ytgibncjbojocoaa
open Go.Sx
set_option linter.unusedVariables false
set_option linter.unusedSimpArgs false
set_option maxRecDepth 100000

theorem decode_pos (s : ByteArray) (p : Nat) : 1 ≤ (Utf8.decode s p).2 ∧ (Utf8.decode s p).2 ≤ 4 ∧ (Utf8.decode s p).1 < 4294967296 := by
  rw [decode_eq]
  have h0 := bt_lt s p
  unfold dec
  repeat' split
  all_goals simp
  all_goals omega

/-- Line and column from p on. -/
def walkP (s : ByteArray) (e : Int) : Nat → Nat → Int → Int → Int × Int
  | 0, _, l, c => (l, c)
  | n + 1, p, l, c => if p < s.size ∧ (p : Int) < e then
      if (Utf8.decode s p).1 = 10 then walkP s e n (p + (Utf8.decode s p).2) (l + 1) 1 else walkP s e n (p + (Utf8.decode s p).2) l (c + 1)
    else (l, c)
theorem walkP_end {s : ByteArray} {e : Int} {n p : Nat} {l c : Int} (h : ¬ (p < s.size ∧ (p : Int) < e)) : walkP s e n p l c = (l, c) := by
  cases n with
  | zero => rfl
  | succ n => rw [walkP, if_neg h]

def placeV (s : ByteArray) (e : Int) : Int × Int := if e < 0 ∨ (s.size : Int) < e then (0, 0) else walkP s e s.size 0 1 1

structure PI (s : ByteArray) (e : Int) where
  n : Nat
  p : Nat
  l : Int
  c : Int
  fuel : s.size ≤ p + n
  same : walkP s e n p l c = walkP s e s.size 0 1 1
  hl : 1 ≤ l ∧ l ≤ p + 1
  hc : 1 ≤ c ∧ c ≤ p + 1
  hp : p ≤ s.size + 4

theorem place_spec (s : ByteArray) (e : Int) (hs : s.size < 4611686018427387000) : Pure Try.prog 14 [vs s, vi e] (.tup [vi (placeV s e).1, vi (placeV s e).2]) [] := by
  refine Proc.mk (cfg 33) tysOK [] Try.func14 rfl (by kernel_rfl) rfl rfl rfl ?_
  intro C x
  refine x.cond rfl trivial (fun h0 => ?_) (fun h0 => ?_)
  · refine x.exit rfl trivial ?_
    refine ⟨.inr rfl, ?_, trivial, rfl⟩
    rw [placeV, if_pos (by simp at h0; omega)]
    exact ⟨rfl, rfl, trivial⟩
  refine x.loop (α := PI s e) (fun y => ⟨[(0, vs s), (1, vi e), (4, vi y.l), (5, vi y.c), (17, .ptr 0 0)], [(0, .iter s y.p)], 1⟩) (fun y => s.size + 4 - y.p) ⟨s.size, 0, 1, 1, by omega, rfl, by omega, by omega, by omega⟩ rfl trivial ?_ (fun y => ?_)
  · exact ⟨⟨rfl, rfl, rfl, rfl, ⟨rfl, rfl⟩, trivial⟩, ⟨⟨rfl, rfl⟩, trivial⟩, rfl⟩
  obtain ⟨n, p, l, c, fuel, same, hl, hc, hp⟩ := y
  have fin : ¬ (p < s.size ∧ (p : Int) < e) → placeV s e = (l, c) := fun hn => by
    rw [placeV, if_neg (by simp at h0; omega), ← same, walkP_end hn]
  obtain ⟨d1, d2, d3⟩ := decode_pos s p
  refine x.next rfl trivial rfl rfl rfl (fun h => ?_) (fun h => ?_)
  · have h : p < s.size := h
    refine x.cond rfl trivial (fun _ => ?_) (fun h1 => by cases h1)
    refine x.cond rfl trivial (fun h2 => ?_) (fun h2 => ?_)
    · refine x.exit rfl trivial ?_
      refine ⟨.inr rfl, ?_, trivial, rfl⟩
      rw [fin (by simp at h2; omega)]
      exact ⟨rfl, rfl, trivial⟩
    · cases n with
      | zero => omega
      | succ n =>
        have hc2 : p < s.size ∧ (p : Int) < e := ⟨h, by simpa using h2⟩
        rw [walkP, if_pos hc2] at same
        refine x.cond rfl (show inI64 (c + 1) by unfold inI64; omega) (fun h3 => ?_) (fun h3 => ?_)
        · rw [if_pos (by simp at h3; omega)] at same
          refine x.back rfl (show inI64 (l + 1) by unfold inI64; omega) ?_
          refine ⟨⟨n, p + (Utf8.decode s p).2, l + 1, 1, by omega, same, by omega, by omega, by omega⟩, by show s.size + 4 - (p + (Utf8.decode s p).2) < s.size + 4 - p; omega, ?_⟩
          exact ⟨⟨rfl, rfl, rfl, rfl, ⟨rfl, rfl⟩, trivial⟩, ⟨⟨rfl, rfl⟩, trivial⟩, rfl⟩
        · rw [if_neg (by simp at h3; omega)] at same
          refine x.back rfl trivial ?_
          refine ⟨⟨n, p + (Utf8.decode s p).2, l, c + 1, by omega, same, by omega, by omega, by omega⟩, by show s.size + 4 - (p + (Utf8.decode s p).2) < s.size + 4 - p; omega, ?_⟩
          exact ⟨⟨rfl, rfl, rfl, rfl, ⟨rfl, rfl⟩, trivial⟩, ⟨⟨rfl, rfl⟩, trivial⟩, rfl⟩
  · have h : ¬ p < s.size := h
    refine x.cond rfl trivial (fun h1 => by cases h1) (fun _ => ?_)
    refine x.exit rfl trivial ?_
    refine ⟨.inr rfl, ?_, trivial, rfl⟩
    rw [fin (by omega)]
    exact ⟨rfl, rfl, trivial⟩
end Go.Proofs.Ytgibncjbojocoaa
