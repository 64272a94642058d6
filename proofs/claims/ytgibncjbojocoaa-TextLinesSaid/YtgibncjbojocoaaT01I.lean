/- Places in a text: the reference's. -/
import Derived.Test.YtgibncjbojocoaaT01H
namespace Go.Proofs.Ytgibncjbojocoaa
open Go.Sx
set_option linter.unusedVariables false
set_option linter.unusedSimpArgs false
set_option maxRecDepth 100000

/-- The line, and where it began, of the first k bytes. -/
def scanV (s : ByteArray) : Nat → Nat × Nat
  | 0 => (1, 0)
  | k + 1 => if bt s k = 10 then ((scanV s k).1 + 1, k + 1) else scanV s k
theorem scanV_le (s : ByteArray) (k : Nat) : 1 ≤ (scanV s k).1 ∧ (scanV s k).1 ≤ k + 1 ∧ (scanV s k).2 ≤ k := by
  induction k with
  | zero => simp [scanV]
  | succ k ih => unfold scanV; split <;> (try simp only) <;> omega

/-- The column, from i on. -/
def colV (s : ByteArray) (e : Int) : Nat → Int → Int → Int
  | 0, _, c => c
  | n + 1, i, c => if i < e then colV s e n (nextV s i) (c + 1) else c
theorem veq_int {k : IntKind} {a b : Int} (h : a = b) : VEq (.d (.int k a)) (.d (.int k b)) := by subst h; cases k <;> exact rfl
theorem colV_end {s : ByteArray} {e : Int} {n : Nat} {i c : Int} (h : ¬ i < e) : colV s e n i c = c := by
  cases n with
  | zero => rfl
  | succ n => rw [colV, if_neg h]
theorem nextV_gt (s : ByteArray) (i : Int) : i + 1 ≤ nextV s i ∧ nextV s i ≤ i + 4 := by
  have := formV_len s i
  unfold nextV
  split <;> omega

def refPlaceV (s : ByteArray) (e : Int) : Int × Int :=
  if e < 0 ∨ (s.size : Int) < e then (0, 0) else ((scanV s e.toNat).1, colV s e s.size ((scanV s e.toNat).2 : Int) 1)

structure QI (s : ByteArray) (e i0 : Int) where
  n : Nat
  i : Int
  c : Int
  fuel : e ≤ i + n
  same : colV s e n i c = colV s e s.size i0 1
  hc : 1 ≤ c ∧ c ≤ i + 1
  hi : 0 ≤ i ∧ i ≤ e + 4

theorem ref_place_spec (s : ByteArray) (e : Int) (hs : s.size < 4611686018427387000) : Pure Try.prog 15 [vs s, vi e] (.tup [vi (refPlaceV s e).1, vi (refPlaceV s e).2]) [] := by
  refine Proc.mk (cfg 43) tysOK [] Try.func15 rfl (by kernel_rfl) rfl rfl rfl ?_
  intro C x
  refine x.cond rfl trivial (fun h0 => ?_) (fun h0 => ?_)
  · refine x.exit rfl trivial ?_
    refine ⟨.inr rfl, ?_, trivial, rfl⟩
    rw [refPlaceV, if_pos (by simp at h0; omega)]
    exact ⟨rfl, rfl, trivial⟩
  have he : 0 ≤ e ∧ e ≤ s.size := by
    simp only [Bool.or_eq_false_iff, decide_eq_false_iff_not] at h0
    omega
  refine x.loop (α := { k : Nat // (k : Int) ≤ e }) (fun y => ⟨[(0, vs s), (1, vi e), (6, vi ((scanV s y.1).1 : Int)), (7, vi ((scanV s y.1).2 : Int)), (8, vi (y.1 : Int))], [], 0⟩) (fun y => s.size - y.1) ⟨0, he.1⟩ rfl trivial ?_ (fun y => ?_)
  · exact ⟨⟨rfl, rfl, rfl, rfl, rfl, trivial⟩, trivial, rfl⟩
  obtain ⟨k, hk⟩ := y
  have hsc := scanV_le s k
  change Go C _ ⟨[(0, vs s), (1, vi e), (6, vi ((scanV s k).1 : Int)), (7, vi ((scanV s k).2 : Int)), (8, vi (k : Int))], [], 0⟩ _
  refine x.cond rfl trivial (fun h1 => ?_) (fun h1 => ?_)
  · have h1' : (k : Int) < e := by simpa using h1
    refine x.cond rfl (show 0 ≤ (k : Int) ∧ (k : Int) < s.size by omega) (fun h2 => ?_) (fun h2 => ?_)
    · have h2' : bt s k = 10 := by
        have : sb s (k : Int).toNat = 10 := by simpa using h2
        rw [Int.toNat_natCast, sb_bt] at this
        omega
      refine x.back rfl ?_ ?_
      · show inI64 _ ∧ inI64 _ ∧ inI64 _
        unfold inI64
        omega
      refine ⟨⟨k + 1, by omega⟩, by show s.size - (k + 1) < s.size - k; omega, ?_⟩
      have hsv : scanV s (k + 1) = ((scanV s k).1 + 1, k + 1) := by rw [scanV, if_pos h2']
      refine ⟨⟨rfl, rfl, ?_, ?_, rfl, trivial⟩, trivial, rfl⟩
      · exact veq_int (by show _ = ((scanV s (k + 1)).1 : Int); rw [hsv]; rfl)
      · exact veq_int (by show _ = ((scanV s (k + 1)).2 : Int); rw [hsv]; rfl)
    · have h2' : ¬ bt s k = 10 := by
        intro hb
        have : ¬ sb s (k : Int).toNat = 10 := by simpa using h2
        rw [Int.toNat_natCast, sb_bt] at this
        omega
      refine x.back rfl ?_ ?_
      · show inI64 _
        unfold inI64
        omega
      refine ⟨⟨k + 1, by omega⟩, by show s.size - (k + 1) < s.size - k; omega, ?_⟩
      have hsv : scanV s (k + 1) = scanV s k := by rw [scanV, if_neg h2']
      refine ⟨⟨rfl, rfl, ?_, ?_, rfl, trivial⟩, trivial, rfl⟩
      · exact veq_int (by show _ = ((scanV s (k + 1)).1 : Int); rw [hsv])
      · exact veq_int (by show _ = ((scanV s (k + 1)).2 : Int); rw [hsv])
  · have hke : k = e.toNat := by
      have : ¬ (k : Int) < e := by simpa using h1
      omega
    subst hke
    refine x.loop (α := QI s e ((scanV s e.toNat).2 : Int)) (fun y => ⟨[(0, vs s), (1, vi e), (6, vi ((scanV s e.toNat).1 : Int)), (9, vi y.c), (10, vi y.i)], [], 0⟩) (fun y => (e + 4 - y.i).toNat) ⟨s.size, (scanV s e.toNat).2, 1, by omega, rfl, by omega, by omega⟩ rfl trivial ?_ (fun y => ?_)
    · exact ⟨⟨rfl, rfl, rfl, rfl, rfl, trivial⟩, trivial, rfl⟩
    obtain ⟨n, i, c, fuel, same, hc, hi⟩ := y
    change Go C _ ⟨[(0, vs s), (1, vi e), (6, vi ((scanV s e.toNat).1 : Int)), (9, vi c), (10, vi i)], [], 0⟩ _
    refine x.cond rfl trivial (fun h2 => ?_) (fun h2 => ?_)
    · have h2' : i < e := by simpa using h2
      have hn := nextV_gt s i
      refine x.pure rfl (show inI64 (c + 1) by unfold inI64; omega) rfl (next_spec s i (by omega) (by omega)) ⟨rfl, rfl, trivial⟩ ?_
      refine x.back rfl trivial ?_
      cases n with
      | zero => omega
      | succ n =>
        rw [colV, if_pos h2'] at same
        refine ⟨⟨n, nextV s i, c + 1, by omega, same, by omega, by omega⟩, by show (e + 4 - nextV s i).toNat < (e + 4 - i).toNat; omega, ?_⟩
        exact ⟨⟨rfl, rfl, rfl, rfl, rfl, trivial⟩, trivial, rfl⟩
    · have h2' : ¬ i < e := by simpa using h2
      refine x.exit rfl trivial ?_
      refine ⟨.inr rfl, ?_, trivial, rfl⟩
      rw [refPlaceV, if_neg (by omega), ← same, colV_end h2']
      exact ⟨rfl, rfl, trivial⟩
end Go.Proofs.Ytgibncjbojocoaa
