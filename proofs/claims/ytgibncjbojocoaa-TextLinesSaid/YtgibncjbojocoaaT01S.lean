/- slices.Reverse of bytes. -/
import Derived.Test.YtgibncjbojocoaaT01C
import Derived.Test.YtgibncjbojocoaaSx27
namespace Go.Proofs.Ytgibncjbojocoaa
open Go.Sx
set_option linter.unusedVariables false
set_option linter.unusedSimpArgs false
set_option maxRecDepth 100000

theorem mixedP : Try.prog.follows .mixedOrders = true := by kernel_rfl

/-- The first i turned with the last i. -/
def revF (n i : Nat) (b : Nat → Int) : Nat → Int := fun k => if k < i ∨ n ≤ k + i then b (n - 1 - k) else b k

theorem reverse_spec (n : Nat) (b : Nat → Int) (hn : n ≤ big) : Proc Try.prog 27 1 [.own 0] [.vec 5 1 n fun k => [.int .u8 (b k)]] (.tup []) [.vec 5 1 n fun k => [.int .u8 (b (n - 1 - k))]] := by
  refine Proc.mk (cfg1 28) tysOK [0] Try.func27 rfl (by kernel_rfl) rfl rfl rfl ?_
  intro C x
  unfold big at hn
  refine x.loop (α := { i : Nat // 2 * i ≤ n + 1 }) (fun y => ⟨[(0, .own 0), (2, vi (y.1 : Int)), (3, vi ((n : Int) - 1 - (y.1 : Int)))], [(0, .vec 5 1 n fun k => [.int .u8 (revF n y.1 b k)])], 1⟩) (fun y => n - y.1) ⟨0, by omega⟩ rfl (show inI64 ((n : Int) - 1) by unfold inI64; omega) ?_ (fun y => ?_)
  · refine ⟨⟨rfl, rfl, ?_, trivial⟩, ⟨⟨rfl, rfl, rfl, fun i hi => ?_⟩, trivial⟩, rfl⟩
    · show (n : Int) - 1 = (n : Int) - 1 - 0; omega
    · show [D.int .u8 (b i)] = [D.int .u8 (revF n 0 b i)]
      rw [revF, if_neg (by omega)]
  obtain ⟨i, hi⟩ := y
  change Go C _ ⟨[(0, .own 0), (2, vi (i : Int)), (3, vi ((n : Int) - 1 - (i : Int)))], [(0, .vec 5 1 n fun k => [.int .u8 (revF n i b k)])], 1⟩ _
  refine x.cond rfl trivial (fun h => ?_) (fun h => ?_)
  · have h' : (i : Int) < (n : Int) - 1 - i := by simpa using h
    refine x.plan [0, 1, 2, 3, 4, 5, 8, 9] [6, 7, 10, 11, 12] [13, 14, 15] rfl trivial mixedP (by kernel_rfl) Ret.noPanic ?_
    refine x.qdone rfl ?_ ?_
    · simp only [AllP]; omega
    refine x.back rfl ?_ ?_
    · simp only [AllP, List.length, inI64]; omega
    refine ⟨⟨i + 1, by omega⟩, by show n - (i + 1) < n - i; omega, ⟨rfl, ?_, ?_, trivial⟩, ⟨⟨rfl, rfl, rfl, fun k hk => ?_⟩, trivial⟩, rfl⟩
    · show (i : Int) + 1 = ((i + 1 : Nat) : Int); omega
    · show (n : Int) - 1 - i - 1 = (n : Int) - 1 - ((i + 1 : Nat) : Int); omega
    · rw [put2_int, put2_int]
      show [D.int .u8 (if k = ((n : Int) - 1 - i).toNat then revF n i b (i : Int).toNat else if k = (i : Int).toNat then revF n i b ((n : Int) - 1 - i).toNat else revF n i b k)] = [D.int .u8 (revF n (i + 1) b k)]
      congr 2
      rw [show ((n : Int) - 1 - i).toNat = n - 1 - i by omega, show (i : Int).toNat = i by omega]
      have e1 : revF n i b i = b i := by rw [revF, if_neg (by omega)]
      have e2 : revF n i b (n - 1 - i) = b (n - 1 - i) := by rw [revF, if_neg (by omega)]
      rw [e1, e2]
      by_cases h1 : k = n - 1 - i
      · rw [if_pos h1, revF, if_pos (by omega), h1, show n - 1 - (n - 1 - i) = i by omega]
      · rw [if_neg h1]
        by_cases h2 : k = i
        · rw [if_pos h2, revF, if_pos (by omega), h2]
        · rw [if_neg h2, revF, revF]
          by_cases h3 : k < i ∨ n ≤ k + i
          · rw [if_pos h3, if_pos (by omega)]
          · rw [if_neg h3, if_neg (by omega)]
  · have h' : ¬ (i : Int) < (n : Int) - 1 - i := by simpa using h
    refine x.exit rfl trivial ?_
    refine ⟨.inl rfl, trivial, ⟨⟨rfl, rfl, rfl, fun k hk => ?_⟩, trivial⟩, rfl⟩
    show [D.int .u8 (revF n i b k)] = [D.int .u8 (b (n - 1 - k))]
    rw [revF]
    split
    · rfl
    · rw [show n - 1 - k = k by omega]
end Go.Proofs.Ytgibncjbojocoaa
