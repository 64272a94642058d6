/- The reference's form of a rune. -/
import Derived.Test.YtgibncjbojocoaaDoorT01A
import Derived.Test.YtgibncjbojocoaaDoorT01P
import Derived.Test.YtgibncjbojocoaaDoorSx25
namespace Go.Proofs.YtgibncjbojocoaaDoor
open Go.Sx
set_option linter.unusedVariables false
set_option linter.unusedSimpArgs false
set_option maxRecDepth 100000

theorem drawsMixed : Tryd.prog.follows .mixedOrders = true := by kernel_rfl

theorem inI64_small {n : Int} (h0 : -4611686018427387904 ≤ n) (h1 : n ≤ 4611686018427387904) : inI64 n := by unfold inI64; omega
section
variable {s : ByteArray} {i : Int} (h : 0 ≤ i ∧ i < s.size) (hs : s.size ≤ 9223372036854775807)
include h hs
theorem ob2 (h2 : (decide (194 ≤ sb s i.toNat) && decide (sb s i.toNat ≤ 223) && moreB s (i + 1) 128 191) = true) :
    AllP [inI64 (bitI BinOp.and IntKind.u8 (sb s i.toNat) 31), inI64 (bitI BinOp.and IntKind.u8 (sb s i.toNat) 31 * 64),
      inI64 (i + 1), 0 ≤ i + 1 ∧ i + 1 < ↑s.size, inI64 (bitI BinOp.and IntKind.u8 (sb s (i + 1).toNat) 63),
      inI64 (bitI BinOp.and IntKind.u8 (sb s i.toNat) 31 * 64 + bitI BinOp.and IntKind.u8 (sb s (i + 1).toNat) 63)] := by
  rw [mask31 (sb_nonneg _ _) (sb_lt _ _), mask63 (sb_nonneg _ _) (sb_lt _ _)]
  simp only [moreB, Bool.and_eq_true, decide_eq_true_eq] at h2
  simp only [AllP, inI64]
  omega
theorem ob3 {y z : Int} (h2 : (moreB s (i + 1) y z && moreB s (i + 2) 128 191) = true) :
    AllP [inI64 (bitI BinOp.and IntKind.u8 (sb s i.toNat) 15), inI64 (bitI BinOp.and IntKind.u8 (sb s i.toNat) 15 * 4096),
      inI64 (i + 1), 0 ≤ i + 1 ∧ i + 1 < ↑s.size, inI64 (bitI BinOp.and IntKind.u8 (sb s (i + 1).toNat) 63), inI64 (bitI BinOp.and IntKind.u8 (sb s (i + 1).toNat) 63 * 64),
      inI64 (bitI BinOp.and IntKind.u8 (sb s i.toNat) 15 * 4096 + bitI BinOp.and IntKind.u8 (sb s (i + 1).toNat) 63 * 64),
      inI64 (i + 2), 0 ≤ i + 2 ∧ i + 2 < ↑s.size, inI64 (bitI BinOp.and IntKind.u8 (sb s (i + 2).toNat) 63),
      inI64 (bitI BinOp.and IntKind.u8 (sb s i.toNat) 15 * 4096 + bitI BinOp.and IntKind.u8 (sb s (i + 1).toNat) 63 * 64 + bitI BinOp.and IntKind.u8 (sb s (i + 2).toNat) 63)] := by
  rw [mask15 (sb_nonneg _ _) (sb_lt _ _), mask63 (sb_nonneg _ _) (sb_lt _ _), mask63 (sb_nonneg _ _) (sb_lt _ _)]
  simp only [moreB, Bool.and_eq_true, decide_eq_true_eq] at h2
  simp only [AllP, inI64]
  omega
theorem ob4 {y z : Int} (h2 : (moreB s (i + 1) y z && moreB s (i + 2) 128 191 && moreB s (i + 3) 128 191) = true) :
    AllP [inI64 (bitI BinOp.and IntKind.u8 (sb s i.toNat) 7), inI64 (bitI BinOp.and IntKind.u8 (sb s i.toNat) 7 * 262144),
      inI64 (i + 1), 0 ≤ i + 1 ∧ i + 1 < ↑s.size, inI64 (bitI BinOp.and IntKind.u8 (sb s (i + 1).toNat) 63), inI64 (bitI BinOp.and IntKind.u8 (sb s (i + 1).toNat) 63 * 4096),
      inI64 (bitI BinOp.and IntKind.u8 (sb s i.toNat) 7 * 262144 + bitI BinOp.and IntKind.u8 (sb s (i + 1).toNat) 63 * 4096),
      inI64 (i + 2), 0 ≤ i + 2 ∧ i + 2 < ↑s.size, inI64 (bitI BinOp.and IntKind.u8 (sb s (i + 2).toNat) 63), inI64 (bitI BinOp.and IntKind.u8 (sb s (i + 2).toNat) 63 * 64),
      inI64 (bitI BinOp.and IntKind.u8 (sb s i.toNat) 7 * 262144 + bitI BinOp.and IntKind.u8 (sb s (i + 1).toNat) 63 * 4096 + bitI BinOp.and IntKind.u8 (sb s (i + 2).toNat) 63 * 64),
      inI64 (i + 3), 0 ≤ i + 3 ∧ i + 3 < ↑s.size, inI64 (bitI BinOp.and IntKind.u8 (sb s (i + 3).toNat) 63),
      inI64 (bitI BinOp.and IntKind.u8 (sb s i.toNat) 7 * 262144 + bitI BinOp.and IntKind.u8 (sb s (i + 1).toNat) 63 * 4096 + bitI BinOp.and IntKind.u8 (sb s (i + 2).toNat) 63 * 64 + bitI BinOp.and IntKind.u8 (sb s (i + 3).toNat) 63)] := by
  rw [mask7 (sb_nonneg _ _) (sb_lt _ _), mask63 (sb_nonneg _ _) (sb_lt _ _), mask63 (sb_nonneg _ _) (sb_lt _ _), mask63 (sb_nonneg _ _) (sb_lt _ _)]
  simp only [moreB, Bool.and_eq_true, decide_eq_true_eq] at h2
  simp only [AllP, inI64]
  omega
end
theorem no34 {a : Int} (h : (decide (224 ≤ a) && decide (a ≤ 239)) = true) : ¬ (decide (240 ≤ a) && decide (a ≤ 244)) = true := by
  simp only [Bool.and_eq_true, decide_eq_true_eq] at *; omega
theorem no34' {a : Int} (h : (decide (224 ≤ a) && decide (a ≤ 239)) = true) : ¬ (240 ≤ a ∧ a ≤ 244) := by
  simp only [Bool.and_eq_true, decide_eq_true_eq] at *; omega
theorem no34f {a : Int} (h : (decide (224 ≤ a) && decide (a ≤ 239)) = false) : ¬ (224 ≤ a ∧ a ≤ 239) := by
  simp only [Bool.and_eq_false_iff, decide_eq_false_iff_not] at *; omega
theorem no34g {a : Int} (h : (decide (240 ≤ a) && decide (a ≤ 244)) = false) : ¬ (240 ≤ a ∧ a ≤ 244) := by
  simp only [Bool.and_eq_false_iff, decide_eq_false_iff_not] at *; omega

theorem mlt1 {s : ByteArray} {i lo hi : Int} (h : moreB s (i + 1) lo hi = true) : i + 2 ≤ s.size := by
  simp only [moreB, Bool.and_eq_true, decide_eq_true_eq] at h; omega
theorem mlt2 {s : ByteArray} {i lo hi lo' hi' : Int} (h : (moreB s (i + 1) lo hi && moreB s (i + 2) lo' hi') = true) : i + 3 ≤ s.size := by
  simp only [moreB, Bool.and_eq_true, decide_eq_true_eq] at h; omega

set_option maxHeartbeats 4000000 in
theorem form_spec (s : ByteArray) (i : Int) (hs : s.size ≤ 9223372036854775807) : Pure PG 12 [vs s, vi i] (.tup [vi (formV s i).1, vi (formV s i).2]) [] := by
  refine Proc.mk (cfg 145) tysOK [] Tryd.func12 rfl (by kernel_rfl) rfl rfl rfl ?_
  intro C x
  refine x.cond rfl trivial (fun h0 => ?_) (fun h0 => ?_)
  · refine x.exit rfl trivial ?_
    refine ⟨.inr rfl, ?_, trivial, rfl⟩
    rw [formV_out (by simp at h0; omega)]
    exact ⟨rfl, rfl, trivial⟩
  have hi : 0 ≤ i ∧ i < s.size := by
    simp only [Bool.or_eq_false_iff, decide_eq_false_iff_not] at h0
    omega
  have hin : ∀ k : Int, 0 ≤ k ∧ i + k ≤ s.size → inI64 (i + k) := fun k hk => by unfold inI64; omega
  have hm : ∀ k lo hi : Int, 0 ≤ k → Pure PG 17 [vs s, vi (i + k), .d (.int .u8 lo), .d (.int .u8 hi)] (vb (moreB s (i + k) lo hi)) [] := fun k lo hi hk => more_spec s (i + k) lo hi (by omega)
  have hsb := sb_nonneg s i.toNat
  have hsb' := sb_lt s i.toNat
  refine x.cond rfl hi (fun h1 => ?_) (fun h1 => ?_)
  · refine x.exit rfl ?_ ?_
    · show inI64 _
      unfold inI64
      omega
    refine ⟨.inr rfl, ?_, trivial, rfl⟩
    rw [form1 hi h1]
    exact ⟨rfl, rfl, trivial⟩
  refine x.pureG rfl (fun _ => hin 1 (by omega)) rfl (fun _ => hm 1 128 191 (by omega)) rfl ⟨rfl, rfl, rfl, rfl, trivial⟩ ?_
  refine x.cond rfl trivial (fun h2 => ?_) (fun h2 => ?_)
  · refine x.exit rfl (ob2 hi hs h2) ?_
    refine ⟨.inr rfl, ?_, trivial, rfl⟩
    rw [form2 hi h2]
    exact ⟨rfl, rfl, trivial⟩
  refine x.cond rfl trivial (fun h3 => ?_) (fun h3 => ?_)
  · refine x.cond rfl trivial (fun h4 => ?_) (fun h4 => ?_)
    · refine x.cond rfl trivial (fun h5 => ?_) (fun h5 => ?_)
      · simp at h4 h5; omega
      · have hy : (sb s i.toNat = 224 → (160:Int) ≤ 160) ∧ (128:Int) ≤ 160 := by omega
        have hz : (sb s i.toNat = 237 → (191:Int) ≤ 159) ∧ (191:Int) ≤ 191 := by simp at h4 h5; omega
        refine x.pure rfl (by exact hin 1 (by omega)) rfl (hm 1 160 191 (by omega)) ⟨rfl, rfl, rfl, rfl, trivial⟩ ?_
        refine x.pureG rfl (fun hg => hin 2 ⟨by omega, mlt1 hg⟩) rfl (fun _ => hm 2 128 191 (by omega)) rfl ⟨rfl, rfl, rfl, rfl, trivial⟩ ?_
        refine x.cond rfl trivial (fun h6 => ?_) (fun h6 => ?_)
        · refine x.quiet rfl trivial drawsMixed (by kernel_rfl) ?_
          refine x.qdone rfl ?_ ?_
          · exact ob3 hi hs h6
          refine x.exit rfl trivial ?_
          refine ⟨.inr rfl, ?_, trivial, rfl⟩
          rw [form3 hi 160 191 (Bool.and_eq_true_iff.1 h3) (by first | exact hy | (simp at * <;> omega)) (by first | exact hz | (simp at * <;> omega)) h6]
          exact ⟨rfl, rfl, trivial⟩
        · refine x.cond rfl trivial (fun h7 => absurd h7 (no34 h3)) (fun h7 => ?_)
          refine x.exit rfl trivial ?_
          refine ⟨.inr rfl, ?_, trivial, rfl⟩
          rw [formBad hi h1 h2 (fun _ => ⟨160, 191, by simp at * <;> omega, by simp at * <;> omega, h6⟩) (fun h8 => absurd h8 (no34' h3))]
          exact ⟨rfl, rfl, trivial⟩
    · refine x.cond rfl trivial (fun h5 => ?_) (fun h5 => ?_)
      · have hy : (sb s i.toNat = 224 → (160:Int) ≤ 128) ∧ (128:Int) ≤ 128 := by simp at h4 h5; omega
        have hz : (sb s i.toNat = 237 → (159:Int) ≤ 159) ∧ (159:Int) ≤ 191 := by omega
        refine x.pure rfl (by exact hin 1 (by omega)) rfl (hm 1 128 159 (by omega)) ⟨rfl, rfl, rfl, rfl, trivial⟩ ?_
        refine x.pureG rfl (fun hg => hin 2 ⟨by omega, mlt1 hg⟩) rfl (fun _ => hm 2 128 191 (by omega)) rfl ⟨rfl, rfl, rfl, rfl, trivial⟩ ?_
        refine x.cond rfl trivial (fun h6 => ?_) (fun h6 => ?_)
        · refine x.quiet rfl trivial drawsMixed (by kernel_rfl) ?_
          refine x.qdone rfl ?_ ?_
          · exact ob3 hi hs h6
          refine x.exit rfl trivial ?_
          refine ⟨.inr rfl, ?_, trivial, rfl⟩
          rw [form3 hi 128 159 (Bool.and_eq_true_iff.1 h3) (by first | exact hy | (simp at * <;> omega)) (by first | exact hz | (simp at * <;> omega)) h6]
          exact ⟨rfl, rfl, trivial⟩
        · refine x.cond rfl trivial (fun h7 => absurd h7 (no34 h3)) (fun h7 => ?_)
          refine x.exit rfl trivial ?_
          refine ⟨.inr rfl, ?_, trivial, rfl⟩
          rw [formBad hi h1 h2 (fun _ => ⟨128, 159, by simp at * <;> omega, by simp at * <;> omega, h6⟩) (fun h8 => absurd h8 (no34' h3))]
          exact ⟨rfl, rfl, trivial⟩
      · have hy : (sb s i.toNat = 224 → (160:Int) ≤ 128) ∧ (128:Int) ≤ 128 := by simp at h4 h5; omega
        have hz : (sb s i.toNat = 237 → (191:Int) ≤ 159) ∧ (191:Int) ≤ 191 := by simp at h4 h5; omega
        refine x.pure rfl (by exact hin 1 (by omega)) rfl (hm 1 128 191 (by omega)) ⟨rfl, rfl, rfl, rfl, trivial⟩ ?_
        refine x.pureG rfl (fun hg => hin 2 ⟨by omega, mlt1 hg⟩) rfl (fun _ => hm 2 128 191 (by omega)) rfl ⟨rfl, rfl, rfl, rfl, trivial⟩ ?_
        refine x.cond rfl trivial (fun h6 => ?_) (fun h6 => ?_)
        · refine x.quiet rfl trivial drawsMixed (by kernel_rfl) ?_
          refine x.qdone rfl ?_ ?_
          · exact ob3 hi hs h6
          refine x.exit rfl trivial ?_
          refine ⟨.inr rfl, ?_, trivial, rfl⟩
          rw [form3 hi 128 191 (Bool.and_eq_true_iff.1 h3) (by first | exact hy | (simp at * <;> omega)) (by first | exact hz | (simp at * <;> omega)) h6]
          exact ⟨rfl, rfl, trivial⟩
        · refine x.cond rfl trivial (fun h7 => absurd h7 (no34 h3)) (fun h7 => ?_)
          refine x.exit rfl trivial ?_
          refine ⟨.inr rfl, ?_, trivial, rfl⟩
          rw [formBad hi h1 h2 (fun _ => ⟨128, 191, by simp at * <;> omega, by simp at * <;> omega, h6⟩) (fun h8 => absurd h8 (no34' h3))]
          exact ⟨rfl, rfl, trivial⟩
  refine x.cond rfl trivial (fun h7 => ?_) (fun h7 => ?_)
  · refine x.cond rfl trivial (fun h4 => ?_) (fun h4 => ?_)
    · refine x.cond rfl trivial (fun h5 => ?_) (fun h5 => ?_)
      · simp at h4 h5; omega
      · refine x.pure rfl (by exact hin 1 (by omega)) rfl (hm 1 144 191 (by omega)) ⟨rfl, rfl, rfl, rfl, trivial⟩ ?_
        refine x.pureG rfl (fun hg => hin 2 ⟨by omega, mlt1 hg⟩) rfl (fun _ => hm 2 128 191 (by omega)) rfl ⟨rfl, rfl, rfl, rfl, trivial⟩ ?_
        refine x.pureG rfl (fun hg => hin 3 ⟨by omega, mlt2 hg⟩) rfl (fun _ => hm 3 128 191 (by omega)) rfl ⟨rfl, rfl, rfl, rfl, trivial⟩ ?_
        refine x.cond rfl trivial (fun h6 => ?_) (fun h6 => ?_)
        · refine x.quiet rfl trivial drawsMixed (by kernel_rfl) ?_
          refine x.qdone rfl ?_ ?_
          · exact ob4 hi hs h6
          refine x.exit rfl trivial ?_
          refine ⟨.inr rfl, ?_, trivial, rfl⟩
          rw [form4 hi 144 191 (Bool.and_eq_true_iff.1 h7) (by simp at * <;> omega) (by simp at * <;> omega) h6]
          exact ⟨rfl, rfl, trivial⟩
        · refine x.exit rfl trivial ?_
          refine ⟨.inr rfl, ?_, trivial, rfl⟩
          rw [formBad hi h1 h2 (fun h8 => absurd h8 (no34f h3)) (fun _ => ⟨144, 191, by simp at * <;> omega, by simp at * <;> omega, h6⟩)]
          exact ⟨rfl, rfl, trivial⟩
    · refine x.cond rfl trivial (fun h5 => ?_) (fun h5 => ?_)
      · refine x.pure rfl (by exact hin 1 (by omega)) rfl (hm 1 128 143 (by omega)) ⟨rfl, rfl, rfl, rfl, trivial⟩ ?_
        refine x.pureG rfl (fun hg => hin 2 ⟨by omega, mlt1 hg⟩) rfl (fun _ => hm 2 128 191 (by omega)) rfl ⟨rfl, rfl, rfl, rfl, trivial⟩ ?_
        refine x.pureG rfl (fun hg => hin 3 ⟨by omega, mlt2 hg⟩) rfl (fun _ => hm 3 128 191 (by omega)) rfl ⟨rfl, rfl, rfl, rfl, trivial⟩ ?_
        refine x.cond rfl trivial (fun h6 => ?_) (fun h6 => ?_)
        · refine x.quiet rfl trivial drawsMixed (by kernel_rfl) ?_
          refine x.qdone rfl ?_ ?_
          · exact ob4 hi hs h6
          refine x.exit rfl trivial ?_
          refine ⟨.inr rfl, ?_, trivial, rfl⟩
          rw [form4 hi 128 143 (Bool.and_eq_true_iff.1 h7) (by simp at * <;> omega) (by simp at * <;> omega) h6]
          exact ⟨rfl, rfl, trivial⟩
        · refine x.exit rfl trivial ?_
          refine ⟨.inr rfl, ?_, trivial, rfl⟩
          rw [formBad hi h1 h2 (fun h8 => absurd h8 (no34f h3)) (fun _ => ⟨128, 143, by simp at * <;> omega, by simp at * <;> omega, h6⟩)]
          exact ⟨rfl, rfl, trivial⟩
      · refine x.pure rfl (by exact hin 1 (by omega)) rfl (hm 1 128 191 (by omega)) ⟨rfl, rfl, rfl, rfl, trivial⟩ ?_
        refine x.pureG rfl (fun hg => hin 2 ⟨by omega, mlt1 hg⟩) rfl (fun _ => hm 2 128 191 (by omega)) rfl ⟨rfl, rfl, rfl, rfl, trivial⟩ ?_
        refine x.pureG rfl (fun hg => hin 3 ⟨by omega, mlt2 hg⟩) rfl (fun _ => hm 3 128 191 (by omega)) rfl ⟨rfl, rfl, rfl, rfl, trivial⟩ ?_
        refine x.cond rfl trivial (fun h6 => ?_) (fun h6 => ?_)
        · refine x.quiet rfl trivial drawsMixed (by kernel_rfl) ?_
          refine x.qdone rfl ?_ ?_
          · exact ob4 hi hs h6
          refine x.exit rfl trivial ?_
          refine ⟨.inr rfl, ?_, trivial, rfl⟩
          rw [form4 hi 128 191 (Bool.and_eq_true_iff.1 h7) (by simp at * <;> omega) (by simp at * <;> omega) h6]
          exact ⟨rfl, rfl, trivial⟩
        · refine x.exit rfl trivial ?_
          refine ⟨.inr rfl, ?_, trivial, rfl⟩
          rw [formBad hi h1 h2 (fun h8 => absurd h8 (no34f h3)) (fun _ => ⟨128, 191, by simp at * <;> omega, by simp at * <;> omega, h6⟩)]
          exact ⟨rfl, rfl, trivial⟩
  · refine x.exit rfl trivial ?_
    refine ⟨.inr rfl, ?_, trivial, rfl⟩
    rw [formBad hi h1 h2 (fun h8 => absurd h8 (no34f h3)) (fun h8 => absurd h8 (no34g h7))]
    exact ⟨rfl, rfl, trivial⟩
end Go.Proofs.YtgibncjbojocoaaDoor
