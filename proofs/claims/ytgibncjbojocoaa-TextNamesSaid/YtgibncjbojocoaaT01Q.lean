/- Names: both answer alike; the law. -/
import Derived.Test.YtgibncjbojocoaaT01O
namespace Go.Proofs.Ytgibncjbojocoaa
open Go.Sx
set_option linter.unusedVariables false
set_option linter.unusedSimpArgs false
set_option maxRecDepth 100000

theorem runesV_ge (s : ByteArray) : ∀ (n : Nat) (i c : Int), c ≤ runesV s n i c
  | 0, i, c => Int.le_refl c
  | n + 1, i, c => by
    rw [runesV]
    split
    · have := runesV_ge s n (nextV s i) (c + 1); omega
    · exact Int.le_refl c

theorem formV_at {s : ByteArray} {p : Nat} (h : p < s.size) : formV s (p : Int) = if (Utf8.decode s p).2 = 1 ∧ 128 ≤ bt s p then (0, 0) else (((Utf8.decode s p).1 : Int), ((Utf8.decode s p).2 : Int)) := by
  unfold formV
  rw [if_pos (by omega), Int.toNat_natCast]

theorem dec_bad (sz p a b c d : Nat) (h1 : (dec sz p a b c d).2 = 1) (h2 : 128 ≤ a) : (dec sz p a b c d).1 = 65533 := by
  unfold dec at *
  split
  · omega
  split
  · rw [if_neg (by omega)] at h1
    split
    · rename_i h3 h4 h5; rw [if_pos h4, if_pos h5] at h1; simp at h1
    · rfl
  split
  · rename_i h3 h4 h5
    rw [if_neg h3, if_neg h4, if_pos h5] at h1
    split
    · rename_i h6; rw [if_pos h6] at h1; simp at h1
    · rfl
  split
  · rename_i h3 h4 h5 h6
    rw [if_neg h3, if_neg h4, if_neg h5, if_pos h6] at h1
    split
    · rename_i h7; rw [if_pos h7] at h1; simp at h1
    · rfl
  · rfl

theorem nameW_eq (s : ByteArray) : ∀ (n p : Nat) (c : Int), s.size ≤ p + n → c ≤ 24 →
    nameW s n p c = (!decide (0 ≤ badV s n p) && decide (runesV s n p c ≤ 24) && refNameW s n p && decide (0 < runesV s n p c)) := by
  intro n
  induction n with
  | zero =>
    intro p c h1 h2
    rw [nameW, badV, runesV, refNameW]
    simp [h2]
  | succ n ih =>
    intro p c h1 h2
    by_cases hp : p < s.size
    · have hp' : (p : Int) < s.size := by omega
      have hf := formV_at hp
      rw [nameW, badV, runesV, refNameW, if_pos hp, if_pos hp', if_pos hp', if_pos hp', nextV_dec hp, hf]
      by_cases hb : (Utf8.decode s p).2 = 1 ∧ 128 ≤ bt s p
      · have hr : (Utf8.decode s p).1 = 65533 := by
          rw [decode_eq] at hb ⊢
          exact dec_bad _ _ _ _ _ _ hb.1 hb.2
        rw [if_pos hb, hr]
        simp [letB, digB]
      · obtain ⟨d1, d2, d3⟩ := decode_pos s p
        have hz : ¬ (((Utf8.decode s p).2 : Int) = 0) := by omega
        rw [if_neg hb]
        simp only
        rw [if_neg hz]
        by_cases hc : (!letB (Utf8.decode s p).1 && (decide ((p : Int) = 0) || !digB (Utf8.decode s p).1)) = true
        · rw [if_pos hc, if_pos hc]; simp
        · rw [if_neg hc, if_neg hc]
          by_cases h24 : 24 < c + 1
          · have := runesV_ge s n ((p + (Utf8.decode s p).2 : Nat) : Int) (c + 1)
            rw [if_pos h24, decide_eq_false (p := runesV s n ((p + (Utf8.decode s p).2 : Nat) : Int) (c + 1) ≤ 24) (by omega)]
            simp
          · rw [if_neg h24, ih (p + (Utf8.decode s p).2) (c + 1) (by omega) (by omega)]
            simp
    · rw [nameW_end hp, badV_end (by omega), runesV_end (by omega), refNameW_end (by omega)]
      simp [h2]

theorem name_eq (s : ByteArray) : nameW s s.size 0 0 = refNameV s := by
  rw [nameW_eq s s.size 0 0 (by omega) (by omega), refNameV]
  by_cases h0 : s.size = 0
  · rw [if_pos (by simp [h0]), h0]
    simp [runesV]
  · have h1 : 0 < runesV s s.size 0 0 := by
      obtain ⟨k, hk⟩ : ∃ k, s.size = k + 1 := ⟨s.size - 1, by omega⟩
      rw [hk, runesV, if_pos (by omega)]
      have := runesV_ge s k (nextV s 0) (0 + 1)
      omega
    rw [decide_eq_false (p := ((s.size : Int) = 0)) (by omega), Bool.false_or]
    by_cases h2 : 0 ≤ badV s s.size 0
    · simp [h2]
    · by_cases h3 : 24 < runesV s s.size 0 0
      · rw [if_pos (by simp [h3]), decide_eq_false (p := runesV s s.size ((0 : Nat) : Int) 0 ≤ 24) (by simp; omega)]
        simp
      · rw [if_neg (by simp [h2]; omega)]
        simp [h1, h2]
        omega
end Go.Proofs.Ytgibncjbojocoaa
