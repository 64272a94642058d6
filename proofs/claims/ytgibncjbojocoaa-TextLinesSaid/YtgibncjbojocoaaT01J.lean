/- Places in a text: both answer alike. -/
import Derived.Test.YtgibncjbojocoaaT01I
namespace Go.Proofs.Ytgibncjbojocoaa
open Go.Sx
set_option linter.unusedVariables false
set_option linter.unusedSimpArgs false

theorem dec_ten (sz p a b c d : Nat) (ha : a < 256) : ((dec sz p a b c d).1 = 10 ↔ a = 10) ∧ (a = 10 → (dec sz p a b c d).2 = 1) ∧
    (a ≠ 10 → ∀ k, k < (dec sz p a b c d).2 → (k = 1 → b ≠ 10) ∧ (k = 2 → c ≠ 10) ∧ (k = 3 → d ≠ 10) ∧ k < 4) := by
  unfold dec
  repeat' split
  all_goals refine ⟨by dsimp only; omega, by dsimp only; omega, fun _ k hk => ?_⟩
  all_goals dsimp only at hk
  all_goals omega

theorem decode_ten (s : ByteArray) (p : Nat) : ((Utf8.decode s p).1 = 10 ↔ bt s p = 10) ∧ (bt s p = 10 → (Utf8.decode s p).2 = 1) ∧
    (bt s p ≠ 10 → ∀ k, k < (Utf8.decode s p).2 → bt s (p + k) ≠ 10) := by
  have h := dec_ten s.size p (bt s p) (bt s (p + 1)) (bt s (p + 2)) (bt s (p + 3)) (bt_lt s p)
  rw [decode_eq]
  refine ⟨h.1, h.2.1, fun hn k hk => ?_⟩
  obtain ⟨h1, h2, h3, h4⟩ := h.2.2 hn k hk
  match k, h4 with
  | 0, _ => exact hn
  | 1, _ => exact h1 rfl
  | 2, _ => exact h2 rfl
  | 3, _ => exact h3 rfl

theorem scanV_same {s : ByteArray} {p : Nat} : ∀ k, (∀ j, j < k → bt s (p + j) ≠ 10) → scanV s (p + k) = scanV s p
  | 0, _ => rfl
  | k + 1, h => by
    rw [← Nat.add_assoc, scanV, if_neg (h k (by omega))]
    exact scanV_same k fun j hj => h j (by omega)

theorem nextV_dec {s : ByteArray} {p : Nat} (h : p < s.size) : nextV s (p : Int) = ((p + (Utf8.decode s p).2 : Nat) : Int) := by
  have hd := decode_pos s p
  have hf : formV s (p : Int) = if (Utf8.decode s p).2 = 1 ∧ 128 ≤ bt s p then (0, 0) else (((Utf8.decode s p).1 : Int), ((Utf8.decode s p).2 : Int)) := by
    unfold formV
    rw [if_pos (by omega), Int.toNat_natCast]
  unfold nextV
  rw [hf]
  by_cases h1 : (Utf8.decode s p).2 = 1 ∧ 128 ≤ bt s p
  · rw [if_pos h1, if_pos rfl, h1.1]; rfl
  · rw [if_neg h1, if_neg (by show ¬ ((Utf8.decode s p).2 : Int) = 0; omega)]; rfl

theorem colV_fuel {s : ByteArray} {e : Int} : ∀ (n m : Nat) (i c : Int), e ≤ i + n → e ≤ i + m → colV s e n i c = colV s e m i c
  | 0, m, i, c, h1, h2 => by rw [colV_end (by omega), colV_end (by omega)]
  | n + 1, 0, i, c, h1, h2 => by rw [colV_end (by omega), colV_end (by omega)]
  | n + 1, m + 1, i, c, h1, h2 => by
    have := nextV_gt s i
    rw [colV, colV]
    split
    · exact colV_fuel n m _ _ (by omega) (by omega)
    · rfl

theorem walkP_eq {s : ByteArray} {e : Nat} (he : e ≤ s.size) : ∀ (n p : Nat) (l c : Int), s.size ≤ p + n → l = (scanV s p).1 → colV s e s.size (scanV s p).2 1 = colV s e n p c → (p ≤ e ∨ scanV s e = scanV s p) →
    walkP s e n p l c = (((scanV s e).1 : Int), colV s e s.size (scanV s e).2 1) := by
  intro n
  induction n with
  | zero =>
    intro p l c h1 h2 h3 h4
    have h5 : scanV s e = scanV s p := by
      rcases h4 with h4 | h4
      · rw [show e = p by omega]
      · exact h4
    rw [walkP, h5, h2, h3]; rfl
  | succ n ih =>
    intro p l c h1 h2 h3 h4
    by_cases hc : p < s.size ∧ (p : Int) < e
    · have hpe : p < e := by omega
      obtain ⟨t1, t2, t3⟩ := decode_ten s p
      obtain ⟨d1, d2, d3⟩ := decode_pos s p
      rw [walkP, if_pos hc]
      by_cases h10 : bt s p = 10
      · rw [if_pos (t1.2 h10), t2 h10]
        have hs1 : scanV s (p + 1) = ((scanV s p).1 + 1, p + 1) := by rw [scanV, if_pos h10]
        refine ih (p + 1) (l + 1) 1 (by omega) (by rw [hs1, h2]; simp) ?_ (.inl (by omega))
        rw [hs1]
        exact colV_fuel _ _ _ _ (by simp; omega) (by simp; omega)
      · rw [if_neg (fun h => h10 (t1.1 h))]
        have hs1 := scanV_same (s := s) (p := p) (Utf8.decode s p).2 (t3 h10)
        refine ih (p + (Utf8.decode s p).2) l (c + 1) (by omega) (by rw [hs1, h2]) ?_ ?_
        · rw [hs1, h3, colV, if_pos (by omega), nextV_dec hc.1]
        · by_cases hle : p + (Utf8.decode s p).2 ≤ e
          · exact .inl hle
          · refine .inr ?_
            rw [hs1]
            have := scanV_same (s := s) (p := p) (e - p) (fun j hj => t3 h10 j (by omega))
            rwa [show p + (e - p) = e by omega] at this
    · rw [walkP_end hc]
      have h5 : scanV s e = scanV s p := by
        rcases h4 with h4 | h4
        · rw [show e = p by omega]
        · exact h4
      rw [h5, h2, h3, colV_end (by omega)]

theorem place_eq (s : ByteArray) (e : Int) : placeV s e = refPlaceV s e := by
  unfold placeV refPlaceV
  by_cases h : e < 0 ∨ (s.size : Int) < e
  · rw [if_pos h, if_pos h]
  · rw [if_neg h, if_neg h]
    obtain ⟨k, rfl⟩ : ∃ k : Nat, e = k := ⟨e.toNat, by omega⟩
    rw [Int.toNat_natCast]
    exact walkP_eq (by omega) s.size 0 1 1 (by omega) rfl rfl (.inl (by omega))
end Go.Proofs.Ytgibncjbojocoaa
