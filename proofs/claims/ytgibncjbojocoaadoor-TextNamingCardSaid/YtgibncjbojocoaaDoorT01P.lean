/- Plain facts: bytes, masks, and how the model's decoder reads a rune. -/
import Derived.Test.YtgibncjbojocoaaDoorSx24
namespace Go.Proofs.YtgibncjbojocoaaDoor
open Go.Sx
set_option linter.unusedVariables false
set_option linter.unusedSimpArgs false
set_option maxRecDepth 100000

theorem sb_get (s : ByteArray) (i : Nat) : sb s i = ((s.get! i).toNat : Int) := by
  unfold sb
  congr 2
  cases s with
  | mk d =>
    show d.toList.getD i 0 = d[i]!
    simp [List.getD_eq_getElem?_getD, getElem!_def]
    cases h : d[i]? <;> simp <;> rfl
theorem sb_nonneg (s : ByteArray) (i : Nat) : 0 ≤ sb s i := by unfold sb; exact Int.natCast_nonneg _
theorem sb_lt (s : ByteArray) (i : Nat) : sb s i < 256 := by unfold sb; have := (s.data.toList.getD i 0).toNat_lt; omega

theorem wrap_u8 {n : Nat} (h : n < 256) : IntKind.u8.wrap (n : Int) = n := by
  show (n : Int) % 256 = n
  omega
theorem mask (x : Nat) (m k : Nat) (hx : x < 256) (hm : m = 2 ^ k - 1) (hm' : m < 256) : bitI .and .u8 (x : Int) (m : Int) = ((x % 2 ^ k : Nat) : Int) := by
  unfold bitI
  simp only
  rw [BitVec.toNat_and]
  have h1 : (BitVec.ofInt IntKind.u8.bits (x : Int)).toNat = x := by
    show (BitVec.ofInt 8 (x : Int)).toNat = x
    simp [BitVec.toNat_ofInt]; omega
  have h2 : (BitVec.ofInt IntKind.u8.bits (m : Int)).toNat = m := by
    show (BitVec.ofInt 8 (m : Int)).toNat = m
    simp [BitVec.toNat_ofInt]; omega
  rw [h1, h2, hm, Nat.and_two_pow_sub_one_eq_mod]
  refine wrap_u8 (Nat.lt_of_le_of_lt (Nat.mod_le _ _) hx)
theorem maskI (x : Int) (m k : Nat) (h0 : 0 ≤ x) (hx : x < 256) (hm : m = 2 ^ k - 1) (hm' : m < 256) : bitI .and .u8 x (m : Int) = x % (2 ^ k : Nat) := by
  obtain ⟨y, rfl⟩ := Int.eq_ofNat_of_zero_le h0
  rw [mask y m k (by omega) hm hm']
  rfl
theorem mask31 {x : Int} (h0 : 0 ≤ x) (hx : x < 256) : bitI .and .u8 x 31 = x % 32 := maskI x 31 5 h0 hx rfl (by decide)
theorem mask63 {x : Int} (h0 : 0 ≤ x) (hx : x < 256) : bitI .and .u8 x 63 = x % 64 := maskI x 63 6 h0 hx rfl (by decide)
theorem mask15 {x : Int} (h0 : 0 ≤ x) (hx : x < 256) : bitI .and .u8 x 15 = x % 16 := maskI x 15 4 h0 hx rfl (by decide)
theorem mask7 {x : Int} (h0 : 0 ≤ x) (hx : x < 256) : bitI .and .u8 x 7 = x % 8 := maskI x 7 3 h0 hx rfl (by decide)

/-- May the byte at p be one of lo to hi? -/
def moreB (s : ByteArray) (i lo hi : Int) : Bool := decide (i < s.size) && decide (lo ≤ sb s i.toNat) && decide (sb s i.toNat ≤ hi)

theorem ite_cg {α : Type} {c c' : Prop} [Decidable c] [Decidable c'] {x x' y y' : α} (h : c ↔ c') (e1 : x = x') (e2 : y = y') : ite c x y = ite c' x' y' := by
  subst e1 e2
  by_cases hc : c
  · rw [if_pos hc, if_pos (h.1 hc)]
  · rw [if_neg hc, if_neg (fun h' => hc (h.2 h'))]

/-- Byte i. -/
def bt (s : ByteArray) (i : Nat) : Nat := (s.get! i).toNat
theorem sb_bt (s : ByteArray) (i : Nat) : sb s i = (bt s i : Int) := sb_get s i
theorem bt_lt (s : ByteArray) (i : Nat) : bt s i < 256 := (s.get! i).toNat_lt

/-- What the bytes a b c d at p, in sz bytes, spell: the decoder's answer. -/
def dec (sz p a b c d : Nat) : Nat × Nat :=
  if a < 128 then (a, 1)
  else if a / 32 = 6 ∧ p + 1 < sz ∧ b / 64 = 2 then
    if 128 ≤ a % 32 * 64 + b % 64 then (a % 32 * 64 + b % 64, 2) else (65533, 1)
  else if a / 16 = 14 ∧ p + 1 < sz ∧ b / 64 = 2 ∧ p + 2 < sz ∧ c / 64 = 2 then
    if 2048 ≤ a % 16 * 4096 + b % 64 * 64 + c % 64 ∧ ¬ (55296 ≤ a % 16 * 4096 + b % 64 * 64 + c % 64 ∧ a % 16 * 4096 + b % 64 * 64 + c % 64 ≤ 57343)
    then (a % 16 * 4096 + b % 64 * 64 + c % 64, 3) else (65533, 1)
  else if a / 8 = 30 ∧ p + 1 < sz ∧ b / 64 = 2 ∧ p + 2 < sz ∧ c / 64 = 2 ∧ p + 3 < sz ∧ d / 64 = 2 then
    if 65536 ≤ a % 8 * 262144 + b % 64 * 4096 + c % 64 * 64 + d % 64 ∧ a % 8 * 262144 + b % 64 * 4096 + c % 64 * 64 + d % 64 ≤ 1114111
    then (a % 8 * 262144 + b % 64 * 4096 + c % 64 * 64 + d % 64, 4) else (65533, 1)
  else (65533, 1)

theorem decode_eq (s : ByteArray) (p : Nat) : Utf8.decode s p = dec s.size p (bt s p) (bt s (p + 1)) (bt s (p + 2)) (bt s (p + 3)) := by
  unfold Utf8.decode dec
  have hr : Utf8.runeError = 65533 := rfl
  have e : ∀ k, (s.get! k).toNat = bt s k := fun k => rfl
  have h1 := bt_lt s (p + 1)
  have h2 := bt_lt s (p + 2)
  have h3 := bt_lt s (p + 3)
  have h0 := bt_lt s p
  simp only [hr, e, Nat.add_zero, Bool.and_eq_true, decide_eq_true_eq, beq_iff_eq, and_assoc]
  refine ite_cg Iff.rfl rfl (ite_cg Iff.rfl rfl (ite_cg Iff.rfl (ite_cg ?_ rfl rfl) (ite_cg Iff.rfl (ite_cg ?_ rfl rfl) rfl)))
  · simp only [Utf8.valid, Bool.or_eq_true, Bool.and_eq_true, decide_eq_true_eq]
    omega
  · simp only [Utf8.valid, Bool.or_eq_true, Bool.and_eq_true, decide_eq_true_eq]
    omega

/-- The rune at i and its length; zeros where there is none. -/
def formV (s : ByteArray) (i : Int) : Int × Int :=
  if 0 ≤ i ∧ i < s.size then
    if (Utf8.decode s i.toNat).2 = 1 ∧ 128 ≤ bt s i.toNat then (0, 0) else (((Utf8.decode s i.toNat).1 : Int), ((Utf8.decode s i.toNat).2 : Int))
  else (0, 0)
/-- The same in plain numbers. -/
theorem dec_form (sz p a b c d : Nat) (ha : a < 256) (hb : b < 256) (hc : c < 256) (hd : d < 256) :
    (if (dec sz p a b c d).2 = 1 ∧ 128 ≤ a then (0, 0) else (dec sz p a b c d)) =
    if a < 128 then (a, 1)
    else if 194 ≤ a ∧ a ≤ 223 ∧ p + 1 < sz ∧ 128 ≤ b ∧ b ≤ 191 then (a % 32 * 64 + b % 64, 2)
    else if 224 ≤ a ∧ a ≤ 239 ∧ p + 1 < sz ∧ (a = 224 → 160 ≤ b) ∧ (a = 237 → b ≤ 159) ∧ 128 ≤ b ∧ b ≤ 191 ∧ p + 2 < sz ∧ 128 ≤ c ∧ c ≤ 191 then (a % 16 * 4096 + b % 64 * 64 + c % 64, 3)
    else if 240 ≤ a ∧ a ≤ 244 ∧ p + 1 < sz ∧ (a = 240 → 144 ≤ b) ∧ (a = 244 → b ≤ 143) ∧ 128 ≤ b ∧ b ≤ 191 ∧ p + 2 < sz ∧ 128 ≤ c ∧ c ≤ 191 ∧ p + 3 < sz ∧ 128 ≤ d ∧ d ≤ 191 then (a % 8 * 262144 + b % 64 * 4096 + c % 64 * 64 + d % 64, 4)
    else (0, 0) := by
  unfold dec
  by_cases h1 : a < 128
  · rw [if_pos h1, if_pos h1, if_neg (by omega)]
  rw [if_neg h1, if_neg h1]
  by_cases h2 : a / 32 = 6 ∧ p + 1 < sz ∧ b / 64 = 2
  · rw [if_pos h2]
    by_cases h3 : 128 ≤ a % 32 * 64 + b % 64
    · rw [if_pos h3, if_neg (by simp), if_pos (by omega)]
    · rw [if_neg h3, if_pos ⟨rfl, by omega⟩, if_neg (by omega), if_neg (by omega), if_neg (by omega)]
  rw [if_neg h2, if_neg (c := 194 ≤ a ∧ a ≤ 223 ∧ p + 1 < sz ∧ 128 ≤ b ∧ b ≤ 191) (by omega)]
  by_cases h4 : a / 16 = 14 ∧ p + 1 < sz ∧ b / 64 = 2 ∧ p + 2 < sz ∧ c / 64 = 2
  · rw [if_pos h4]
    by_cases h5 : 2048 ≤ a % 16 * 4096 + b % 64 * 64 + c % 64 ∧ ¬ (55296 ≤ a % 16 * 4096 + b % 64 * 64 + c % 64 ∧ a % 16 * 4096 + b % 64 * 64 + c % 64 ≤ 57343)
    · rw [if_pos h5, if_neg (by simp), if_pos (by omega)]
    · rw [if_neg h5, if_pos ⟨rfl, by omega⟩, if_neg (by omega), if_neg (by omega)]
  rw [if_neg h4, if_neg (c := 224 ≤ a ∧ _) (by omega)]
  by_cases h6 : a / 8 = 30 ∧ p + 1 < sz ∧ b / 64 = 2 ∧ p + 2 < sz ∧ c / 64 = 2 ∧ p + 3 < sz ∧ d / 64 = 2
  · rw [if_pos h6]
    by_cases h7 : 65536 ≤ a % 8 * 262144 + b % 64 * 4096 + c % 64 * 64 + d % 64 ∧ a % 8 * 262144 + b % 64 * 4096 + c % 64 * 64 + d % 64 ≤ 1114111
    · rw [if_pos h7, if_neg (by simp), if_pos (by omega)]
    · rw [if_neg h7, if_pos ⟨rfl, by omega⟩, if_neg (by omega)]
  rw [if_neg h6, if_pos ⟨rfl, by omega⟩, if_neg (by omega)]
theorem formV_out {s : ByteArray} {i : Int} (h : ¬ (0 ≤ i ∧ i < s.size)) : formV s i = (0, 0) := by unfold formV; rw [if_neg h]
theorem formV_in {s : ByteArray} {i : Int} (h : 0 ≤ i ∧ i < s.size) : formV s i =
    (((if (dec s.size i.toNat (bt s i.toNat) (bt s (i.toNat + 1)) (bt s (i.toNat + 2)) (bt s (i.toNat + 3))).2 = 1 ∧ 128 ≤ bt s i.toNat then (0, 0) else (dec s.size i.toNat (bt s i.toNat) (bt s (i.toNat + 1)) (bt s (i.toNat + 2)) (bt s (i.toNat + 3)))).1 : Int),
     ((if (dec s.size i.toNat (bt s i.toNat) (bt s (i.toNat + 1)) (bt s (i.toNat + 2)) (bt s (i.toNat + 3))).2 = 1 ∧ 128 ≤ bt s i.toNat then (0, 0) else (dec s.size i.toNat (bt s i.toNat) (bt s (i.toNat + 1)) (bt s (i.toNat + 2)) (bt s (i.toNat + 3)))).2 : Int)) := by
  unfold formV
  rw [if_pos h, decode_eq]
  split <;> rfl
section
variable {s : ByteArray} {i : Int} (h : 0 ≤ i ∧ i < s.size)
include h
theorem moreB_nat (k : Nat) (lo hi : Int) : moreB s (i + (k : Int)) lo hi = (decide (i.toNat + k < s.size) && decide (lo ≤ (bt s (i.toNat + k) : Int)) && decide ((bt s (i.toNat + k) : Int) ≤ hi)) := by
  unfold moreB
  rw [show (i + (k : Int)).toNat = i.toNat + k by omega, sb_bt]
  congr 2
  exact decide_eq_decide.2 (by omega)
theorem more1 (lo hi : Int) : moreB s (i + 1) lo hi = (decide (i.toNat + 1 < s.size) && decide (lo ≤ (bt s (i.toNat + 1) : Int)) && decide ((bt s (i.toNat + 1) : Int) ≤ hi)) := moreB_nat h 1 lo hi
theorem more2 (lo hi : Int) : moreB s (i + 2) lo hi = (decide (i.toNat + 2 < s.size) && decide (lo ≤ (bt s (i.toNat + 2) : Int)) && decide ((bt s (i.toNat + 2) : Int) ≤ hi)) := moreB_nat h 2 lo hi
theorem more3 (lo hi : Int) : moreB s (i + 3) lo hi = (decide (i.toNat + 3 < s.size) && decide (lo ≤ (bt s (i.toNat + 3) : Int)) && decide ((bt s (i.toNat + 3) : Int) ≤ hi)) := moreB_nat h 3 lo hi
theorem sbk (k : Nat) : sb s (i + (k : Int)).toNat = (bt s (i.toNat + k) : Int) := by
  rw [show (i + (k : Int)).toNat = i.toNat + k by omega, sb_bt]
theorem sb1 : sb s (i + 1).toNat = (bt s (i.toNat + 1) : Int) := sbk h 1
theorem sb2 : sb s (i + 2).toNat = (bt s (i.toNat + 2) : Int) := sbk h 2
theorem sb3 : sb s (i + 3).toNat = (bt s (i.toNat + 3) : Int) := sbk h 3

theorem form1 (h1 : decide (sb s i.toNat < 128) = true) : formV s i = (sb s i.toNat, 1) := by
  rw [formV_in h, dec_form _ _ _ _ _ _ (bt_lt _ _) (bt_lt _ _) (bt_lt _ _) (bt_lt _ _)]
  simp only [sb_bt, decide_eq_true_eq] at *
  rw [if_pos (by omega)]
  rfl
theorem form2 (h2 : (decide (194 ≤ sb s i.toNat) && decide (sb s i.toNat ≤ 223) && moreB s (i + 1) 128 191) = true) :
    formV s i = (bitI .and .u8 (sb s i.toNat) 31 * 64 + bitI .and .u8 (sb s (i + 1).toNat) 63, 2) := by
  rw [mask31 (sb_nonneg _ _) (sb_lt _ _), mask63 (sb_nonneg _ _) (sb_lt _ _)]
  rw [formV_in h, dec_form _ _ _ _ _ _ (bt_lt _ _) (bt_lt _ _) (bt_lt _ _) (bt_lt _ _)]
  simp only [more1 h, sb1 h, sb_bt, Bool.and_eq_true, decide_eq_true_eq] at *
  rw [if_neg (by omega), if_pos (by omega)]
  simp
theorem form3 (y z : Int) (h0 : decide (224 ≤ sb s i.toNat) = true ∧ decide (sb s i.toNat ≤ 239) = true) (hy : (sb s i.toNat = 224 → 160 ≤ y) ∧ 128 ≤ y) (hz : (sb s i.toNat = 237 → z ≤ 159) ∧ z ≤ 191)
    (h2 : (moreB s (i + 1) y z && moreB s (i + 2) 128 191) = true) :
    formV s i = (bitI .and .u8 (sb s i.toNat) 15 * 4096 + bitI .and .u8 (sb s (i + 1).toNat) 63 * 64 + bitI .and .u8 (sb s (i + 2).toNat) 63, 3) := by
  rw [mask15 (sb_nonneg _ _) (sb_lt _ _), mask63 (sb_nonneg _ _) (sb_lt _ _), mask63 (sb_nonneg _ _) (sb_lt _ _)]
  rw [formV_in h, dec_form _ _ _ _ _ _ (bt_lt _ _) (bt_lt _ _) (bt_lt _ _) (bt_lt _ _)]
  simp only [more1 h, more2 h, sb1 h, sb2 h, sb_bt, Bool.and_eq_true, decide_eq_true_eq] at *
  rw [if_neg (by omega), if_neg (by omega), if_pos (by omega)]
  simp
theorem form4 (y z : Int) (h0 : decide (240 ≤ sb s i.toNat) = true ∧ decide (sb s i.toNat ≤ 244) = true) (hy : (sb s i.toNat = 240 → 144 ≤ y) ∧ 128 ≤ y) (hz : (sb s i.toNat = 244 → z ≤ 143) ∧ z ≤ 191)
    (h2 : (moreB s (i + 1) y z && moreB s (i + 2) 128 191 && moreB s (i + 3) 128 191) = true) :
    formV s i = (bitI .and .u8 (sb s i.toNat) 7 * 262144 + bitI .and .u8 (sb s (i + 1).toNat) 63 * 4096 + bitI .and .u8 (sb s (i + 2).toNat) 63 * 64 + bitI .and .u8 (sb s (i + 3).toNat) 63, 4) := by
  rw [mask7 (sb_nonneg _ _) (sb_lt _ _), mask63 (sb_nonneg _ _) (sb_lt _ _), mask63 (sb_nonneg _ _) (sb_lt _ _), mask63 (sb_nonneg _ _) (sb_lt _ _)]
  rw [formV_in h, dec_form _ _ _ _ _ _ (bt_lt _ _) (bt_lt _ _) (bt_lt _ _) (bt_lt _ _)]
  simp only [more1 h, more2 h, more3 h, sb1 h, sb2 h, sb3 h, sb_bt, Bool.and_eq_true, decide_eq_true_eq] at *
  rw [if_neg (by omega), if_neg (by omega), if_neg (by omega), if_pos (by omega)]
  simp
theorem formBad (h1 : decide (sb s i.toNat < 128) = false) (h2 : (decide (194 ≤ sb s i.toNat) && decide (sb s i.toNat ≤ 223) && moreB s (i + 1) 128 191) = false)
    (h3 : (224 ≤ sb s i.toNat ∧ sb s i.toNat ≤ 239) → ∃ y z : Int, (sb s i.toNat ≠ 224 ∧ y ≤ 128 ∨ y ≤ 160 ∧ sb s i.toNat = 224) ∧ (sb s i.toNat ≠ 237 ∧ 191 ≤ z ∨ 159 ≤ z ∧ sb s i.toNat = 237) ∧ (moreB s (i + 1) y z && moreB s (i + 2) 128 191) = false)
    (h4 : (240 ≤ sb s i.toNat ∧ sb s i.toNat ≤ 244) → ∃ y z : Int, (sb s i.toNat ≠ 240 ∧ y ≤ 128 ∨ y ≤ 144 ∧ sb s i.toNat = 240) ∧ (sb s i.toNat ≠ 244 ∧ 191 ≤ z ∨ 143 ≤ z ∧ sb s i.toNat = 244) ∧ (moreB s (i + 1) y z && moreB s (i + 2) 128 191 && moreB s (i + 3) 128 191) = false) :
    formV s i = (0, 0) := by
  rw [formV_in h, dec_form _ _ _ _ _ _ (bt_lt _ _) (bt_lt _ _) (bt_lt _ _) (bt_lt _ _)]
  simp only [more1 h, more2 h, more3 h, sb_bt, Bool.and_eq_false_iff, decide_eq_false_iff_not] at *
  rw [if_neg (by clear h3 h4; omega), if_neg (by clear h3 h4; omega), if_neg ?_, if_neg ?_]
  · rfl
  · intro hh
    obtain ⟨y, z, h5, h6, h7⟩ := h4 (by clear h3 h4; omega)
    clear h3 h4
    omega
  · intro hh
    obtain ⟨y, z, h5, h6, h7⟩ := h3 (by clear h3 h4; omega)
    clear h3 h4
    omega
end
end Go.Proofs.YtgibncjbojocoaaDoor
