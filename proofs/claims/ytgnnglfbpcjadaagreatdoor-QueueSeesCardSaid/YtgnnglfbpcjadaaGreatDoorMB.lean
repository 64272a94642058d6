/- Texts put together: T02P, T05P, T02A, T02B, T05A, T05B, T01VA, T01W, T06B, T06C, T06D, T06E. -/
import Derived.Test.YtgnnglfbpcjadaaGreatDoorSxH
import Derived.Test.YtgnnglfbpcjadaaGreatDoorMA
import Derived.RangeFuncNested
import Derived.OwnWalkIn
import Derived.TacticsInMore
import Derived.LoopNIn
import Derived.LoopIn
import Derived.Test.YtgnnglfbpcjadaaGreatDoorSxE
import Derived.Shelf.Strings.FieldsFuncGrows

/- Plain facts: sets of small numbers as vectors of 64 bits. -/
namespace Go.Proofs.YtgnnglfbpcjadaaGreatDoor
open Go.Sx
set_option linter.unusedVariables false
set_option linter.unusedSimpArgs false
set_option maxRecDepth 100000

abbrev M64 := BitVec 64
/-- A set, as data. -/
abbrev dm (x : M64) : D := .int .u64 (x.toNat : Int)
abbrev vm (x : M64) : V := .d (dm x)

theorem wrap_u64 (n : Int) : IntKind.u64.wrap n = n % 18446744073709551616 := rfl
theorem wrap_nat {n : Nat} (h : n < 18446744073709551616) : IntKind.u64.wrap (n : Int) = n := by
  rw [wrap_u64]; omega
theorem toNat_lt (x : M64) : x.toNat < 18446744073709551616 := x.isLt
theorem ofInt_m (x : M64) : BitVec.ofInt IntKind.u64.bits (x.toNat : Int) = x := by
  show BitVec.ofInt 64 (x.toNat : Int) = x
  apply BitVec.eq_of_toNat_eq
  rw [BitVec.toNat_ofInt]
  have := toNat_lt x
  show ((x.toNat : Int) % ((2 ^ 64 : Nat) : Int)).toNat = x.toNat
  omega
theorem and_m (x y : M64) : bitI .and .u64 (x.toNat : Int) (y.toNat : Int) = ((x &&& y).toNat : Int) := by
  unfold bitI
  simp only [ofInt_m]
  exact wrap_nat (toNat_lt _)
theorem or_m (x y : M64) : bitI .or .u64 (x.toNat : Int) (y.toNat : Int) = ((x ||| y).toNat : Int) := by
  unfold bitI
  simp only [ofInt_m]
  exact wrap_nat (toNat_lt _)
theorem andNot_m (x y : M64) : bitI .andNot .u64 (x.toNat : Int) (y.toNat : Int) = ((x &&& ~~~y).toNat : Int) := by
  unfold bitI
  simp only [ofInt_m]
  exact wrap_nat (toNat_lt _)
theorem sub1_m (x : M64) : IntKind.u64.wrap ((x.toNat : Int) - 1) = ((x - 1#64).toNat : Int) := by
  rw [wrap_u64, BitVec.toNat_sub]
  have := toNat_lt x
  show ((x.toNat : Int) - 1) % 18446744073709551616 = (((2 ^ 64 - 1 + x.toNat) % 2 ^ 64 : Nat) : Int)
  omega
theorem neg_m (x : M64) : IntKind.u64.wrap (0 - (x.toNat : Int)) = ((-x).toNat : Int) := by
  rw [wrap_u64, BitVec.toNat_neg]
  have := toNat_lt x
  show (0 - (x.toNat : Int)) % 18446744073709551616 = (((2 ^ 64 - x.toNat) % 2 ^ 64 : Nat) : Int)
  omega
theorem mul_m (x y : M64) : IntKind.u64.wrap ((x.toNat : Int) * (y.toNat : Int)) = ((x * y).toNat : Int) := by
  rw [wrap_u64, BitVec.toNat_mul]
  show ((x.toNat : Int) * (y.toNat : Int)) % 18446744073709551616 = (((x.toNat * y.toNat) % 2 ^ 64 : Nat) : Int)
  rw [Int.natCast_emod, Int.natCast_mul]
  rfl
theorem shl_m {i : Nat} (hi : i < 64) : IntKind.u64.wrap (1 * 2 ^ (min ((i : Int)).toNat IntKind.u64.bits)) = ((1#64 <<< i).toNat : Int) := by
  rw [wrap_u64, BitVec.toNat_shiftLeft]
  have e : min ((i : Int)).toNat IntKind.u64.bits = i := by
    show min i 64 = i
    omega
  rw [e, Int.one_mul]
  show (2 : Int) ^ i % 18446744073709551616 = (((1 <<< i) % 2 ^ 64 : Nat) : Int)
  rw [Nat.shiftLeft_eq, Nat.one_mul, Int.natCast_emod, Int.natCast_pow]
  rfl
theorem shr_m (x : M64) {i : Nat} (hi : i < 64) : ((x.toNat : Int)).fdiv (2 ^ (min ((i : Int)).toNat IntKind.u64.bits)) = ((x >>> i).toNat : Int) := by
  rw [BitVec.toNat_ushiftRight]
  have e : min ((i : Int)).toNat IntKind.u64.bits = i := by
    show min i 64 = i
    omega
  rw [e, Nat.shiftRight_eq_div_pow, Int.fdiv_eq_ediv_of_nonneg _ (Int.pow_nonneg (by omega)), Int.natCast_ediv, Int.natCast_pow]
  rfl

/-- Bit i. -/
abbrev bit (x : M64) (i : Nat) : Bool := x.getLsbD i
theorem m_ext {x y : M64} (h : ∀ i, i < 64 → bit x i = bit y i) : x = y := BitVec.eq_of_getLsbD_eq h
theorem bit_ge (x : M64) {i : Nat} (h : 64 ≤ i) : bit x i = false := BitVec.getLsbD_of_ge x i h
/-- One bit alone. -/
def one (i : Nat) : M64 := 1#64 <<< i
theorem bit_one {i j : Nat} (hi : i < 64) : bit (one i) j = decide (j = i) := by
  unfold bit one
  rw [BitVec.getLsbD_shiftLeft]
  by_cases h : j = i
  · subst h; simp [hi]
  · by_cases h2 : j < i
    · simp [h, h2]
    · have : 0 < j - i := by omega
      by_cases h3 : j < 64
      · simp [h, h2, h3, BitVec.getLsbD_one]; omega
      · simp [h, h3]
theorem bit_and (x y : M64) (i : Nat) : bit (x &&& y) i = (bit x i && bit y i) := BitVec.getLsbD_and
theorem bit_or (x y : M64) (i : Nat) : bit (x ||| y) i = (bit x i || bit y i) := BitVec.getLsbD_or
theorem bit_andNot (x y : M64) {i : Nat} : bit (x &&& ~~~y) i = (bit x i && !bit y i) := by
  unfold bit
  rw [BitVec.getLsbD_and, BitVec.getLsbD_not]
  by_cases h : i < 64
  · simp [h]
  · rw [BitVec.getLsbD_of_ge x i (by omega)]; rfl
theorem m_zero {x : M64} : x = 0#64 ↔ ∀ i, i < 64 → bit x i = false := by
  constructor
  · rintro rfl i _; exact BitVec.getLsbD_zero
  · intro h; exact m_ext fun i hi => by rw [h i hi]; exact BitVec.getLsbD_zero.symm
theorem toNat_zero_iff {x : M64} : ((x.toNat : Int) = 0) ↔ x = 0#64 := by
  constructor
  · intro h; apply BitVec.eq_of_toNat_eq; show x.toNat = 0; omega
  · rintro rfl; rfl
theorem has_shift (x : M64) {i : Nat} : decide ((((x >>> i) &&& 1#64).toNat : Int) = 1) = bit x i := by
  have h : ((x >>> i) &&& 1#64).toNat = if bit x i then 1 else 0 := by
    have e : (x >>> i) &&& 1#64 = if bit x i then 1#64 else 0#64 := by
      apply BitVec.eq_of_getLsbD_eq
      intro j hj
      rw [BitVec.getLsbD_and, BitVec.getLsbD_ushiftRight, BitVec.getLsbD_one]
      unfold bit
      by_cases h0 : j = 0
      · subst h0; cases hb : x.getLsbD i <;> simp [hb]
      · cases hb : x.getLsbD i <;> simp [h0, BitVec.getLsbD_one]
    rw [e]; split <;> rfl
  rw [h]
  cases bit x i <;> rfl

/-- The least member; 64: there is none. -/
def tz (x : M64) : Nat := ((List.range 64).find? fun i => bit x i).getD 64
/-- The members, in order. -/
def bits (x : M64) : List Nat := (List.range 64).filter fun i => bit x i
theorem mem_bits {x : M64} {i : Nat} : i ∈ bits x ↔ bit x i = true := by
  unfold bits
  rw [List.mem_filter, List.mem_range]
  constructor
  · exact fun h => h.2
  · intro h
    refine ⟨?_, h⟩
    by_cases hi : i < 64
    · exact hi
    · rw [bit_ge x (by omega)] at h; cases h
theorem find_range {p : Nat → Bool} : ∀ {n k : Nat}, (List.range n).find? p = some k ↔ k < n ∧ p k = true ∧ ∀ j, j < k → p j = false := by
  intro n k
  rw [List.find?_range_eq_some]
  simp only [List.mem_range, Bool.not_eq_true', Bool.not_eq_eq_eq_not, Bool.not_true]
  constructor
  · rintro ⟨h1, h2, h3⟩; exact ⟨h2, h1, h3⟩
  · rintro ⟨h1, h2, h3⟩; exact ⟨h2, h1, h3⟩
theorem tz_spec {x : M64} (h : x ≠ 0#64) : tz x < 64 ∧ bit x (tz x) = true ∧ ∀ j, j < tz x → bit x j = false := by
  have hex : ∃ k, (List.range 64).find? (fun i => bit x i) = some k := by
    cases hf : (List.range 64).find? (fun i => bit x i) with
    | some k => exact ⟨k, rfl⟩
    | none =>
      exfalso
      rw [List.find?_eq_none] at hf
      refine h (m_zero.2 fun i hi => ?_)
      have := hf i (List.mem_range.2 hi)
      simpa using this
  obtain ⟨k, hk⟩ := hex
  have e : tz x = k := by unfold tz; rw [hk]; rfl
  rw [e]
  exact find_range.1 hk

/-- A number that is not nothing: its least bit, and what lies above. -/
theorem split_low {x : M64} (h : x ≠ 0#64) : ∃ q, x.toNat = 2 ^ (tz x + 1) * q + 2 ^ tz x := by
  obtain ⟨h1, h2, h3⟩ := tz_spec h
  generalize hk : tz x = k at *
  refine ⟨x.toNat / 2 ^ (k + 1), ?_⟩
  have hmod : x.toNat % 2 ^ (k + 1) = 2 ^ k := by
    apply Nat.eq_of_testBit_eq
    intro j
    rw [Nat.testBit_mod_two_pow, Nat.testBit_two_pow]
    by_cases hj : j < k + 1
    · simp only [hj, decide_true, Bool.true_and]
      by_cases hjk : k = j
      · subst hjk; simp only [decide_true]; exact h2
      · have : j < k := by omega
        simp only [hjk, decide_false]
        exact h3 j this
    · have : ¬ k = j := by omega
      simp [hj, this]
  have := Nat.div_add_mod x.toNat (2 ^ (k + 1))
  omega
theorem bit_sub1 {x : M64} (h : x ≠ 0#64) {i : Nat} (hi : i < 64) : bit (x - 1#64) i = if i < tz x then true else if i = tz x then false else bit x i := by
  obtain ⟨q, hq⟩ := split_low h
  obtain ⟨h1, h2, h3⟩ := tz_spec h
  generalize hk : tz x = k at *
  have hpos : 0 < 2 ^ k := Nat.two_pow_pos k
  have e : (x - 1#64).toNat = 2 ^ (k + 1) * q + (2 ^ k - 1) := by
    rw [BitVec.toNat_sub]
    have hx := toNat_lt x
    show (2 ^ 64 - 1 + x.toNat) % 2 ^ 64 = _
    omega
  have hlt : 2 ^ k - 1 < 2 ^ (k + 1) := by rw [Nat.pow_succ]; omega
  have hlt2 : 2 ^ k < 2 ^ (k + 1) := by rw [Nat.pow_succ]; omega
  show (x - 1#64).toNat.testBit i = if i < k then true else if i = k then false else x.toNat.testBit i
  rw [e, hq, Nat.testBit_two_pow_mul_add _ hlt, Nat.testBit_two_pow_mul_add _ hlt2, Nat.testBit_two_pow_sub_one, Nat.testBit_two_pow]
  by_cases c1 : i < k
  · simp [c1, show i < k + 1 by omega]
  · by_cases c2 : i = k
    · subst c2; simp
    · simp [c1, c2, show ¬ i < k + 1 by omega]
/-- Without its least member. -/
theorem bit_rest {x : M64} (h : x ≠ 0#64) {i : Nat} (hi : i < 64) : bit (x &&& (x - 1#64)) i = (bit x i && !decide (i = tz x)) := by
  rw [bit_and, bit_sub1 h hi]
  obtain ⟨h1, h2, h3⟩ := tz_spec h
  by_cases c1 : i < tz x
  · rw [h3 i c1]; rfl
  · by_cases c2 : i = tz x
    · simp [c2]
    · simp [c1, c2]
theorem low_one {x : M64} (h : x ≠ 0#64) : x &&& (-x) = one (tz x) := by
  obtain ⟨h1, h2, h3⟩ := tz_spec h
  have e : -x = ~~~(x - 1#64) := by
    have := BitVec.neg_eq_not_add x
    apply BitVec.eq_of_toNat_eq
    rw [BitVec.toNat_neg, BitVec.toNat_not, BitVec.toNat_sub]
    have hx := toNat_lt x
    have h0 : x.toNat ≠ 0 := fun h0 => h (by apply BitVec.eq_of_toNat_eq; exact h0)
    show (2 ^ 64 - x.toNat) % 2 ^ 64 = 2 ^ 64 - 1 - (2 ^ 64 - 1 + x.toNat) % 2 ^ 64
    omega
  rw [e]
  refine m_ext fun i hi => ?_
  rw [bit_andNot, bit_sub1 h hi, bit_one h1]
  by_cases c1 : i < tz x
  · rw [h3 i c1]; simp; omega
  · by_cases c2 : i = tz x
    · rw [c2, h2]; simp
    · simp [c1, c2]
/-- What the loop over a set does. -/
theorem bits_step {x : M64} (h : x ≠ 0#64) : bits x = tz x :: bits (x &&& (x - 1#64)) := by
  obtain ⟨h1, h2, h3⟩ := tz_spec h
  have e : List.range 64 = List.range (tz x) ++ tz x :: (List.range (63 - tz x)).map (fun i => tz x + 1 + i) := by
    have : List.range 64 = List.range (tz x + (1 + (63 - tz x))) := by congr 1; omega
    rw [this, List.range_add, List.range_add]
    simp [List.range_succ, List.map_map]
    intro a _
    omega
  unfold bits
  have f : ∀ (p : Nat → Bool), (∀ j, j < tz x → p j = false) → (List.range (tz x)).filter p = [] := fun p hp => List.filter_eq_nil_iff.2 fun j hj => by rw [hp j (List.mem_range.1 hj)]; simp
  rw [e, List.filter_append, List.filter_append, f _ h3, f (fun i => bit (x &&& (x - 1#64)) i) (fun j hj => by rw [bit_rest h (by omega), h3 j hj]; rfl), List.nil_append, List.nil_append, List.filter_cons_of_pos h2, List.filter_cons_of_neg (by rw [bit_rest h h1]; simp)]
  congr 1
  refine List.filter_congr fun j hj => ?_
  obtain ⟨k, hk, rfl⟩ := List.mem_map.1 hj
  have := List.mem_range.1 hk
  rw [bit_rest h (by omega)]
  simp; omega
theorem bits_zero : bits 0#64 = [] := List.filter_eq_nil_iff.2 fun j _ => by simp [bit]
theorem bits_lt {x : M64} {i : Nat} (h : i ∈ bits x) : i < 64 := List.mem_range.1 (List.mem_filter.1 h).1
theorem bits_len (x : M64) : (bits x).length ≤ 64 := by
  have := List.length_filter_le (fun i => bit x i) (List.range 64)
  simpa [bits] using this
theorem bits_nodup (x : M64) : (bits x).Nodup := List.nodup_range.filter _
theorem bits_nil {x : M64} (h : bits x = []) : x = 0#64 := by
  by_cases h0 : x = 0#64
  · exact h0
  · rw [bits_step h0] at h; cases h
end Go.Proofs.YtgnnglfbpcjadaaGreatDoor

/- Plain facts: orders of at most 64 levels as lists of sets (those at or above each level). -/
namespace Go.Proofs.YtgnnglfbpcjadaaGreatDoor
open Go.Sx
set_option linter.unusedVariables false
set_option linter.unusedSimpArgs false
set_option maxRecDepth 100000

def upA (up : List M64) (i : Nat) : M64 := up.getD i 0#64
def dUp (up : List M64) : D := .sl 1 up.length (fun i => [dm (upA up i)])
abbrev vU (up : List M64) : V := .d (dUp up)
/-- All members are levels. -/
def InU (n : Nat) (m : M64) : Prop := ∀ i, bit m i = true → i < n

/-- A set from a test. -/
def ofPn (p : Nat → Bool) : Nat → M64
  | 0 => 0#64
  | n + 1 => ofPn p n ||| (if p n then one n else 0#64)
def ofP (p : Nat → Bool) : M64 := ofPn p 64
theorem bit_ofPn (p : Nat → Bool) : ∀ {n : Nat}, n ≤ 64 → ∀ i, bit (ofPn p n) i = (decide (i < n) && p i)
  | 0, _, i => by simp [ofPn, bit]
  | n + 1, h, i => by
    have hb : bit (if p n then one n else 0#64) i = (decide (i = n) && p n) := by
      cases hp : p n with
      | true => rw [if_pos rfl, bit_one (by omega)]; simp
      | false => simp [bit]
    rw [ofPn, bit_or, bit_ofPn p (by omega), hb]
    by_cases h1 : i < n
    · have h2 : ¬ i = n := by omega
      have h3 : i < n + 1 := by omega
      simp [h1, h2, h3]
    · by_cases h2 : i = n
      · subst h2; simp
      · have h3 : ¬ i < n + 1 := by omega
        simp [h1, h2, h3]
theorem bit_ofP (p : Nat → Bool) {i : Nat} (hi : i < 64) : bit (ofP p) i = p i := by
  unfold ofP
  rw [bit_ofPn p (Nat.le_refl _)]
  simp [hi]
theorem ofP_congr {p q : Nat → Bool} (h : ∀ i, i < 64 → p i = q i) : ofP p = ofP q := m_ext fun i hi => by rw [bit_ofP p hi, bit_ofP q hi, h i hi]

/-- The first of these members that is below all of a set. -/
def leastF (up : List M64) (set : M64) : List Nat → Int
  | [] => -1
  | k :: r => if set &&& ~~~ upA up k = 0#64 then (k : Int) else leastF up set r
def leastM (up : List M64) (set : M64) : Int := leastF up set (bits set)

/-- May an order be? -/
def orderRow (up : List M64) (i : Nat) : Bool :=
  bit (upA up i) i && decide (upA up i &&& ~~~ ofP (fun j => decide (j < up.length)) = 0#64) && (bits (upA up i)).all fun k => decide (upA up k &&& ~~~ upA up i = 0#64) && !(decide (k ≠ i) && bit (upA up k) i)
def orderM (up : List M64) : Bool := decide (1 ≤ up.length) && decide (up.length ≤ 64) && (List.range up.length).all (orderRow up)

def eachM (up : List M64) : Bool := (List.range up.length).all fun a => (List.range a).all fun b => decide (0 ≤ leastM up (upA up a &&& upA up b))
/-- Those at or below each level. -/
def turnedM (up : List M64) : List M64 := (List.range up.length).map fun k => ofP fun i => decide (i < up.length) && bit (upA up i) k
def rightM (up : List M64) : Bool := orderM up && (eachM up && eachM (turnedM up))

theorem turned_len (up : List M64) : (turnedM up).length = up.length := by simp [turnedM]
theorem upA_turned (up : List M64) {k : Nat} (hk : k < up.length) : upA (turnedM up) k = ofP fun i => decide (i < up.length) && bit (upA up i) k := by
  unfold upA turnedM
  rw [List.getD_eq_getElem?_getD, List.getElem?_map, List.getElem?_range hk]; rfl
theorem zero_iff_sub {x y : M64} : x &&& ~~~ y = 0#64 ↔ ∀ i, bit x i = true → bit y i = true := by
  rw [m_zero]
  constructor
  · intro h i hi
    by_cases h64 : i < 64
    · have := h i h64
      rw [bit_andNot, hi] at this
      simpa using this
    · rw [bit_ge x (by omega)] at hi; cases hi
  · intro h i hi
    rw [bit_andNot]
    cases hx : bit x i with
    | false => rfl
    | true => rw [h i hx]; rfl
theorem inU_order {up : List M64} (h : orderM up = true) {i : Nat} (hi : i < up.length) : InU up.length (upA up i) := by
  unfold orderM at h
  simp only [Bool.and_eq_true, decide_eq_true_eq, List.all_eq_true] at h
  have := h.2 i (List.mem_range.2 hi)
  unfold orderRow at this
  simp only [Bool.and_eq_true, decide_eq_true_eq] at this
  intro j hj
  have h2 := zero_iff_sub.1 this.1.2 j hj
  have hj64 : j < 64 := by
    by_cases h64 : j < 64
    · exact h64
    · rw [bit_ge _ (by omega)] at hj; cases hj
  rw [bit_ofP _ hj64] at h2
  simpa using h2
theorem order_len {up : List M64} (h : orderM up = true) : 1 ≤ up.length ∧ up.length ≤ 64 := by
  unfold orderM at h
  simp only [Bool.and_eq_true, decide_eq_true_eq] at h
  exact h.1
theorem inU_turned {up : List M64} {k : Nat} (hk : k < up.length) : InU (turnedM up).length (upA (turnedM up) k) := by
  intro i hi
  rw [turned_len, upA_turned up hk] at *
  have h64 : i < 64 := by
    by_cases h64 : i < 64
    · exact h64
    · rw [bit_ge _ (by omega)] at hi; cases hi
  rw [bit_ofP _ h64] at hi
  simp only [Bool.and_eq_true, decide_eq_true_eq] at hi
  exact hi.1
theorem inU_and {n : Nat} {x y : M64} (h : InU n x) : InU n (x &&& y) := fun i hi => h i (by rw [bit_and] at hi; simp at hi; exact hi.1)
end Go.Proofs.YtgnnglfbpcjadaaGreatDoor

/- Sets of small numbers: the program's own: right, Has, With, Without, Below, the least member. -/
namespace Go.Proofs.YtgnnglfbpcjadaaGreatDoor
open Go.Sx
set_option linter.unusedVariables false
set_option linter.unusedSimpArgs false
set_option maxRecDepth 100000

def inM (i : Int) : Bool := decide (0 ≤ i) && decide (i < 64)
theorem mright_spec (i : Int) : Pure PG 85 [vi i] (vb (inM i)) [] := by
  refine Proc.mk (cfg 9) tysOK [] Tryz.func85 rfl (by kernel_rfl) rfl rfl rfl ?_
  intro C x
  refine x.exit rfl trivial ?_
  exact ⟨.inr rfl, rfl, trivial, rfl⟩

def hasM (m : M64) (i : Int) : Bool := inM i && bit m i.toNat
theorem hasM_nat (m : M64) (i : Nat) : hasM m (i : Int) = bit m i := by
  unfold hasM inM
  by_cases h : i < 64
  · simp; omega
  · rw [show ((i : Int)).toNat = i by omega, bit_ge m (by omega)]; simp
theorem has_spec (m : M64) (i : Int) : Pure PG 62 [vm m, vi i] (vb (hasM m i)) [] := by
  refine Proc.mk (cfg 14) tysOK [] Tryz.func62 rfl (by kernel_rfl) rfl rfl rfl ?_
  intro C x
  refine x.pure rfl trivial rfl (mright_spec i) ⟨rfl, trivial⟩ ?_
  refine x.exit rfl (by simp only [AllP, imps, imp]; intro h; simp [inM] at h; exact h.1) ?_
  refine ⟨.inr rfl, ?_, trivial, rfl⟩
  show VEq0 (.d (.bool _)) (vb (hasM m i))
  refine veq0_d (congrArg D.bool ?_)
  unfold hasM
  cases hi : inM i with
  | false => rfl
  | true =>
    simp only [inM, Bool.and_eq_true, decide_eq_true_eq] at hi
    obtain ⟨n, rfl⟩ := Int.eq_ofNat_of_zero_le hi.1
    have e := shr_m m (i := n) (by omega)
    have e2 := and_m (m >>> n) 1#64
    show decide (bitI .and .u64 (((m.toNat : Int)).fdiv (2 ^ (min ((n : Int)).toNat IntKind.u64.bits))) 1 = 1) = _
    rw [e, show (1 : Int) = ((1#64 : M64).toNat : Int) from rfl, e2]
    exact has_shift m

def withM (m : M64) (i : Int) : M64 := if inM i then m ||| one i.toNat else m
theorem with_spec (m : M64) (i : Int) : Pure PG 74 [vm m, vi i] (vm (withM m i)) [] := by
  refine Proc.mk (cfg 12) tysOK [] Tryz.func74 rfl (by kernel_rfl) rfl rfl rfl ?_
  intro C x
  refine x.pure rfl trivial rfl (mright_spec i) ⟨rfl, trivial⟩ ?_
  refine x.cond rfl trivial (fun h => ?_) (fun h => ?_)
  · have hi := h
    simp only [inM, Bool.and_eq_true, decide_eq_true_eq] at hi
    obtain ⟨n, rfl⟩ := Int.eq_ofNat_of_zero_le hi.1
    refine x.exit rfl (by simp only [AllP]; omega) ?_
    refine ⟨.inr rfl, ?_, trivial, rfl⟩
    refine veq0_d (congrArg (D.int .u64) ?_)
    rw [shl_m (i := n) (by omega), or_m]
    unfold withM
    rw [if_pos h]; rfl
  · refine x.exit rfl trivial ?_
    refine ⟨.inr rfl, ?_, trivial, rfl⟩
    unfold withM
    rw [if_neg (by rw [h]; simp)]
    exact (show VEq0 (vm m) (vm m) from veq0_d rfl)
def withoutM (m : M64) (i : Int) : M64 := if inM i then m &&& ~~~ one i.toNat else m
theorem bit_withM (m : M64) (i : Int) (j : Nat) : bit (withM m i) j = (bit m j || decide (j < 64 ∧ (j : Int) = i)) := by
  unfold withM
  split
  · rename_i h
    simp only [inM, Bool.and_eq_true, decide_eq_true_eq] at h
    rw [bit_or, bit_one (by omega)]
    congr 1
    simp only [decide_eq_decide]
    omega
  · rename_i h
    simp only [inM, Bool.and_eq_true, decide_eq_true_eq] at h
    have : ¬ (j < 64 ∧ (j : Int) = i) := by omega
    simp [this]
theorem bit_withoutM (m : M64) (i : Int) (j : Nat) : bit (withoutM m i) j = (bit m j && !decide ((j : Int) = i)) := by
  unfold withoutM
  split
  · rename_i h
    simp only [inM, Bool.and_eq_true, decide_eq_true_eq] at h
    rw [bit_andNot, bit_one (by omega)]
    congr 2
    simp only [decide_eq_decide]
    omega
  · rename_i h
    simp only [inM, Bool.and_eq_true, decide_eq_true_eq] at h
    by_cases hj : j < 64
    · have : ¬ ((j : Int) = i) := by omega
      simp [this]
    · rw [bit_ge m (by omega)]; rfl

/-- All below a number. -/
def belowN : Nat → M64
  | 0 => 0#64
  | n + 1 => belowN n ||| one n
/-- Between 0 and 64. -/
def clampN (n : Int) : Int := if 64 < (if 0 > n then 0 else n) then 64 else if 0 > n then 0 else n
theorem clampN_eq (n : Int) : clampN n = min (max n 0) 64 := by unfold clampN; split <;> split <;> omega
def belowM (n : Int) : M64 := belowN (clampN n).toNat
theorem bit_belowN : ∀ {n : Nat}, n ≤ 64 → ∀ j, bit (belowN n) j = decide (j < n)
  | 0, _, j => by simp [belowN, bit]
  | n + 1, h, j => by
    rw [belowN, bit_or, bit_belowN (by omega), bit_one (by omega)]
    by_cases h1 : j < n
    · simp [h1]; omega
    · by_cases h2 : j = n
      · simp [h2]
      · simp [h1, h2]; omega
theorem bit_belowM (n : Int) (j : Nat) : bit (belowM n) j = decide (j < 64 ∧ (j : Int) < n) := by
  unfold belowM
  have := clampN_eq n
  rw [bit_belowN (by omega)]
  simp only [decide_eq_decide]
  omega
theorem below_spec (n : Int) (hn : inI64 n) : Pure PG 106 [vi n] (vm (belowM n)) [] := by
  refine Proc.mk (cfg 17) tysOK [] Tryz.func106 rfl (by kernel_rfl) rfl rfl rfl ?_
  intro C x
  unfold inI64 at hn
  have hcl := clampN_eq n
  refine x.loop (α := { k : Nat // (k : Int) ≤ clampN n }) (fun y => ⟨[(3, vm (belowN y.1)), (7, vi (clampN n)), (8, vi (y.1 : Int))], [], 0⟩) (fun y => 64 - y.1) ⟨0, by omega⟩ rfl trivial ?_ (fun y => ?_)
  · exact ⟨⟨rfl, rfl, rfl, trivial⟩, trivial, rfl⟩
  obtain ⟨k, hk⟩ := y
  refine x.cond rfl trivial (fun h => ?_) (fun h => ?_)
  · have h : (k : Int) < clampN n := by simpa using h
    refine x.back rfl (by simp only [AllP, inI64]; omega) ⟨⟨k + 1, by omega⟩, by show 64 - (k + 1) < 64 - k; omega, ?_⟩
    refine ⟨⟨veq0_d (congrArg (D.int .u64) ?_), rfl, by show VEq0 (vi ((k : Int) + 1)) (vi ((k + 1 : Nat) : Int)); rw [Int.natCast_add]; rfl, trivial⟩, trivial, rfl⟩
    rw [shl_m (i := k) (by omega), or_m]; rfl
  · have h : ¬ (k : Int) < clampN n := by simpa using h
    refine x.exit rfl trivial ?_
    refine ⟨.inr rfl, veq0_d (congrArg (D.int .u64) ?_), trivial, rfl⟩
    unfold belowM
    rw [show (clampN n).toNat = k by omega]
end Go.Proofs.YtgnnglfbpcjadaaGreatDoor

/- Sets of small numbers: the program's own: the least member, all members one after the other, how many. -/
namespace Go.Proofs.YtgnnglfbpcjadaaGreatDoor
open Go.Sx
set_option linter.unusedVariables false
set_option linter.unusedSimpArgs false
set_option maxRecDepth 100000

theorem tzTab_ok : ∀ k : Fin 64, tzTab.getD (((one k.1 * 285870213051353865#64) >>> 58).toNat) 0 = (k.1 : Int) := by decide
theorem tzTab_at : GlobAt PG.env 3 64 (fun c => .int .u8 (tzTab.getD c 0)) := by
  refine ⟨fun c => .int .u8 (tzTab.getD c 0), ?_, fun j hj => rfl⟩
  show _ ∈ PG.env
  unfold PG
  simp
theorem tz_le (m : M64) : tz m ≤ 64 := by
  by_cases h : m = 0#64
  · subst h; decide
  · exact Nat.le_of_lt (tz_spec h).1
theorem trailing_spec (m : M64) : Pure PG 126 [vm m] (vi (tz m : Int)) [] := by
  refine Proc.mk (cfg 14) tysOK [] Tryz.func126 rfl (by kernel_rfl) rfl rfl rfl ?_
  intro C x
  refine x.cond rfl trivial (fun h => ?_) (fun h => ?_)
  · have h : (m.toNat : Int) = 0 := by simpa using h
    refine x.exit rfl trivial ?_
    refine ⟨.inr rfl, ?_, trivial, rfl⟩
    rw [toNat_zero_iff.1 h]
    exact (show VEq0 (vi 64) (vi ((tz 0#64 : Nat) : Int)) from rfl)
  · have h : ¬ (m.toNat : Int) = 0 := by simpa using h
    have h0 : m ≠ 0#64 := fun e => h (toNat_zero_iff.2 e)
    obtain ⟨t1, t2, t3⟩ := tz_spec h0
    have e : (IntKind.u64.wrap (bitI .and .u64 (m.toNat : Int) (IntKind.u64.wrap (0 - (m.toNat : Int))) * 285870213051353865)).fdiv (2 ^ (min (58 : Int).toNat IntKind.u64.bits)) = (((one (tz m) * 285870213051353865#64) >>> 58).toNat : Int) := by
      rw [neg_m, and_m, low_one h0, show (285870213051353865 : Int) = ((285870213051353865#64 : M64).toNat : Int) from rfl, mul_m]
      exact shr_m _ (i := 58) (by omega)
    have hb : (((one (tz m) * 285870213051353865#64) >>> 58).toNat) < 64 := by
      rw [BitVec.toNat_ushiftRight, Nat.shiftRight_eq_div_pow]
      have := toNat_lt (one (tz m) * 285870213051353865#64)
      omega
    refine x.glob (fun c => .int .u8 (tzTab.getD c 0)) rfl (by simp only [AllP]; omega) rfl tzTab_at ?_ ?_
    · rw [e]; omega
    have hk := tzTab_ok ⟨tz m, t1⟩
    refine x.exit rfl ?_ ?_
    · show inI64 _
      rw [e, Int.toNat_natCast, hk]
      show inI64 (tz m : Int)
      unfold inI64; omega
    refine ⟨.inr rfl, ?_, trivial, rfl⟩
    refine veq0_d (congrArg (D.int .i64) ?_)
    rw [e, Int.toNat_natCast, hk]

theorem all_spec (m : M64) : Pure PG 107 [vm m] (.fn 125 [.ptr 0 0]) [.box [vm m]] := by
  refine Proc.mk (cfg 4) tysOK [0] Tryz.func107 rfl (by kernel_rfl) rfl rfl rfl ?_
  intro C x
  refine x.exit rfl trivial ?_
  exact ⟨.inr rfl, rfl, ⟨⟨rfl, trivial⟩, trivial⟩, rfl⟩

theorem and_sub1 {y : M64} (hy0 : y ≠ 0#64) : Go.bits BinOp.and IntKind.u64 (y.toNat : Int) ((y.toNat : Int) - 1) = ((y &&& (y - 1#64)).toNat : Int) := by
  rw [← and_m, ← sub1_m, wrap_u64]
  have := toNat_lt y
  have : y.toNat ≠ 0 := fun e => hy0 (by apply BitVec.eq_of_toNat_eq; exact e)
  rw [Int.emod_eq_of_lt (by omega) (by omega)]
  rfl
theorem all_rounds (m : M64) (l : Nat) (J Jx : Nat → World → Prop) (W : World) (b : Nat) (hJm : ∀ k W W', J k W → Mod none W W' → J k W') (hE : ∀ k W, J k W → ∃ F', EnvOK PG.env F' W ∧ (∀ k, F' k → k < W.heap.size)) (h0 : J 0 W)
    (hb : W.cell? ⟨b, 0, none⟩ = some (.int .u64 (m.toNat : Int)))
    (hY : ∀ (k : Nat) (i : Nat) W1, (bits m)[k]? = some i → J k W1 → YieldAt Fence.wide 7 Tryz.prog l #[.int .i64 (i : Int)] W1 fun e W' => (e = .returned (.bool true) ∧ J (k + 1) W') ∨ (e = .returned (.bool false) ∧ Jx k W')) :
    CallsIn Fence.wide 8 Tryz.prog 125 #[.func (.yield l) #[] #[], .pointer (some ⟨b, 0, none⟩)] W fun e W' => (∃ v, e = .returned v) ∧ (J (bits m).length W' ∨ ∃ k, k < (bits m).length ∧ Jx k W') := by
  refine callsIn_of_wp Tryz.func125 rfl trivial ?_ rfl
  simp only [Tryz.ntmps125, List.size_toArray, List.length_cons, List.length_nil, Nat.reduceAdd, Nat.reduceSub, Array.replicate_succ, Array.replicate_zero, List.push_toArray, List.append_toArray, List.nil_append, List.cons_append]
  gi_wp2
  gi_loopw [3] (fun p wr => ∃ (k : Nat) (y : M64), p = .int .u64 (y.toNat : Int) ∧ k ≤ (bits m).length ∧ bits y = (bits m).drop k ∧ J k wr) (fun p wr => match p with | .int _ n => n.toNat | _ => 0)
  case atStart => exact ⟨0, m, rfl, Nat.zero_le _, rfl, h0⟩
  case round =>
    obtain ⟨k, y, rfl, hkl, hk, hJ⟩ := hrel
    by_cases hy0 : y = 0#64
    · subst hy0
      have hkl2 : k = (bits m).length := by
        rw [bits_zero] at hk
        have := congrArg List.length hk
        simp at this
        omega
      gi_wp2
      go_end0
      exact ⟨⟨_, rfl⟩, .inl (hkl2 ▸ hJ)⟩
    · have hne : ¬ ((y.toNat : Int) = 0) := fun e => hy0 (toNat_zero_iff.1 e)
      have hst := bits_step hy0
      have hget : (bits m)[k]? = some (tz y) := by
        have : ((bits m).drop k)[0]? = some (tz y) := by rw [← hk, hst]; rfl
        simpa using this
      have hkl3 : k < (bits m).length := (List.getElem?_eq_some_iff.1 hget).1
      obtain ⟨F', hE', hF'⟩ := hE k wr hJ
      have hTZ : Calls Tryz.prog 126 #[.int .u64 (y.toNat : Int)] wr fun e w' => e = .returned (.int .i64 (tz y : Int)) ∧ Sx.Mod none wr w' := by
        refine ((trailing_spec y).2.2.2.2.2 wr F' (fun _ => .bool true) [.int .u64 (y.toNat : Int)] hF' hE' ⟨fun i c hc => by simp at hc, fun i j b hi => absurd hi (Nat.not_lt_zero _), fun i b hi => absurd hi (Nat.not_lt_zero _)⟩ ⟨RD.int _ _, trivial⟩).mono ?_
        rintro e w' ⟨v, ρ', F'', rfl, hk, _, _, _, _, hr, _⟩
        refine ⟨?_, ⟨hk.os, hk.tape, hk.output, hk.size, fun k hlt _ => hk.block k hlt (fun ⟨i, hi, _⟩ => absurd hi (Nat.not_lt_zero _))⟩⟩
        cases (show RD F'' w' (.int .i64 (tz y : Int)) v from hr); rfl
      gi_wp2_with (refine ⟨trivial, ?_⟩; gi_at_call 126; refine (callsIn_wide.2 hTZ).mono ?_; rintro e w1 ⟨rfl, hm⟩)
      obtain ⟨fn, tmps, assign, body, hy, hR⟩ := hY k (tz y) w1 hget (hJm k _ _ hJ hm)
      gi_wp2
      rw [hy, Oper.uponIn_round]
      refine ⟨fun h => (by cases h), hR.mono ?_⟩
      rintro e W3 (⟨rfl, hJ3⟩ | ⟨rfl, hJx3⟩)
      · gi_wp2
        go_roundw
        case rel =>
          refine ⟨k + 1, y &&& (y - 1#64), ?_, hkl3, ?_, hJ3⟩
          · rw [and_sub1 hy0]
          · rw [← List.drop_drop, ← hk, hst]; rfl
        case measure =>
          rw [and_sub1 hy0]
          show ((y &&& (y - 1#64)).toNat : Int).toNat < (y.toNat : Int).toNat
          have h1 : (y &&& (y - 1#64)).toNat ≤ (y - 1#64).toNat := by rw [BitVec.toNat_and]; exact Nat.and_le_right
          have h2 : (y - 1#64).toNat < y.toNat := by
            rw [BitVec.toNat_sub]
            have := toNat_lt y
            have : y.toNat ≠ 0 := fun e => hy0 (by apply BitVec.eq_of_toNat_eq; exact e)
            show (2 ^ 64 - 1 + y.toNat) % 2 ^ 64 < y.toNat
            omega
          omega
      · gi_wp2
        refine bodyPost_ret (results_none rfl _ _ _) rfl ?_
        exact ⟨⟨_, rfl⟩, .inr ⟨k, hkl3, hJx3⟩⟩

/-- **What mask.All gives**: the set's members, in order. -/
theorem all_seq (m : M64) : Its PG 125 [.ptr 0 0] [.box [vm m]] ((bits m).map fun (i : Nat) => [vi (i : Int)]) := by
  refine ⟨callable_of Tryz.func125 (by kernel_rfl) (by kernel_rfl), rfl, fun x hx => ?_, fun w F ρ cs hF hE hH hargs l J Jx hJm hJe h0 hY => ?_⟩
  · obtain ⟨i, _, rfl⟩ := List.mem_map.1 hx
    rfl
  obtain ⟨b, cs', T, e1, e2, e3⟩ := hH.ch 0 _ rfl
  match cs, hargs with
  | [v], ⟨⟨b', f1, f2⟩, _⟩ =>
    rw [e1] at f1
    simp only [Value.pointer.injEq, Option.some.injEq, Addr.mk.injEq, and_true] at f1
    subst f1 f2
    match cs', e3 with
    | [c], ⟨hc, _⟩ =>
      have hc2 : c = .int .u64 (m.toNat : Int) := by cases (show RD F w (dm m) c from hc); rfl
      subst hc2
      have hb : w.cell? ⟨b, 0, none⟩ = some (.int .u64 (m.toNat : Int)) := by simp [World.cell?, e2]
      have := all_rounds m l J Jx w b hJm (fun k W hJ => (hJe k W hJ).1) h0 hb (fun k i W1 hk hJ => hY k [vi (i : Int)] W1 [.int .i64 (i : Int)] (by rw [List.getElem?_map, hk]; rfl) hJ ⟨RD.int _ _, trivial⟩)
      rw [List.length_map]
      exact this
    | [], h => exact h.elim
    | _ :: _ :: _, ⟨_, h⟩ => exact h.elim
  | [], h => exact h.elim
  | _ :: _ :: _, ⟨_, h⟩ => exact h.elim

/-- How many. -/
def countM (m : M64) : Int := ((bits m).length : Int)
end Go.Proofs.YtgnnglfbpcjadaaGreatDoor

/- Orders: the program's own: the least of a set, the order turned round, which may be. -/
namespace Go.Proofs.YtgnnglfbpcjadaaGreatDoor
open Go.Sx
set_option linter.unusedVariables false
set_option linter.unusedSimpArgs false
set_option maxRecDepth 100000

theorem drop_cons {α : Type} {l : List α} {k : Nat} {a : α} (h : l[k]? = some a) : l.drop k = a :: l.drop (k + 1) := by
  obtain ⟨h1, rfl⟩ := List.getElem?_eq_some_iff.1 h
  rw [List.drop_eq_getElem_cons h1]
theorem bits_at {m : M64} {k : Nat} {y : List V} (h : ((bits m).map fun (i : Nat) => [vi (i : Int)])[k]? = some y) : ∃ i, (bits m)[k]? = some i ∧ y = [vi (i : Int)] ∧ bit m i = true ∧ i < 64 := by
  rw [List.getElem?_map] at h
  cases hk : (bits m)[k]? with
  | none => rw [hk] at h; cases h
  | some i =>
    rw [hk] at h
    have hm := List.mem_of_getElem? hk
    exact ⟨i, rfl, by simpa using h.symm, mem_bits.1 hm, bits_lt hm⟩
theorem len_bits {m : M64} : ((bits m).map fun (i : Nat) => [vi (i : Int)]).length = (bits m).length := List.length_map ..

theorem andNot_zero {x y : M64} : bitI .andNot .u64 (x.toNat : Int) (y.toNat : Int) = 0 ↔ x &&& ~~~ y = 0#64 := by rw [andNot_m, toNat_zero_iff]
theorem least_spec (up : List M64) (set : M64) (hi : InU up.length set) : Pure PG 77 [vU up, vm set] (vi (leastM up set)) [] := by
  refine Proc.mkR (cfg 17) tysOK [] Tryz.func77 rfl (by kernel_rfl) rfl rfl rfl ?_
  intro C x hmk
  refine x.pure rfl trivial rfl (all_spec set) ⟨rfl, trivial⟩ ?_
  refine x.range (ps := [8]) hmk [3] (fun k => leastF up set ((bits set).drop k) = leastM up set) (fun k => [(0, .box [vU up]), (1, .box [vm set]), (2, .box [vi 0])]) (fun k c H' => c = .ret ∧ H' = [(2, .box [vi (((bits set).getD k 0 : Nat) : Int)])] ∧ set &&& ~~~ upA up ((bits set).getD k 0) = 0#64) rfl trivial rfl (all_seq set) ⟨⟨rfl, rfl⟩, trivial⟩ rfl ⟨⟨rfl, trivial⟩, trivial⟩ (fun y hy => ?_) (fun k => rfl) (fun k c H' h => by obtain ⟨_, rfl, _⟩ := h; rfl) rfl ⟨⟨veq0_d rfl, trivial⟩, ⟨rfl, trivial⟩, ⟨rfl, trivial⟩, trivial⟩ (fun k y hy hP C1 x1 => ?_) (fun hP => ?_) (fun k c H' hk hP h => ?_)
  · obtain ⟨i, _, rfl⟩ := List.mem_map.1 hy
    rfl
  · obtain ⟨i, hgi, rfl, hb, h64⟩ := bits_at hy
    have hi := hi i hb
    have hgD : (bits set).getD k 0 = i := by rw [List.getD_eq_getElem?_getD, hgi]; rfl
    refine x1.exit rfl trivial ⟨rfl, fun C2 x2 => ?_⟩
    refine x2.rquiet rfl trivial mixedP (by kernel_rfl) RoundR.noOut ?_
    refine x2.qdone rfl (by simp only [AllP]; omega) ?_
    refine x2.cond rfl trivial (fun h => ?_) (fun h => ?_)
    · have h0 := andNot_zero.1 (of_decide_eq_true h)
      refine x2.exit rfl trivial ?_
      exact ⟨[(2, .box [vi (((bits set).getD k 0 : Nat) : Int)])], ⟨rfl, rfl, by rw [hgD]; exact h0⟩, ⟨veq0_d (by rw [hgD]), trivial⟩, trivial⟩
    · have h0 : ¬ set &&& ~~~ upA up i = 0#64 := fun e => of_decide_eq_false h (andNot_zero.2 e)
      refine x2.exit rfl trivial ?_
      refine ⟨?_, ⟨veq0_d rfl, trivial⟩, ⟨rfl, trivial⟩, ⟨rfl, trivial⟩, trivial⟩
      rw [← hP, drop_cons hgi, leastF, if_neg h0]
  · refine x.exit rfl trivial ?_
    rw [len_bits, List.drop_length] at hP
    exact ⟨.inr rfl, (show VEq0 (vi (-1)) (vi (leastM up set)) by rw [← hP]; rfl), trivial, rfl⟩
  · obtain ⟨rfl, rfl, h⟩ := h
    rw [len_bits] at hk
    refine x.exit rfl trivial ?_
    have hgi : (bits set)[k]? = some ((bits set).getD k 0) := by rw [List.getD_eq_getElem?_getD, List.getElem?_eq_getElem hk]; rfl
    refine ⟨.inr rfl, ?_, trivial, rfl⟩
    show VEq0 (vi (((bits set).getD k 0 : Nat) : Int)) (vi (leastM up set))
    rw [← hP, drop_cons hgi, leastF, if_pos h]
    exact rfl

/-- Of level k: the levels below i at or below it, and i where k is among l. -/
def rowT (up : List M64) (i : Nat) (l : List Nat) (k : Nat) : M64 := ofP fun a => (decide (a < i) && bit (upA up a) k) || (decide (a = i) && decide (k ∈ l))
theorem rowT_step {up : List M64} {i k r : Nat} {l : List Nat} (hi : i < 64) : (if r = k then withM (rowT up i l k) (i : Int) else rowT up i l r) = rowT up i (l ++ [k]) r := by
  refine m_ext fun a ha => ?_
  unfold rowT
  rw [bit_ofP _ ha]
  split
  · rename_i e
    subst e
    rw [bit_withM, bit_ofP _ ha]
    by_cases h : a = i
    · subst h; simp [ha]
    · have : ¬ (a < 64 ∧ (a : Int) = (i : Int)) := by omega
      simp [h, this]
  · rename_i e
    rw [bit_ofP _ ha]
    simp [e]
theorem rowT_next {up : List M64} {i r : Nat} : rowT up i (bits (upA up i)) r = rowT up (i + 1) [] r := by
  unfold rowT
  refine ofP_congr fun a ha => ?_
  by_cases h : a = i
  · subst h
    by_cases hb : bit (upA up a) r = true
    · simp [mem_bits, hb]
    · simp [mem_bits, hb]
  · by_cases h2 : a < i
    · have h3 : a < i + 1 := by omega
      simp [h, h2, h3]
    · have h3 : ¬ a < i + 1 := by omega
      simp [h, h2, h3]
theorem rowT_zero {up : List M64} {r : Nat} : rowT up 0 [] r = 0#64 := m_zero.2 fun a ha => by unfold rowT; rw [bit_ofP _ ha]; simp
theorem rowT_end {up : List M64} {r : Nat} (hr : r < up.length) : rowT up up.length [] r = upA (turnedM up) r := by
  rw [upA_turned up hr]
  unfold rowT
  exact ofP_congr fun a ha => by simp
abbrev vecU (n : Nat) (f : Nat → M64) : Ch := .vec 72 1 n fun r => [dm (f r)]

theorem take_succ {α : Type} {l : List α} {k : Nat} {a : α} (h : l[k]? = some a) : l.take (k + 1) = l.take k ++ [a] := by
  obtain ⟨h1, rfl⟩ := List.getElem?_eq_some_iff.1 h
  rw [List.take_succ_eq_append_getElem h1]
theorem turned_spec (up : List M64) (h64 : up.length ≤ 64) (hin : ∀ i, i < up.length → InU up.length (upA up i)) : Pure PG 78 [vU up] (.own 0) [vecU up.length fun r => upA (turnedM up) r] := by
  refine Proc.mkR (cfg 31) tysOK [0] Tryz.func78 rfl (by kernel_rfl) rfl rfl rfl ?_
  intro C x hmk
  refine x.loop (α := { i : Nat // i ≤ up.length }) (fun y => ⟨[(0, vU up), (3, .ptr 1 0), (10, vi (up.length : Int)), (11, vi (y.1 : Int))], [(0, vecU up.length fun r => rowT up y.1 [] r), (1, .box [.own 0])], 2⟩) (fun y => up.length - y.1) ⟨0, by omega⟩ rfl ?_ ?_ (fun y => ?_)
  · simp only [AllP, big, Int.toNat_natCast]; omega
  · refine ⟨⟨veq_d rfl, ⟨rfl, rfl⟩, rfl, rfl, trivial⟩, ⟨⟨rfl, rfl, Int.toNat_natCast _, fun r hr => ?_⟩, ⟨rfl, trivial⟩, trivial⟩, rfl⟩
    show [D.int .u64 0] = [dm (rowT up 0 [] r)]
    rw [rowT_zero]; rfl
  obtain ⟨i, hi⟩ := y
  change Go C _ ⟨[(0, vU up), (3, .ptr 1 0), (10, vi (up.length : Int)), (11, vi (i : Int))], [(0, vecU up.length fun r => rowT up i [] r), (1, .box [.own 0])], 2⟩ _
  refine x.cond rfl trivial (fun h1 => ?_) (fun h1 => ?_)
  · have h1 : i < up.length := by have := of_decide_eq_true h1; omega
    refine x.pure rfl ?_ rfl (all_spec (upA up i)) ⟨rfl, trivial⟩ ?_
    · simp only [AllP]; omega
    refine x.range (ps := [19]) hmk [3] (fun _ => True) (fun k => [(0, vecU up.length fun r => rowT up i ((bits (upA up i)).take k) r), (1, .box [.own 0]), (2, .box [vi (i : Int)])]) (fun _ _ _ => False) rfl trivial rfl (all_seq (upA up i)) ⟨⟨rfl, rfl⟩, trivial⟩ rfl ⟨⟨rfl, trivial⟩, trivial⟩ (fun y hy => ?_) (fun k => rfl) (fun k c H' h => h.elim) trivial ?_ (fun k y hy _ C1 x1 => ?_) (fun _ => ?_) (fun k c H' _ _ h => h.elim)
    · obtain ⟨i, _, rfl⟩ := List.mem_map.1 hy
      rfl
    · exact ⟨⟨rfl, rfl, rfl, fun _ _ => rfl⟩, ⟨rfl, trivial⟩, ⟨rfl, trivial⟩, trivial⟩
    · obtain ⟨k', hgi, rfl, hb, hk64⟩ := bits_at hy
      have hk := hin i h1 k' hb
      refine x1.exit rfl trivial ⟨rfl, fun C2 x2 => ?_⟩
      refine x2.rplan [1, 3] [0, 2, 4, 5, 6, 7, 8] [9] rfl trivial mixedP (by kernel_rfl) RoundR.noPanic RoundR.noOut ?_
      refine x2.qcall rfl ?_ rfl (with_spec (rowT up i ((bits (upA up i)).take k) k') i) rfl rfl ⟨rfl, rfl, trivial⟩ ?_
      · simp only [AllP]; omega
      refine x2.qdone rfl ?_ ?_
      · simp only [AllP]; omega
      refine x2.exit rfl ?_ ⟨trivial, ⟨rfl, rfl, rfl, fun r hr => ?_⟩, ⟨rfl, trivial⟩, ⟨rfl, trivial⟩, trivial⟩
      · simp only [AllP, List.length, Int.toNat_natCast]; omega
      · have := rowT_step (up := up) (i := i) (k := k') (r := r) (l := (bits (upA up i)).take k) (by omega)
        show put2 (fun r => [dm (rowT up i ((bits (upA up i)).take k) r)]) k' 0 [dm (withM (rowT up i ((bits (upA up i)).take k) k') (i : Int))] r = [dm (rowT up i ((bits (upA up i)).take (k + 1)) r)]
        rw [put2_int, take_succ hgi, ← this]
        show [D.int .u64 (if r = k' then _ else _)] = [dm (if r = k' then _ else _)]
        split <;> rfl
    · refine x.back rfl ?_ ⟨⟨i + 1, by omega⟩, by show up.length - (i + 1) < up.length - i; omega, ?_⟩
      · simp only [AllP, inI64]; omega
      · refine ⟨⟨veq_d rfl, ⟨rfl, rfl⟩, rfl, (show VEq0 (vi ((i : Int) + 1)) (vi ((i + 1 : Nat) : Int)) by rw [Int.natCast_add]; rfl), trivial⟩, ⟨⟨rfl, rfl, rfl, fun r hr => ?_⟩, ⟨rfl, trivial⟩, trivial⟩, rfl⟩
        show [dm (rowT up i ((bits (upA up i)).take _) r)] = [dm (rowT up (i + 1) [] r)]
        rw [len_bits, List.take_length, rowT_next]
  · have h1 : i = up.length := by have := of_decide_eq_false h1; omega
    refine x.exit rfl trivial ?_
    refine ⟨.inr rfl, rfl, ⟨⟨rfl, rfl, rfl, fun r hr => ?_⟩, trivial⟩, rfl⟩
    show [dm (rowT up i [] r)] = [dm (upA (turnedM up) r)]
    rw [h1, rowT_end hr]

theorem below_ofP {n : Nat} (h : n ≤ 64) : belowM (n : Int) = ofP fun j => decide (j < n) := m_ext fun j hj => by
  rw [bit_belowM, bit_ofP _ hj]
  simp only [decide_eq_decide]
  omega
def rowOK (up : List M64) (i k : Nat) : Bool := decide (upA up k &&& ~~~ upA up i = 0#64) && !(decide (k ≠ i) && bit (upA up k) i)
theorem orderRow_eq (up : List M64) (i : Nat) : orderRow up i = (bit (upA up i) i && decide (upA up i &&& ~~~ ofP (fun j => decide (j < up.length)) = 0#64) && (bits (upA up i)).all (rowOK up i)) := rfl

theorem order_spec (up : List M64) (hl : inI64 (up.length : Int)) : Pure PG 75 [vU up] (vb (orderM up)) [] := by
  refine Proc.mkR (cfg 59) tysOK [] Tryz.func75 rfl (by kernel_rfl) rfl rfl rfl ?_
  intro C x hmk
  refine x.cond rfl trivial (fun h0 => ?_) (fun h0 => ?_)
  · refine x.exit rfl trivial ⟨.inr rfl, ?_, trivial, rfl⟩
    show false = orderM up
    have h0 : (decide ((up.length : Int) < 1) || decide (64 < (up.length : Int))) = true := h0
    rw [eq_comm, orderM, Bool.and_eq_false_iff, Bool.and_eq_false_iff]
    simp only [Bool.or_eq_true, decide_eq_true_eq] at h0
    refine .inl (h0.imp (fun h => decide_eq_false (by omega)) (fun h => decide_eq_false (by omega)))
  have hlen : 1 ≤ up.length ∧ up.length ≤ 64 := by
    have h0 : (decide ((up.length : Int) < 1) || decide (64 < (up.length : Int))) = false := h0
    simp only [Bool.or_eq_false_iff, decide_eq_false_iff_not] at h0
    omega
  have hno : ∀ i, i < up.length → orderRow up i = false → orderM up = false := fun i hi h => by
    rw [orderM, Bool.and_eq_false_iff]
    refine .inr (List.all_eq_false.2 ⟨i, List.mem_range.2 hi, by rw [h]; simp⟩)
  have hand : ∀ i, bitI .andNot .u64 ((upA up i).toNat : Int) ((belowM (up.length : Int)).toNat : Int) = 0 ↔ upA up i &&& ~~~ ofP (fun j => decide (j < up.length)) = 0#64 := fun i => by rw [andNot_zero, below_ofP hlen.2]
  refine x.pure rfl trivial rfl (below_spec (up.length : Int) hl) ⟨rfl, trivial⟩ ?_
  refine x.loop (α := { i : Nat // i ≤ up.length ∧ ∀ a, a < i → orderRow up a = true }) (fun y => ⟨[(1, .ptr 0 0), (2, .ptr 1 0), (3, vm (belowM (up.length : Int))), (18, vU up), (19, vi (up.length : Int)), (20, vi (y.1 : Int))], [(0, .box [vU up]), (1, .box [vb false])], 2⟩) (fun y => up.length - y.1) ⟨0, by omega, fun a ha => by omega⟩ rfl trivial ?_ (fun y => ?_)
  · exact ⟨⟨⟨rfl, rfl⟩, ⟨rfl, rfl⟩, rfl, veq_d rfl, rfl, rfl, trivial⟩, ⟨⟨veq0_d rfl, trivial⟩, ⟨rfl, trivial⟩, trivial⟩, rfl⟩
  obtain ⟨i, hi, hdone⟩ := y
  change Go C _ ⟨[(1, .ptr 0 0), (2, .ptr 1 0), (3, vm (belowM (up.length : Int))), (18, vU up), (19, vi (up.length : Int)), (20, vi (i : Int))], [(0, .box [vU up]), (1, .box [vb false])], 2⟩ _
  refine x.cond rfl trivial (fun h1 => ?_) (fun h1 => ?_)
  · have h1 : i < up.length := by have := of_decide_eq_true h1; omega
    refine x.pure rfl ?_ rfl (has_spec (upA up i) i) ⟨rfl, rfl, trivial⟩ ?_
    · simp only [AllP]; omega
    refine x.cond rfl trivial (fun h2 => ?_) (fun h2 => ?_)
    · refine x.exit rfl trivial ⟨.inr rfl, ?_, trivial, rfl⟩
      show false = orderM up
      refine (hno i h1 ?_).symm
      have h2 : (!hasM (upA up i) (i : Int) || !decide (bitI .andNot .u64 ((upA up i).toNat : Int) ((belowM (up.length : Int)).toNat : Int) = 0)) = true := h2
      rw [hasM_nat, Bool.or_eq_true, Bool.not_eq_true', Bool.not_eq_true', decide_eq_false_iff_not, hand] at h2
      rw [orderRow_eq, Bool.and_eq_false_iff, Bool.and_eq_false_iff]
      exact .inl (h2.imp id decide_eq_false)
    have hrow : bit (upA up i) i = true ∧ upA up i &&& ~~~ ofP (fun j => decide (j < up.length)) = 0#64 := by
      have h2 : (!hasM (upA up i) (i : Int) || !decide (bitI .andNot .u64 ((upA up i).toNat : Int) ((belowM (up.length : Int)).toNat : Int) = 0)) = false := h2
      rw [hasM_nat, Bool.or_eq_false_iff, Bool.not_eq_false', Bool.not_eq_false', decide_eq_true_eq, hand] at h2
      exact h2
    have hin : InU up.length (upA up i) := fun j hj => by
      have h64 : j < 64 := by
        by_cases h64 : j < 64
        · exact h64
        · rw [bit_ge _ (by omega)] at hj; cases hj
      have := zero_iff_sub.1 hrow.2 j hj
      rw [bit_ofP _ h64] at this
      simpa using this
    have hrowE : orderRow up i = (bits (upA up i)).all (rowOK up i) := by rw [orderRow_eq, hrow.1, decide_eq_true hrow.2]; rfl
    refine x.pure rfl trivial rfl (all_spec (upA up i)) ⟨rfl, trivial⟩ ?_
    refine x.range (ps := [37]) hmk [4] (fun k => ∀ j, j < k → rowOK up i ((bits (upA up i)).getD j 0) = true) (fun k => [(0, .box [vU up]), (1, .box [vb false]), (2, .box [vi (i : Int)]), (3, .box [vm (upA up i)])]) (fun k c H' => c = .ret ∧ H' = [(1, .box [vb false])] ∧ rowOK up i ((bits (upA up i)).getD k 0) = false) rfl trivial rfl (all_seq (upA up i)) ⟨⟨rfl, rfl⟩, trivial⟩ rfl ⟨⟨rfl, trivial⟩, trivial⟩ (fun y hy => ?_) (fun k => rfl) (fun k c H' h => by obtain ⟨_, rfl, _⟩ := h; rfl) (fun j hj => by omega) ⟨⟨veq0_d rfl, trivial⟩, ⟨rfl, trivial⟩, ⟨rfl, trivial⟩, ⟨rfl, trivial⟩, trivial⟩ (fun k y hy hP C1 x1 => ?_) (fun hP => ?_) (fun k c H' hk hP h => ?_)
    · obtain ⟨i, _, rfl⟩ := List.mem_map.1 hy
      rfl
    · obtain ⟨k', hgi, rfl, hb, hk64⟩ := bits_at hy
      have hk := hin k' hb
      have hgD : (bits (upA up i)).getD k 0 = k' := by rw [List.getD_eq_getElem?_getD, hgi]; rfl
      refine x1.exit rfl trivial ⟨rfl, fun C2 x2 => ?_⟩
      refine x2.rquiet rfl trivial mixedP (by kernel_rfl) RoundR.noOut ?_
      refine x2.qcallG rfl ?_ rfl (fun _ _ => has_spec (upA up k') i) rfl rfl ⟨rfl, rfl, trivial⟩ ?_
      · have hh : 0 ≤ (k' : Int) ∧ (k' : Int) < (up.length : Int) := by omega
        exact ⟨hh, fun _ _ => hh⟩
      refine x2.qdone rfl trivial ?_
      have hE : rowOK up i k' = !(!decide (bitI .andNot .u64 ((upA up k').toNat : Int) ((upA up i).toNat : Int) = 0) || (!decide ((k' : Int) = (i : Int)) && hasM (upA up k') (i : Int))) := by
        unfold rowOK
        rw [hasM_nat, Bool.not_or, Bool.not_not]
        congr 1
        · rw [decide_eq_decide]; exact andNot_zero.symm
        · congr 2
          rw [decide_not]
          congr 1
          rw [decide_eq_decide]; omega
      refine x2.cond rfl trivial (fun h => ?_) (fun h => ?_)
      · refine x2.exit rfl trivial ?_
        refine ⟨[(1, .box [vb false])], ⟨rfl, rfl, ?_⟩, ⟨rfl, trivial⟩, trivial⟩
        rw [hgD, hE]
        exact (congrArg not h).trans rfl
      · refine x2.exit rfl trivial ?_
        refine ⟨fun j hj => ?_, ⟨veq0_d rfl, trivial⟩, ⟨rfl, trivial⟩, ⟨rfl, trivial⟩, ⟨rfl, trivial⟩, trivial⟩
        by_cases e : j = k
        · rw [e, hgD, hE]
          exact (congrArg not h).trans rfl
        · exact hP j (by omega)
    · refine x.back rfl ?_ ⟨⟨i + 1, by omega, fun a ha => ?_⟩, by show up.length - (i + 1) < up.length - i; omega, ?_⟩
      · simp only [AllP, inI64]; omega
      · by_cases e : a = i
        · rw [e, hrowE, List.all_eq_true]
          intro k' hk'
          obtain ⟨k, hk, rfl⟩ := List.getElem_of_mem hk'
          have := hP k (by rw [len_bits]; exact hk)
          rwa [List.getD_eq_getElem?_getD, List.getElem?_eq_getElem hk] at this
        · exact hdone a (by omega)
      · exact ⟨⟨⟨rfl, rfl⟩, ⟨rfl, rfl⟩, rfl, veq_d rfl, rfl, (show VEq0 (vi ((i : Int) + 1)) (vi ((i + 1 : Nat) : Int)) by rw [Int.natCast_add]; rfl), trivial⟩, ⟨⟨veq0_d rfl, trivial⟩, ⟨rfl, trivial⟩, trivial⟩, rfl⟩
    · obtain ⟨rfl, rfl, h⟩ := h
      rw [len_bits] at hk
      refine x.exit rfl trivial ⟨.inr rfl, ?_, trivial, rfl⟩
      show false = orderM up
      refine (hno i h1 ?_).symm
      rw [hrowE, List.all_eq_false]
      exact ⟨(bits (upA up i)).getD k 0, by rw [List.getD_eq_getElem?_getD, List.getElem?_eq_getElem hk]; exact List.getElem_mem hk, by rw [h]; simp⟩
  · have h1 : i = up.length := by have := of_decide_eq_false h1; omega
    refine x.exit rfl trivial ⟨.inr rfl, ?_, trivial, rfl⟩
    show true = orderM up
    rw [eq_comm, orderM, decide_eq_true hlen.1, decide_eq_true hlen.2]
    refine List.all_eq_true.2 fun a ha => hdone a (by have := List.mem_range.1 ha; omega)

theorem each_false {up : List M64} {a b : Nat} (ha : a < up.length) (hb : b < a) (h : leastM up (upA up a &&& upA up b) < 0) : eachM up = false := by
  unfold eachM
  rw [List.all_eq_false]
  refine ⟨a, List.mem_range.2 ha, ?_⟩
  rw [Bool.not_eq_true, List.all_eq_false]
  exact ⟨b, List.mem_range.2 hb, by simp; omega⟩
theorem each_spec (up : List M64) (h64 : up.length ≤ 64) (hin : ∀ i, i < up.length → InU up.length (upA up i)) : Pure PG 76 [vU up] (vb (eachM up)) [] := by
  refine Proc.mk (cfg 28) tysOK [] Tryz.func76 rfl (by kernel_rfl) rfl rfl rfl ?_
  intro C x
  refine x.loop (α := { i : Nat // i ≤ up.length ∧ ∀ a b, a < i → b < a → 0 ≤ leastM up (upA up a &&& upA up b) }) (fun y => ⟨[(0, vU up), (6, vi (up.length : Int)), (7, vi (y.1 : Int))], [], 0⟩) (fun y => up.length - y.1) ⟨0, by omega, fun a b ha => by omega⟩ rfl trivial ⟨⟨veq_d rfl, rfl, rfl, trivial⟩, trivial, rfl⟩ (fun y => ?_)
  obtain ⟨i, hi, hdone⟩ := y
  change Go C _ ⟨[(0, vU up), (6, vi (up.length : Int)), (7, vi (i : Int))], [], 0⟩ _
  refine x.cond rfl trivial (fun h1 => ?_) (fun h1 => ?_)
  · have h1 : i < up.length := by have := of_decide_eq_true h1; omega
    refine x.loop (α := { b : Nat // b ≤ i ∧ ∀ c, c < b → 0 ≤ leastM up (upA up i &&& upA up c) }) (fun z => ⟨[(0, vU up), (3, vi (i : Int)), (6, vi (up.length : Int)), (7, vi (i : Int)), (10, vi (i : Int)), (11, vi (z.1 : Int))], [], 0⟩) (fun z => i - z.1) ⟨0, by omega, fun a ha => by omega⟩ rfl trivial ⟨⟨veq_d rfl, rfl, rfl, rfl, rfl, rfl, trivial⟩, trivial, rfl⟩ (fun z => ?_)
    obtain ⟨b, hb, hd2⟩ := z
    change Go C _ ⟨[(0, vU up), (3, vi (i : Int)), (6, vi (up.length : Int)), (7, vi (i : Int)), (10, vi (i : Int)), (11, vi (b : Int))], [], 0⟩ _
    refine x.cond rfl trivial (fun h2 => ?_) (fun h2 => ?_)
    · have h2 : b < i := by have := of_decide_eq_true h2; omega
      refine x.quiet rfl trivial mixedP (by kernel_rfl) ?_
      refine x.qcall rfl ?_ rfl (least_spec up (upA up i &&& upA up b) (inU_and (hin i h1))) rfl rfl ⟨veq_d rfl, (show VEq0 (.d (.int .u64 (bitI .and .u64 ((upA up i).toNat : Int) ((upA up b).toNat : Int)))) (vm (upA up i &&& upA up b)) by rw [and_m]; rfl), trivial⟩ ?_
      · simp only [AllP]; omega
      refine x.qdone rfl trivial ?_
      refine x.cond rfl trivial (fun h3 => ?_) (fun h3 => ?_)
      · refine x.exit rfl trivial ⟨.inr rfl, ?_, trivial, rfl⟩
        exact (each_false h1 h2 (of_decide_eq_true h3)).symm
      · have h3 := of_decide_eq_false h3
        refine x.back rfl ?_ ⟨⟨b + 1, by omega, fun c hc => ?_⟩, by show i - (b + 1) < i - b; omega, ⟨veq_d rfl, rfl, rfl, rfl, rfl, (show VEq0 (vi ((b : Int) + 1)) (vi ((b + 1 : Nat) : Int)) by rw [Int.natCast_add]; rfl), trivial⟩, trivial, rfl⟩
        · simp only [AllP, inI64]; omega
        · by_cases e : c = b
          · rw [e]; omega
          · exact hd2 c (by omega)
    · have h2 : b = i := by have := of_decide_eq_false h2; omega
      subst h2
      refine x.back rfl ?_ ⟨⟨b + 1, by omega, fun a c ha hc => ?_⟩, by show up.length - (b + 1) < up.length - b; omega, ⟨veq_d rfl, rfl, (show VEq0 (vi ((b : Int) + 1)) (vi ((b + 1 : Nat) : Int)) by rw [Int.natCast_add]; rfl), trivial⟩, trivial, rfl⟩
      · simp only [AllP, inI64]; omega
      · by_cases e : a = b
        · subst e; exact hd2 c hc
        · exact hdone a c (by omega) hc
  · have h1 : i = up.length := by have := of_decide_eq_false h1; omega
    subst h1
    refine x.exit rfl trivial ⟨.inr rfl, ?_, trivial, rfl⟩
    show true = eachM up
    rw [eq_comm, eachM, List.all_eq_true]
    intro a ha
    rw [List.all_eq_true]
    intro b hb
    exact decide_eq_true (hdone a b (List.mem_range.1 ha) (List.mem_range.1 hb))

theorem turned_frozen (up : List M64) (h64 : up.length ≤ 64) (hin : ∀ i, i < up.length → InU up.length (upA up i)) : Pure PG 78 [vU up] (vU (turnedM up)) [] := by
  have h := Pure.froze (turned_spec up h64 hin)
  unfold vU dUp
  rw [turned_len]
  exact h
theorem right5_spec (up : List M64) (hl : inI64 (up.length : Int)) : Pure PG 57 [vU up] (vb (rightM up)) [] := by
  refine Proc.mk (cfg 16) tysOK [] Tryz.func57 rfl (by kernel_rfl) rfl rfl rfl ?_
  intro C x
  refine x.pure rfl trivial rfl (order_spec up hl) ⟨veq_d rfl, trivial⟩ ?_
  refine x.cond rfl trivial (fun h => ?_) (fun h => ?_)
  · have h : (!orderM up) = true := h
    refine x.exit rfl trivial ⟨.inr rfl, ?_, trivial, rfl⟩
    show false = rightM up
    rw [rightM, show orderM up = false by simpa using h]; rfl
  have ho : orderM up = true := by
    have h : (!orderM up) = false := h
    simpa using h
  have h64 := (order_len ho).2
  have hin : ∀ i, i < up.length → InU up.length (upA up i) := fun i hi => inU_order ho hi
  have ht64 : (turnedM up).length ≤ 64 := by rw [turned_len]; exact h64
  refine x.pure rfl trivial rfl (each_spec up h64 hin) ⟨veq_d rfl, trivial⟩ ?_
  refine x.pureG rfl trivial rfl (fun _ => turned_frozen up h64 hin) rfl ⟨veq_d rfl, trivial⟩ ?_
  refine x.pureG rfl trivial rfl (fun _ => each_spec (turnedM up) ht64 fun i hi => inU_turned (by rw [← turned_len up]; exact hi)) rfl ⟨veq_d rfl, trivial⟩ ?_
  refine x.exit rfl trivial ⟨.inr rfl, ?_, trivial, rfl⟩
  show VEq0 (vb (eachM up && eachM (turnedM up))) (vb (rightM up))
  rw [rightM, ho]; exact rfl
end Go.Proofs.YtgnnglfbpcjadaaGreatDoor

/- Orders: the program's own: a lattice of pairs. -/
namespace Go.Proofs.YtgnnglfbpcjadaaGreatDoor
open Go.Sx
set_option linter.unusedVariables false
set_option linter.unusedSimpArgs false
set_option maxRecDepth 100000

/-- Pairs of levels, as data. -/
def dPairs (ps : List (Nat × Nat)) : D := .sl 2 ps.length fun i => [.int .i64 ((ps.getD i (0, 0)).1 : Int), .int .i64 ((ps.getD i (0, 0)).2 : Int)]
abbrev vPairs (ps : List (Nat × Nat)) : V := .d (dPairs ps)
/-- Each level, and what the pairs say. -/
def pairRow (ps : List (Nat × Nat)) (r : Nat) : M64 := ofP fun j => decide (j = r) || decide ((r, j) ∈ ps)
/-- One step of the closure. -/
def wStep (f : Nat → M64) (k i : Nat) : Nat → M64 := fun r => if r = i then (if bit (f i) k then f i ||| f k else f i) else f r
def wRow (f : Nat → M64) (k : Nat) : Nat → Nat → M64
  | 0 => f
  | i + 1 => wStep (wRow f k i) k i
def wAll (n : Nat) (f : Nat → M64) : Nat → Nat → M64
  | 0 => f
  | k + 1 => wRow (wAll n f k) k n
/-- The closure. -/
def closed (n : Nat) (ps : List (Nat × Nat)) : Nat → M64 := wAll n (pairRow ps) n
def closeM (n : Nat) (ps : List (Nat × Nat)) : List M64 := (List.range n).map (closed n ps)
theorem close_len (n : Nat) (ps : List (Nat × Nat)) : (closeM n ps).length = n := by simp [closeM]
theorem close_at {n : Nat} {ps : List (Nat × Nat)} {i : Nat} (hi : i < n) : upA (closeM n ps) i = closed n ps i := by
  unfold upA closeM
  rw [List.getD_eq_getElem?_getD, List.getElem?_map, List.getElem?_range hi]; rfl
theorem withM_zero {i : Nat} (hi : i < 64) : withM 0#64 (i : Int) = one i := m_ext fun j hj => by
  rw [bit_withM, bit_one hi]
  by_cases h : j = i
  · subst h; simp [hj, bit]
  · have : ¬ ((j : Int) = (i : Int)) := by omega
    simp [h, this, bit]
theorem pairRow_nil {r : Nat} (hr : r < 64) : pairRow [] r = one r := m_ext fun j hj => by
  unfold pairRow
  rw [bit_ofP _ hj, bit_one hr]
  simp
theorem pairRow_snoc {ps : List (Nat × Nat)} {a b r : Nat} (hb : b < 64) : pairRow (ps ++ [(a, b)]) r = if r = a then withM (pairRow ps a) (b : Int) else pairRow ps r := by
  refine m_ext fun j hj => ?_
  unfold pairRow
  rw [bit_ofP _ hj]
  split
  · rename_i e
    subst e
    rw [bit_withM, bit_ofP _ hj]
    by_cases h : j = b
    · subst h; simp [hj]
    · have : ¬ ((j : Int) = (b : Int)) := by omega
      simp [h, this]
  · rename_i e
    rw [bit_ofP _ hj]
    simp [e]

theorem build_spec (n : Nat) (ps : List (Nat × Nat)) (h1 : 1 ≤ n) (h64 : n ≤ 64) (hps : ∀ p ∈ ps, p.1 < n ∧ p.2 < n) (hl : inI64 (ps.length : Int)) :
    Pure PG 56 [vi (n : Int), vPairs ps] (.tup [vU (if rightM (closeM n ps) then closeM n ps else []), vi (if rightM (closeM n ps) then 0 else 11)]) [] := by
  refine Proc.mk (cfg 99) tysOK [] Tryz.func56 rfl (by kernel_rfl) rfl rfl rfl ?_
  intro C x
  unfold inI64 at hl
  refine x.cond rfl trivial (fun h => ?_) (fun _ => ?_)
  · have h : (decide ((n : Int) < 1) || decide (64 < (n : Int))) = true := h
    simp only [Bool.or_eq_true, decide_eq_true_eq] at h
    omega
  refine x.loop (α := { i : Nat // i ≤ n }) (fun y => ⟨[(0, vi (n : Int)), (1, vPairs ps), (6, .own 0), (20, vi (n : Int)), (21, vi (y.1 : Int))], [(0, vecU n fun r => if r < y.1 then one r else 0#64)], 1⟩) (fun y => n - y.1) ⟨0, by omega⟩ rfl ?_ ?_ (fun y => ?_)
  · simp only [AllP, big, Int.toNat_natCast]; omega
  · refine ⟨⟨rfl, veq_d rfl, rfl, rfl, rfl, trivial⟩, ⟨⟨rfl, rfl, Int.toNat_natCast _, fun r hr => ?_⟩, trivial⟩, rfl⟩
    show [D.int .u64 0] = [dm (if r < 0 then one r else 0#64)]
    rw [if_neg (by omega)]; rfl
  obtain ⟨i, hi⟩ := y
  change Go C _ ⟨[(0, vi (n : Int)), (1, vPairs ps), (6, .own 0), (20, vi (n : Int)), (21, vi (i : Int))], [(0, vecU n fun r => if r < i then one r else 0#64)], 1⟩ _
  refine x.cond rfl trivial (fun h2 => ?_) (fun h2 => ?_)
  · have h2 : i < n := by have := of_decide_eq_true h2; omega
    refine x.pure rfl trivial rfl (with_spec 0#64 i) ⟨rfl, rfl, trivial⟩ ?_
    refine x.back rfl ?_ ⟨⟨i + 1, by omega⟩, by show n - (i + 1) < n - i; omega, ?_⟩
    · simp only [AllP, List.length, Int.toNat_natCast, inI64]; omega
    · refine ⟨⟨rfl, veq_d rfl, rfl, rfl, (show VEq0 (vi ((i : Int) + 1)) (vi ((i + 1 : Nat) : Int)) by rw [Int.natCast_add]; rfl), trivial⟩, ⟨⟨rfl, rfl, rfl, fun r hr => ?_⟩, trivial⟩, rfl⟩
      show put2 (fun r => [dm (if r < i then one r else 0#64)]) i 0 [dm (withM 0#64 (i : Int))] r = [dm (if r < i + 1 then one r else 0#64)]
      rw [put2_int, withM_zero (by omega)]
      show [D.int .u64 (if r = i then _ else _)] = _
      by_cases e : r = i
      · rw [if_pos e, if_pos (by omega), e]
      · rw [if_neg e]
        by_cases e2 : r < i
        · rw [if_pos e2, if_pos (by omega)]
        · rw [if_neg e2, if_neg (by omega)]
  have h2 : i = n := by have := of_decide_eq_false h2; omega
  subst h2
  refine x.loop (α := { j : Nat // j ≤ ps.length }) (fun y => ⟨[(0, vi (i : Int)), (6, .own 0), (30, vPairs ps), (31, vi (ps.length : Int)), (32, vi (y.1 : Int))], [(0, vecU i fun r => pairRow (ps.take y.1) r)], 1⟩) (fun y => ps.length - y.1) ⟨0, by omega⟩ rfl trivial ?_ (fun y => ?_)
  · refine ⟨⟨rfl, rfl, veq_d rfl, rfl, rfl, trivial⟩, ⟨⟨rfl, rfl, rfl, fun r hr => ?_⟩, trivial⟩, rfl⟩
    show [dm (if r < i then one r else 0#64)] = [dm (pairRow [] r)]
    rw [if_pos hr, pairRow_nil (by omega)]
  obtain ⟨j, hj⟩ := y
  change Go C _ ⟨[(0, vi (i : Int)), (6, .own 0), (30, vPairs ps), (31, vi (ps.length : Int)), (32, vi (j : Int))], [(0, vecU i fun r => pairRow (ps.take j) r)], 1⟩ _
  refine x.cond rfl trivial (fun h3 => ?_) (fun h3 => ?_)
  · have h3 : j < ps.length := by have := of_decide_eq_true h3; omega
    have hgD : ps.getD j (0, 0) = ps[j] := by rw [List.getD_eq_getElem?_getD, List.getElem?_eq_getElem h3]; rfl
    obtain ⟨p1, p2⟩ := hps _ (List.getElem_mem h3)
    have hq : ps.getD j (0, 0) ∈ ps := by rw [hgD]; exact List.getElem_mem h3
    obtain ⟨p1, p2⟩ := hps _ hq
    refine x.cond rfl ?_ (fun h => ?_) (fun _ => ?_)
    · simp only [AllP]
      exact ⟨by omega, by decide, by decide, fun _ => by decide, fun _ => by decide, fun _ => by decide, fun _ => by decide, fun _ => by decide, fun _ => by decide⟩
    · exfalso
      have h : (((decide (((ps.getD j (0, 0)).1 : Int) < 0) || decide ((i : Int) ≤ ((ps.getD j (0, 0)).1 : Int))) || decide (((ps.getD j (0, 0)).2 : Int) < 0)) || decide ((i : Int) ≤ ((ps.getD j (0, 0)).2 : Int))) = true := h
      simp only [Bool.or_eq_true, decide_eq_true_eq] at h
      omega
    refine x.plan [0, 3] [1, 2, 4, 5, 6, 7, 8, 9, 10, 11] [12] rfl trivial mixedP (by kernel_rfl) Ret.noPanic ?_
    refine x.qcall rfl ?_ rfl (with_spec (pairRow (ps.take j) (ps.getD j (0, 0)).1) (ps.getD j (0, 0)).2) rfl rfl ⟨rfl, rfl, trivial⟩ ?_
    · simp only [AllP, Int.toNat_natCast]
      exact ⟨by decide, by decide, by decide, by decide, ⟨by omega, by omega⟩, p1, by decide, by decide⟩
    refine x.qdone rfl (by simp only [AllP, Int.toNat_natCast]; omega) ?_
    refine x.back rfl ?_ ⟨⟨j + 1, by omega⟩, by show ps.length - (j + 1) < ps.length - j; omega, ?_⟩
    · simp only [AllP, List.length, Int.toNat_natCast, inI64]; omega
    · refine ⟨⟨rfl, rfl, veq_d rfl, rfl, (show VEq0 (vi ((j : Int) + 1)) (vi ((j + 1 : Nat) : Int)) by rw [Int.natCast_add]; rfl), trivial⟩, ⟨⟨rfl, rfl, rfl, fun r hr => ?_⟩, trivial⟩, rfl⟩
      show put2 (fun r => [dm (pairRow (ps.take j) r)]) (ps.getD j (0, 0)).1 0 [dm (withM (pairRow (ps.take j) (ps.getD j (0, 0)).1) ((ps.getD j (0, 0)).2 : Int))] r = [dm (pairRow (ps.take (j + 1)) r)]
      have e : ps.take (j + 1) = ps.take j ++ [((ps.getD j (0, 0)).1, (ps.getD j (0, 0)).2)] := by rw [take_succ (a := ps[j]) (List.getElem?_eq_getElem h3), hgD]
      rw [put2_int, e, pairRow_snoc (by omega)]
      show [D.int .u64 (if r = _ then _ else _)] = [dm (if r = _ then _ else _)]
      split <;> rfl
  have h3 : j = ps.length := by have := of_decide_eq_false h3; omega
  refine x.loop (α := { k : Nat // k ≤ i }) (fun y => ⟨[(0, vi (i : Int)), (6, .own 0), (69, vi (i : Int)), (70, vi (y.1 : Int))], [(0, vecU i fun r => wAll i (pairRow ps) y.1 r)], 1⟩) (fun y => i - y.1) ⟨0, by omega⟩ rfl trivial ?_ (fun y => ?_)
  · refine ⟨⟨rfl, rfl, rfl, rfl, trivial⟩, ⟨⟨rfl, rfl, rfl, fun r hr => ?_⟩, trivial⟩, rfl⟩
    show [dm (pairRow (ps.take j) r)] = [dm (pairRow ps r)]
    rw [h3, List.take_length]
  obtain ⟨k, hk⟩ := y
  change Go C _ ⟨[(0, vi (i : Int)), (6, .own 0), (69, vi (i : Int)), (70, vi (k : Int))], [(0, vecU i fun r => wAll i (pairRow ps) k r)], 1⟩ _
  refine x.cond rfl trivial (fun h4 => ?_) (fun h4 => ?_)
  · have h4 : k < i := by have := of_decide_eq_true h4; omega
    refine x.loop (α := { m : Nat // m ≤ i }) (fun y => ⟨[(0, vi (i : Int)), (6, .own 0), (10, vi (k : Int)), (69, vi (i : Int)), (70, vi (k : Int)), (73, vi (i : Int)), (74, vi (y.1 : Int))], [(0, vecU i fun r => wRow (wAll i (pairRow ps) k) k y.1 r)], 1⟩) (fun y => i - y.1) ⟨0, by omega⟩ rfl trivial ?_ (fun y => ?_)
    · exact ⟨⟨rfl, rfl, rfl, rfl, rfl, rfl, rfl, trivial⟩, ⟨⟨rfl, rfl, rfl, fun r hr => rfl⟩, trivial⟩, rfl⟩
    obtain ⟨m, hm⟩ := y
    change Go C _ ⟨[(0, vi (i : Int)), (6, .own 0), (10, vi (k : Int)), (69, vi (i : Int)), (70, vi (k : Int)), (73, vi (i : Int)), (74, vi (m : Int))], [(0, vecU i fun r => wRow (wAll i (pairRow ps) k) k m r)], 1⟩ _
    refine x.cond rfl trivial (fun h5 => ?_) (fun h5 => ?_)
    · have h5 : m < i := by have := of_decide_eq_true h5; omega
      refine x.pure rfl ?_ rfl (has_spec (wRow (wAll i (pairRow ps) k) k m m) k) ⟨rfl, rfl, trivial⟩ ?_
      · simp only [AllP]; omega
      refine x.cond rfl trivial (fun h6 => ?_) (fun h6 => ?_)
      · have h6 : hasM (wRow (wAll i (pairRow ps) k) k m m) (k : Int) = true := h6
        rw [hasM_nat] at h6
        refine x.plan [0, 1, 4, 5] [2, 3, 6, 7, 8, 9] [10] rfl trivial mixedP (by kernel_rfl) Ret.noPanic ?_
        refine x.qdone rfl (by simp only [AllP]; omega) ?_
        refine x.back rfl ?_ ⟨⟨m + 1, by omega⟩, by show i - (m + 1) < i - m; omega, ?_⟩
        · simp only [AllP, List.length, Int.toNat_natCast, inI64]; omega
        · refine ⟨⟨rfl, rfl, rfl, rfl, rfl, rfl, (show VEq0 (vi ((m : Int) + 1)) (vi ((m + 1 : Nat) : Int)) by rw [Int.natCast_add]; rfl), trivial⟩, ⟨⟨rfl, rfl, rfl, fun r hr => ?_⟩, trivial⟩, rfl⟩
          show put2 (fun r => [dm (wRow (wAll i (pairRow ps) k) k m r)]) m 0 [D.int .u64 (bitI .or .u64 ((wRow (wAll i (pairRow ps) k) k m m).toNat : Int) ((wRow (wAll i (pairRow ps) k) k m k).toNat : Int))] r = [dm (wStep (wRow (wAll i (pairRow ps) k) k m) k m r)]
          rw [put2_int, or_m, wStep, if_pos h6]
          show [D.int .u64 (if r = _ then _ else _)] = [dm (if r = _ then _ else _)]
          split <;> rfl
      · have h6 : hasM (wRow (wAll i (pairRow ps) k) k m m) (k : Int) = false := h6
        rw [hasM_nat] at h6
        refine x.back rfl ?_ ⟨⟨m + 1, by omega⟩, by show i - (m + 1) < i - m; omega, ?_⟩
        · simp only [AllP, inI64]; omega
        · refine ⟨⟨rfl, rfl, rfl, rfl, rfl, rfl, (show VEq0 (vi ((m : Int) + 1)) (vi ((m + 1 : Nat) : Int)) by rw [Int.natCast_add]; rfl), trivial⟩, ⟨⟨rfl, rfl, rfl, fun r hr => ?_⟩, trivial⟩, rfl⟩
          show [dm (wRow (wAll i (pairRow ps) k) k m r)] = [dm (wStep (wRow (wAll i (pairRow ps) k) k m) k m r)]
          rw [wStep, h6]
          split
          · rename_i e; rw [e]; rfl
          · rfl
    · have h5 : m = i := by have := of_decide_eq_false h5; omega
      refine x.back rfl ?_ ⟨⟨k + 1, by omega⟩, by show i - (k + 1) < i - k; omega, ?_⟩
      · simp only [AllP, inI64]; omega
      · refine ⟨⟨rfl, rfl, rfl, (show VEq0 (vi ((k : Int) + 1)) (vi ((k + 1 : Nat) : Int)) by rw [Int.natCast_add]; rfl), trivial⟩, ⟨⟨rfl, rfl, rfl, fun r hr => ?_⟩, trivial⟩, rfl⟩
        show [dm (wRow (wAll i (pairRow ps) k) k m r)] = [dm (wRow (wAll i (pairRow ps) k) k i r)]
        rw [h5]
  have h4 : k = i := by have := of_decide_eq_false h4; omega
  have hrow : ∀ r, r < i → [dm (wAll i (pairRow ps) k r)] = [dm (upA (closeM i ps) r)] := fun r hr => by rw [close_at hr, closed, h4]
  have hR : Pure PG 57 [.d (.sl 1 i fun r => [dm (wAll i (pairRow ps) k r)])] (vb (rightM (closeM i ps))) [] := by
    have h := right5_spec (closeM i ps) (by rw [close_len]; unfold inI64; omega)
    refine Pure.args (args := [vU (closeM i ps)]) h ⟨⟨(close_len i ps).symm, fun _ => rfl, fun r hr => hrow r hr⟩, trivial⟩ rfl
  refine x.call [0] rfl trivial rfl (Pure.borrow [vecU i fun r => wAll i (pairRow ps) k r] hR (args := [.own 0]) rfl rfl rfl) rfl ⟨rfl, trivial⟩ ⟨⟨rfl, rfl, rfl, fun _ _ => rfl⟩, trivial⟩ ?_
  refine x.cond rfl trivial (fun h7 => ?_) (fun h7 => ?_)
  · have h7 : (!rightM (closeM i ps)) = true := h7
    have h7 : rightM (closeM i ps) = false := by simpa using h7
    refine x.exit rfl trivial ⟨.inr rfl, ?_, trivial, rfl⟩
    rw [h7]
    exact ⟨rfl, rfl, trivial⟩
  · have h7 : (!rightM (closeM i ps)) = false := h7
    have h7 : rightM (closeM i ps) = true := by simpa using h7
    refine Sx.Go.freeze 0 ?_
    refine x.exit rfl trivial ⟨.inr rfl, ?_, trivial, rfl⟩
    rw [h7]
    refine ⟨⟨(close_len i ps).symm, fun _ => rfl, fun r hr => hrow r hr⟩, rfl, trivial⟩
end Go.Proofs.YtgnnglfbpcjadaaGreatDoor

/- The text of a number: plain facts, and the answer's. -/
namespace Go.Proofs.YtgnnglfbpcjadaaGreatDoor
open Go.Sx
set_option linter.unusedVariables false
set_option linter.unusedSimpArgs false
set_option maxRecDepth 100000

def digs (u : Nat) : List UInt8 := if u < 10 then [UInt8.ofNat (48 + u)] else digs (u / 10) ++ [UInt8.ofNat (48 + u % 10)]
termination_by u
decreasing_by omega
theorem digs_lt {u : Nat} (h : u < 10) : digs u = [UInt8.ofNat (48 + u)] := by rw [digs, if_pos h]
theorem digs_ge {u : Nat} (h : ¬ u < 10) : digs u = digs (u / 10) ++ [UInt8.ofNat (48 + u % 10)] := by rw [digs, if_neg h]

def digs0 (u : Nat) : List UInt8 := if u = 0 then [] else digs u
theorem digs0_app (u : Nat) : digs0 (u / 10) ++ [UInt8.ofNat (48 + u % 10)] = digs u := by
  by_cases h : u < 10
  · rw [digs_lt h, digs0, if_pos (by omega), Nat.mod_eq_of_lt h]; rfl
  · rw [digs_ge h, digs0, if_neg (by omega)]

def sgV (n : Int) : List UInt8 := if n < 0 then [45] else []
def showV (n : Int) : ByteArray := ba (sgV n ++ digs n.natAbs)

theorem digs_len : ∀ (k u : Nat), u < 10 ^ (k + 1) → (digs u).length ≤ k + 1
  | 0, u, h => by rw [digs_lt (by simpa using h)]; simp
  | k + 1, u, h => by
    by_cases hu : u < 10
    · rw [digs_lt hu]; simp
    · rw [digs_ge hu]
      have := digs_len k (u / 10) (by rw [Nat.pow_succ] at h; omega)
      simp; omega

theorem getD_map {α β : Type} (l : List α) (f : α → β) (d : α) (e : β) (i : Nat) (h : i < l.length) : (l.map f).getD i e = f (l.getD i d) := by
  simp [List.getD_eq_getElem?_getD, h]

def ten : ByteArray := ⟨#[48, 49, 50, 51, 52, 53, 54, 55, 56, 57]⟩
theorem ten_at (u : Nat) (h : u < 10) : ten.extract u (u + 1) = ba [UInt8.ofNat (48 + u)] := by
  have : ∀ u : Fin 10, ten.extract u.1 (u.1 + 1) = ba [UInt8.ofNat (48 + u.1)] := by decide +kernel
  exact this ⟨u, h⟩

structure HI (u0 : Nat) where
  u : Nat
  l : List UInt8
  same : digs u ++ l = digs u0
  le : u ≤ u0
  len : l.length ≤ 20


theorem min_text : (⟨#[45, 57, 50, 50, 51, 51, 55, 50, 48, 51, 54, 56, 53, 52, 55, 55, 53, 56, 48, 56]⟩ : ByteArray) = showV (-9223372036854775808) := by
  unfold showV sgV
  rw [if_pos (by omega), show Int.natAbs (-9223372036854775808) = 9223372036854775808 from rfl]
  repeat rw [digs_ge (by decide)]
  rw [digs_lt (by decide)]
  decide +kernel

end Go.Proofs.YtgnnglfbpcjadaaGreatDoor

/- A number out of its text. -/
namespace Go.Proofs.YtgnnglfbpcjadaaGreatDoor
open Go.Sx
set_option linter.unusedVariables false
set_option linter.unusedSimpArgs false
set_option maxRecDepth 100000

theorem hasPrefix_spec (s p : ByteArray) :
    Pure PG 129 [vs s, vs p] (vb (decide ((p.size : Int) ≤ s.size) && decide ((s.extract 0 p.size).data.toList = p.data.toList))) [] := by
  refine Proc.mk (cfg 18) tysOK [] Tryz.func129 rfl (by kernel_rfl) rfl rfl rfl ?_
  intro C x
  refine x.exit rfl ?_ ?_
  · intro h
    exact ⟨by omega, by simpa using h⟩
  refine ⟨.inr rfl, ?_, trivial, rfl⟩
  show _ = _
  rfl

def cutV (s p : ByteArray) : ByteArray × Bool := if (decide ((p.size : Int) ≤ s.size) && decide ((s.extract 0 p.size).data.toList = p.data.toList)) = true then (s.extract p.size s.size, true) else (s, false)

theorem cut1_spec (s p : ByteArray) : Pure PG 122 [vs s, vs p] (.tup [vs (cutV s p).1, vb (cutV s p).2]) [] := by
  refine Proc.mk (cfg 15) tysOK [] Tryz.func122 rfl (by kernel_rfl) rfl rfl rfl ?_
  intro C x
  refine x.pure rfl trivial rfl (hasPrefix_spec s p) ⟨rfl, rfl, trivial⟩ ?_
  refine x.cond rfl trivial (fun h => ?_) (fun h => ?_)
  · refine x.exit rfl trivial ?_
    refine ⟨.inr rfl, ?_, trivial, rfl⟩
    rw [cutV, if_neg (by simpa only [Bool.not_eq_true', Bool.not_eq_true] using h)]
    exact ⟨rfl, rfl, trivial⟩
  · have h' : (decide ((p.size : Int) ≤ s.size) && decide ((s.extract 0 p.size).data.toList = p.data.toList)) = true := by simpa using h
    refine x.exit rfl ?_ ?_
    · simp only [Bool.and_eq_true, decide_eq_true_eq] at h'
      simp only [AllP]
      omega
    refine ⟨.inr rfl, ?_, trivial, rfl⟩
    rw [cutV, if_pos h']
    exact ⟨rfl, rfl, trivial⟩

theorem cut_spec (s p : ByteArray) : Pure PG 100 [vs s, vs p] (.tup [vs (cutV s p).1, vb (cutV s p).2]) [] := by
  refine Proc.mk (cfg 11) tysOK [] Tryz.func100 rfl (by kernel_rfl) rfl rfl rfl ?_
  intro C x
  refine x.pure rfl trivial rfl (cut1_spec s p) ⟨rfl, rfl, trivial⟩ ?_
  refine x.exit rfl trivial ?_
  exact ⟨.inr rfl, ⟨rfl, rfl, trivial⟩, trivial, rfl⟩

/-- The number that the digits from byte i on make, behind u. -/
def dv (s : ByteArray) : Nat → Nat → Nat → Option Nat
  | 0, _, u => some u
  | n + 1, i, u => if i < s.size then if 48 ≤ bt s i ∧ bt s i ≤ 57 then dv s n (i + 1) (10 * u + (bt s i - 48)) else none else some u
theorem dv_end {s : ByteArray} {n i u : Nat} (h : ¬ i < s.size) : dv s n i u = some u := by
  cases n with
  | zero => rfl
  | succ n => rw [dv, if_neg h]

theorem dec_ascii {sz p a b c d : Nat} (h : a < 128) : dec sz p a b c d = (a, 1) := by rw [dec, if_pos h]
theorem dec_high {sz p a b c d : Nat} (h : ¬ a < 128) : 128 ≤ (dec sz p a b c d).1 := by
  unfold dec
  rw [if_neg h]
  split
  · split
    · rename_i h; exact h
    · simp
  split
  · split
    · rename_i h; exact Nat.le_trans (by omega) h.1
    · simp
  split
  · split
    · rename_i h; exact Nat.le_trans (by omega) h.1
    · simp
  · simp
theorem decode_ascii {s : ByteArray} {p : Nat} (h : bt s p < 128) : Utf8.decode s p = (bt s p, 1) := by rw [decode_eq]; exact dec_ascii h
theorem decode_high {s : ByteArray} {p : Nat} (h : ¬ bt s p < 128) : 128 ≤ (Utf8.decode s p).1 := by rw [decode_eq]; exact dec_high h

def numV (s : ByteArray) : Int × Bool :=
  let d := (cutV s ⟨#[45]⟩).1
  let neg := (cutV s ⟨#[45]⟩).2
  if d.size = 0 ∨ 19 < d.size ∨ (bt d 0 = 48 ∧ (neg = true ∨ 1 < d.size)) then (0, false)
  else match dv d d.size 0 0 with
    | none => (0, false)
    | some u => if neg = true ∧ u ≤ 9223372036854775808 then (-(u : Int), true) else if neg = false ∧ u < 9223372036854775808 then ((u : Int), true) else (0, false)

structure WI (s : ByteArray) where
  n : Nat
  p : Nat
  u : Nat
  fuel : s.size ≤ p + n
  same : dv s n p u = dv s s.size 0 0
  hp : p ≤ s.size
  hu : u < 10 ^ p

theorem number_spec (s : ByteArray) : Pure PG 72 [vs s] (.tup [vi (numV s).1, vb (numV s).2]) [] := by
  refine Proc.mk ⟨66, 0, false, tys⟩ tysOK [] Tryz.func72 rfl (by kernel_rfl) rfl rfl rfl ?_
  intro C x
  refine x.pure rfl trivial rfl (cut_spec s ⟨#[45]⟩) ⟨rfl, rfl, trivial⟩ ?_
  generalize hd : (cutV s ⟨#[45]⟩).1 = d
  generalize hng : (cutV s ⟨#[45]⟩).2 = ng
  have hnil : d.data.toList = (⟨#[]⟩ : ByteArray).data.toList ↔ d.size = 0 := by
    rw [show d.size = d.data.toList.length from (Array.length_toList).symm, List.length_eq_zero_iff]
  have hsb : sb d (Int.toNat 0) = (bt d 0 : Int) := sb_bt d 0
  have hcond : (decide (d.data.toList = (⟨#[]⟩ : ByteArray).data.toList) || decide ((19 : Int) < d.size) || decide (sb d (Int.toNat 0) = 48) && (ng || decide ((1 : Int) < d.size))) = decide (d.size = 0 ∨ 19 < d.size ∨ (bt d 0 = 48 ∧ (ng = true ∨ 1 < d.size))) := by
    rw [Bool.eq_iff_iff]
    simp only [Bool.or_eq_true, Bool.and_eq_true, decide_eq_true_eq, hnil, hsb]
    cases ng <;> simp only [Bool.false_eq_true, false_or, true_or, and_true] <;> omega
  refine x.cond rfl ?_ (fun h => ?_) (fun h => ?_)
  · intro h
    simp only [Bool.or_eq_false_iff, decide_eq_false_iff_not] at h
    have : ¬ d.size = 0 := fun e => h.1 (hnil.2 e)
    omega
  · refine x.exit rfl trivial ?_
    refine ⟨.inr rfl, ?_, trivial, rfl⟩
    have : d.size = 0 ∨ 19 < d.size ∨ (bt d 0 = 48 ∧ (ng = true ∨ 1 < d.size)) := by
      rw [hcond] at h
      simpa only [decide_eq_true_eq] using h
    simp only [numV, hd, hng]
    rw [if_pos this]
    exact ⟨rfl, rfl, trivial⟩
  have hno : ¬ (d.size = 0 ∨ 19 < d.size ∨ (bt d 0 = 48 ∧ (ng = true ∨ 1 < d.size))) := by
    rw [hcond] at h
    simpa only [decide_eq_false_iff_not] using h
  have hsz : d.size ≤ 19 := by omega
  refine x.loop (α := WI d) (fun y => ⟨[(5, vb ng), (6, .d (.int .u64 (y.u : Int))), (35, .ptr 0 0)], [(0, .iter d y.p)], 1⟩) (fun y => d.size + 4 - y.p) ⟨d.size, 0, 0, by omega, rfl, by omega, by simp⟩ rfl trivial ?_ (fun y => ?_)
  · exact ⟨⟨rfl, rfl, ⟨rfl, rfl⟩, trivial⟩, ⟨⟨rfl, rfl⟩, trivial⟩, rfl⟩
  obtain ⟨n, p, u, fuel, same, hp, hu⟩ := y
  change Go C _ ⟨[(5, vb ng), (6, .d (.int .u64 (u : Int))), (35, .ptr 0 0)], [(0, .iter d p)], 1⟩ _
  refine x.next rfl trivial rfl rfl rfl (fun h => ?_) (fun h => ?_)
  · refine x.cond rfl trivial (fun _ => ?_) (fun h1 => by cases h1)
    refine x.pure rfl trivial rfl (digit_spec _) ⟨rfl, trivial⟩ ?_
    cases n with
    | zero => omega
    | succ n =>
      rw [dv, if_pos h] at same
      refine x.cond rfl trivial (fun h2 => ?_) (fun h2 => ?_)
      · have hnd : ¬ (48 ≤ bt d p ∧ bt d p ≤ 57) := fun hh => by
          rw [decode_ascii (by omega)] at h2
          simp at h2
          omega
        rw [if_neg hnd] at same
        refine x.exit rfl trivial ?_
        refine ⟨.inr rfl, ?_, trivial, rfl⟩
        simp only [numV, hd, hng]
        rw [if_neg hno, ← same]
        exact ⟨rfl, rfl, trivial⟩
      · have hdg : 48 ≤ bt d p ∧ bt d p ≤ 57 := by
          by_cases ha : bt d p < 128
          · rw [decode_ascii ha] at h2
            simp at h2
            omega
          · have := decode_high ha
            simp at h2
            omega
        rw [if_pos hdg] at same
        have hdec := decode_ascii (s := d) (p := p) (by omega)
        have hpow : 10 ^ (p + 1) ≤ 10 ^ 19 := Nat.pow_le_pow_right (by omega) (by omega)
        have hu' : 10 * u + (bt d p - 48) < 10 ^ (p + 1) := by rw [Nat.pow_succ]; omega
        refine x.back rfl trivial ?_
        refine ⟨⟨n, p + (Utf8.decode d p).2, 10 * u + (bt d p - 48), by rw [hdec]; omega, by rw [hdec]; exact same, by rw [hdec]; show p + 1 ≤ _; omega, by rw [hdec]; exact hu'⟩, by show d.size + 4 - (p + (Utf8.decode d p).2) < d.size + 4 - p; rw [hdec]; show d.size + 4 - (p + 1) < d.size + 4 - p; omega, ?_⟩
        refine ⟨⟨rfl, ?_, ⟨rfl, rfl⟩, trivial⟩, ⟨⟨rfl, rfl⟩, trivial⟩, rfl⟩
        show IntKind.u64.wrap (IntKind.u64.wrap (10 * (u : Int)) + IntKind.u64.wrap (IntKind.i32.wrap (((Utf8.decode d p).1 : Int) - 48))) = ((10 * u + (bt d p - 48) : Nat) : Int)
        rw [hdec, IntKind.wrap_u64, IntKind.wrap_u64, IntKind.wrap_u64, IntKind.wrap_i32]
        omega
  · refine x.cond rfl trivial (fun h1 => by cases h1) (fun _ => ?_)
    rw [dv_end h] at same
    have hpow : 10 ^ p ≤ 10 ^ 19 := Nat.pow_le_pow_right (by omega) (by omega)
    have hres : numV s = if ng = true ∧ u ≤ 9223372036854775808 then (-(u : Int), true) else if ng = false ∧ u < 9223372036854775808 then ((u : Int), true) else (0, false) := by
      simp only [numV, hd, hng]
      rw [if_neg hno, ← same]
    rw [hres]
    refine x.cond rfl trivial (fun h1 => ?_) (fun h1 => ?_)
    · simp only [Bool.and_eq_true, decide_eq_true_eq] at h1
      refine x.exit rfl trivial ?_
      refine ⟨.inr rfl, ?_, trivial, rfl⟩
      rw [if_pos ⟨h1.1, by omega⟩]
      refine ⟨?_, rfl, trivial⟩
      show IntKind.i64.wrap (IntKind.u64.wrap (0 - (u : Int))) = -(u : Int)
      rw [IntKind.wrap_i64, IntKind.wrap_u64]
      omega
    · rw [if_neg (by rintro ⟨rfl, hh⟩; simp at h1; omega)]
      refine x.cond rfl trivial (fun h2 => ?_) (fun h2 => ?_)
      · simp only [Bool.and_eq_true, Bool.not_eq_true', decide_eq_true_eq] at h2
        refine x.exit rfl trivial ?_
        refine ⟨.inr rfl, ?_, trivial, rfl⟩
        rw [if_pos ⟨h2.1, by omega⟩]
        refine ⟨?_, rfl, trivial⟩
        show IntKind.i64.wrap (u : Int) = (u : Int)
        rw [IntKind.wrap_i64]
        omega
      · refine x.exit rfl trivial ?_
        refine ⟨.inr rfl, ?_, trivial, rfl⟩
        rw [if_neg (by rintro ⟨rfl, hh⟩; simp at h2; omega)]
        exact ⟨rfl, rfl, trivial⟩
end Go.Proofs.YtgnnglfbpcjadaaGreatDoor

/- Policies: the program's own: what lines of a first word do. -/
namespace Go.Proofs.YtgnnglfbpcjadaaGreatDoor
open Go.Sx
set_option linter.unusedVariables false
set_option linter.unusedSimpArgs false
set_option maxRecDepth 100000

theorem app_gen6 {α : Type} (d : α → List D) (N : Nat) (hd : ∀ a, (d a).length = N) (x0 : α) (xs : List α) (x : α) (j : Nat) (hj : j < xs.length + 1) : app xs.length (fun i => d (xs.getD i x0)) (fun _ => d x) j = d ((xs ++ [x]).getD j x0) := by
  unfold app
  show zipIte (j < xs.length) (d (xs.getD j x0)) (d x) = _
  by_cases h : j < xs.length
  · rw [zipIte_pos h, List.getD_eq_getElem?_getD, List.getD_eq_getElem?_getD, List.getElem?_append_left h]
  · have e : j = xs.length := by omega
    rw [zipIte_neg h, List.getD_eq_getElem?_getD (l := xs ++ [x]), List.getElem?_append_right (by omega), e, Nat.sub_self]
    rfl

/-- What has been read so far. -/
structure Rdr where
  lev : List ByteArray
  ins : List Chan
  outs : List Chan
  depth : Int
  flows : List (Nat × Nat)
abbrev vecS (l : List ByteArray) : Ch := .vec 9 1 l.length fun i => [.str (l.getD i .empty)]
abbrev vecC (l : List Chan) : Ch := .vec 75 2 l.length fun i => [.str (l.getD i chan0).1, .int .i64 (l.getD i chan0).2]
abbrev vecP (l : List (Nat × Nat)) : Ch := .vec 127 2 l.length fun i => [.int .i64 ((l.getD i (0, 0)).1 : Int), .int .i64 ((l.getD i (0, 0)).2 : Int)]
abbrev rdBox (k : Int) : Ch := .box [.own 1, .nils, .own 2, .own 3, vi k, .own 4]
abbrev rdH (r : Rdr) : List Ch := [rdBox r.depth, vecS r.lev, vecC r.ins, vecC r.outs, vecP r.flows]
/-- Bounds that are kept. -/
structure Small (r : Rdr) : Prop where
  lev : r.lev.length ≤ 64
  ins : r.ins.length ≤ 32
  outs : r.outs.length ≤ 32
  flows : r.flows.length ≤ 100000
  depth : inI64 r.depth
theorem Small.i64 {r : Rdr} (h : Small r) : inI64 (r.lev.length : Int) ∧ inI64 (r.ins.length : Int) ∧ inI64 (r.outs.length : Int) ∧ inI64 (r.flows.length : Int) := by
  have h1 := h.lev
  have h2 := h.ins
  have h3 := h.outs
  have h4 := h.flows
  unfold inI64; omega

def w_ (w : List ByteArray) (k : Nat) : ByteArray := w.getD k .empty
theorem retQ {ops : Array Oper} {g : Cfg} {rs : List ResultVar} {ids : List Nat} {r : V} {H' : List Ch} : QuietP ops (Ret g rs ids r H') := RetO.quiet (o := .ret r H')

theorem rdSame {k : Int} : ChEq (rdBox k) ((rdBox k).map (ren0 [0, 1, 2, 3, 4])) := ⟨rfl, trivial, rfl, rfl, rfl, rfl, trivial⟩
theorem same_ {e : TypeId} {sz n : Nat} {f : Nat → List D} {is : List Nat} : ChEq (.vec e sz n f) ((Ch.vec e sz n f).map (ren0 is)) := ⟨rfl, rfl, rfl, fun _ _ => rfl⟩
/-- A level more. -/
def levelR (r : Rdr) (w : List ByteArray) : Rdr × Int :=
  if 0 ≤ idxS r.lev (w_ w 0) then (r, 9) else if r.lev.length = 64 then (r, 3) else ({ r with lev := r.lev ++ [w_ w 0] }, 0)
theorem rlevel_spec (r : Rdr) (w : List ByteArray) (hr : Small r) (hw : 1 ≤ w.length) : Proc PG 95 1 [.ptr 0 0, vSs w] (rdH r) (vi (levelR r w).2) (rdH (levelR r w).1) := by
  obtain ⟨i1, i2, i3, i4⟩ := hr.i64
  refine Proc.mk (cfgF 40 1) tysOK [0, 1, 2, 3, 4] Tryz.func95 rfl (by kernel_rfl) rfl rfl (by
    simp only [levelR]; split <;> (try split) <;> rfl) ?_
  intro C x
  refine x.quiet rfl trivial mixedP (by kernel_rfl) ?_
  refine x.qcallB rfl ?_ rfl (level_spec r.lev (w_ w 0) i1) rfl rfl ⟨⟨veq0_d rfl, rfl, rfl, rfl, rfl, trivial⟩, rfl, trivial⟩ ?_
  · simp only [AllP]; omega
  refine x.qdone rfl trivial ?_
  refine x.cond rfl trivial (fun h1 => ?_) (fun h1 => ?_)
  · have h1 : 0 ≤ idxS r.lev (w_ w 0) := of_decide_eq_true h1
    refine x.exit rfl trivial ?_
    rw [levelR, if_pos h1]
    exact ⟨.inr rfl, rfl, ⟨rdSame, same_, same_, same_, same_, trivial⟩, rfl⟩
  have h1 : ¬ 0 ≤ idxS r.lev (w_ w 0) := of_decide_eq_false h1
  refine x.cond rfl trivial (fun h2 => ?_) (fun h2 => ?_)
  · have h2 : r.lev.length = 64 := by have := of_decide_eq_true h2; omega
    refine x.exit rfl trivial ?_
    rw [levelR, if_neg h1, if_pos h2]
    exact ⟨.inr rfl, rfl, ⟨rdSame, same_, same_, same_, same_, trivial⟩, rfl⟩
  have h2 : ¬ r.lev.length = 64 := by have := of_decide_eq_false h2; omega
  refine x.draw [] [0, 1, 6] [2, 3, 4, 5] [7, 8, 9] [10, 11, 12, 13, 14] rfl trivial mixedP (by kernel_rfl) retQ rfl trivial (fun C1 x1 => ?_)
  refine x1.back rfl ?_ ?_
  · simp only [AllP]; omega
  refine x1.back rfl trivial ?_
  refine x1.back rfl trivial ?_
  have hlev := hr.lev
  refine x.exit rfl (by simp only [AllP, big]; omega) ?_
  rw [levelR, if_neg h1, if_neg h2]
  exact ⟨.inr rfl, rfl, ⟨rdSame, ⟨rfl, rfl, by simp, fun j hj => app_gen6 (fun t => [D.str t]) 1 (fun _ => rfl) .empty r.lev (w_ w 0) j hj⟩, same_, same_, same_, trivial⟩, rfl⟩

/-- A flow more. -/
def flowR (r : Rdr) (w : List ByteArray) : Rdr × Int :=
  if 0 ≤ idxS r.lev (w_ w 0) ∧ 0 ≤ idxS r.lev (w_ w 1) then ({ r with flows := r.flows ++ [((idxS r.lev (w_ w 0)).toNat, (idxS r.lev (w_ w 1)).toNat)] }, 0) else (r, 10)
theorem foundN {k : Int} (h : 0 ≤ k) : (if 0 > k then 0 else k) = ((k.toNat : Nat) : Int) := by rw [if_neg (by omega)]; omega
theorem rflow_spec (r : Rdr) (w : List ByteArray) (hr : Small r) (hw : 2 ≤ w.length) : Proc PG 96 1 [.ptr 0 0, vSs w] (rdH r) (vi (flowR r w).2) (rdH (flowR r w).1) := by
  obtain ⟨i1, i2, i3, i4⟩ := hr.i64
  refine Proc.mk (cfgF 49 1) tysOK [0, 1, 2, 3, 4] Tryz.func96 rfl (by kernel_rfl) rfl rfl (by
    simp only [flowR]; split <;> rfl) ?_
  intro C x
  refine x.quiet rfl trivial mixedP (by kernel_rfl) ?_
  refine x.qcallB rfl ?_ rfl (level_spec r.lev (w_ w 0) i1) rfl rfl ⟨⟨veq0_d rfl, rfl, rfl, rfl, rfl, trivial⟩, rfl, trivial⟩ ?_
  · simp only [AllP]; omega
  refine x.qdone rfl trivial ?_
  refine x.quiet rfl trivial mixedP (by kernel_rfl) ?_
  refine x.qcallB rfl ?_ rfl (level_spec r.lev (w_ w 1) i1) rfl rfl ⟨⟨veq0_d rfl, rfl, rfl, rfl, rfl, trivial⟩, rfl, trivial⟩ ?_
  · simp only [AllP]; omega
  refine x.qdone rfl trivial ?_
  refine x.cond rfl trivial (fun h1 => ?_) (fun h1 => ?_)
  · have h1 : (!decide (0 ≤ idxS r.lev (w_ w 0)) || !decide (0 ≤ idxS r.lev (w_ w 1))) = true := h1
    have h1 : ¬ (0 ≤ idxS r.lev (w_ w 0) ∧ 0 ≤ idxS r.lev (w_ w 1)) := fun ⟨a, b⟩ => by rw [decide_eq_true a, decide_eq_true b] at h1; cases h1
    refine x.exit rfl trivial ?_
    rw [flowR, if_neg h1]
    exact ⟨.inr rfl, rfl, ⟨rdSame, same_, same_, same_, same_, trivial⟩, rfl⟩
  have h1 : (!decide (0 ≤ idxS r.lev (w_ w 0)) || !decide (0 ≤ idxS r.lev (w_ w 1))) = false := h1
  simp only [Bool.or_eq_false_iff, Bool.not_eq_false', decide_eq_true_eq] at h1
  have hfl := hr.flows
  refine x.exit rfl (by simp only [AllP, big]; omega) ?_
  rw [flowR, if_pos h1]
  refine ⟨.inr rfl, rfl, ⟨rdSame, same_, same_, same_, ⟨rfl, rfl, by simp, fun j hj => ?_⟩, trivial⟩, rfl⟩
  have := app_gen6 (fun t : Nat × Nat => [D.int .i64 (t.1 : Int), D.int .i64 (t.2 : Int)]) 2 (fun _ => rfl) (0, 0) r.flows ((idxS r.lev (w_ w 0)).toNat, (idxS r.lev (w_ w 1)).toNat) j hj
  refine Eq.trans ?_ this
  show app _ _ (fun _ => [D.int .i64 (if 0 > idxS r.lev (w_ w 0) then 0 else idxS r.lev (w_ w 0)), D.int .i64 (if 0 > idxS r.lev (w_ w 1) then 0 else idxS r.lev (w_ w 1))]) j = _
  rw [foundN h1.1, foundN h1.2]

/-- A channel more in a list. -/
def chanE (lev : List ByteArray) (l : List Chan) (w : List ByteArray) : Int :=
  if 0 ≤ idxC l (w_ w 0) then 9 else if ¬ 0 ≤ idxS lev (w_ w 1) then 10 else if l.length = 32 then 3 else 0
def chanL (lev : List ByteArray) (l : List Chan) (w : List ByteArray) : List Chan := if chanE lev l w = 0 then l ++ [(w_ w 0, idxS lev (w_ w 1))] else l

theorem rchanI_spec (r : Rdr) (w : List ByteArray) (hr : Small r) (hw : 2 ≤ w.length) : Proc PG 121 1 [.ptr 0 0, .ptr 0 2, vSs w] (rdH r) (vi (chanE r.lev r.ins w)) (rdH { r with ins := chanL r.lev r.ins w }) := by
  obtain ⟨i1, i2, i3, i4⟩ := hr.i64
  refine Proc.mk (cfgF 52 1) tysOK [0, 1, 2, 3, 4] Tryz.func121 rfl (by kernel_rfl) rfl rfl rfl ?_
  intro C x
  refine x.quiet rfl trivial mixedP (by kernel_rfl) ?_
  refine x.qcallB rfl ?_ rfl (findC_spec r.ins (w_ w 0) i2) rfl rfl ⟨veq_d rfl, rfl, rfl, trivial⟩ ?_
  · simp only [AllP]; omega
  refine x.qdone rfl trivial ?_
  refine x.cond rfl trivial (fun h1 => ?_) (fun h1 => ?_)
  · have h1 : 0 ≤ idxC r.ins (w_ w 0) := of_decide_eq_true h1
    refine x.exit rfl trivial ?_
    rw [chanL, chanE, if_pos h1, if_neg (by decide)]
    exact ⟨.inr rfl, rfl, ⟨rdSame, same_, same_, same_, same_, trivial⟩, rfl⟩
  have h1 : ¬ 0 ≤ idxC r.ins (w_ w 0) := of_decide_eq_false h1
  refine x.quiet rfl trivial mixedP (by kernel_rfl) ?_
  refine x.qcallB rfl ?_ rfl (level_spec r.lev (w_ w 1) i1) rfl rfl ⟨⟨veq0_d rfl, rfl, rfl, rfl, rfl, trivial⟩, rfl, trivial⟩ ?_
  · simp only [AllP]; omega
  refine x.qdone rfl trivial ?_
  refine x.cond rfl trivial (fun h2 => ?_) (fun h2 => ?_)
  · have h2 : (!decide (0 ≤ idxS r.lev (w_ w 1))) = true := h2
    have h2 : ¬ 0 ≤ idxS r.lev (w_ w 1) := fun a => by rw [decide_eq_true a] at h2; cases h2
    refine x.exit rfl trivial ?_
    rw [chanL, chanE, if_neg h1, if_pos h2, if_neg (by decide)]
    exact ⟨.inr rfl, rfl, ⟨rdSame, same_, same_, same_, same_, trivial⟩, rfl⟩
  have h2 : (!decide (0 ≤ idxS r.lev (w_ w 1))) = false := h2
  have h2 : 0 ≤ idxS r.lev (w_ w 1) := by simpa using h2
  refine x.cond rfl trivial (fun h3 => ?_) (fun h3 => ?_)
  · have h3 : r.ins.length = 32 := by have := of_decide_eq_true h3; omega
    refine x.exit rfl trivial ?_
    rw [chanL, chanE, if_neg h1, if_neg (fun h => h h2), if_pos h3, if_neg (by decide)]
    exact ⟨.inr rfl, rfl, ⟨rdSame, same_, same_, same_, same_, trivial⟩, rfl⟩
  have h3 : ¬ r.ins.length = 32 := by have := of_decide_eq_false h3; omega
  have hlen := hr.ins
  refine x.draw [] [0, 1, 4, 7] [2, 3] [5, 6, 8, 9] [10, 11, 12] rfl trivial mixedP (by kernel_rfl) retQ rfl trivial (fun C1 x1 => ?_)
  refine x1.back rfl ?_ ?_
  · simp only [AllP]; omega
  refine x1.back rfl trivial ?_
  refine x1.back rfl trivial ?_
  refine x1.back rfl trivial ?_
  refine x.exit rfl (by simp only [AllP, big]; omega) ?_
  rw [chanL, chanE, if_neg h1, if_neg (fun h => h h2), if_neg h3, if_pos rfl]
  refine ⟨.inr rfl, rfl, ⟨rdSame, same_, ⟨rfl, rfl, by simp, fun j hj => ?_⟩, same_, same_, trivial⟩, rfl⟩
  have := app_gen6 (fun t : Chan => [D.str t.1, D.int .i64 t.2]) 2 (fun _ => rfl) chan0 r.ins (w_ w 0, idxS r.lev (w_ w 1)) j hj
  refine Eq.trans ?_ this
  show app _ _ (fun _ => [D.str (w_ w 0), D.int .i64 (if 0 > idxS r.lev (w_ w 1) then 0 else idxS r.lev (w_ w 1))]) j = _
  rw [if_neg (by omega)]
theorem rinput_spec (r : Rdr) (w : List ByteArray) (hr : Small r) (hw : 2 ≤ w.length) : Proc PG 97 1 [.ptr 0 0, vSs w] (rdH r) (vi (chanE r.lev r.ins w)) (rdH { r with ins := chanL r.lev r.ins w }) := by
  refine Proc.mk (cfgF 12 1) tysOK [0, 1, 2, 3, 4] Tryz.func97 rfl (by kernel_rfl) rfl rfl rfl ?_
  intro C x
  refine x.call [0, 1, 2, 3, 4] rfl trivial rfl (rchanI_spec r w hr hw) rfl ⟨⟨rfl, rfl⟩, ⟨rfl, rfl⟩, veq_d rfl, trivial⟩ ⟨rdSame, same_, same_, same_, same_, trivial⟩ ?_
  exact x.exit rfl trivial ⟨.inr rfl, rfl, ⟨rdSame, same_, same_, same_, same_, trivial⟩, rfl⟩

theorem rchanO_spec (r : Rdr) (w : List ByteArray) (hr : Small r) (hw : 2 ≤ w.length) : Proc PG 121 1 [.ptr 0 0, .ptr 0 3, vSs w] (rdH r) (vi (chanE r.lev r.outs w)) (rdH { r with outs := chanL r.lev r.outs w }) := by
  obtain ⟨i1, i2, i3, i4⟩ := hr.i64
  refine Proc.mk (cfgF 52 1) tysOK [0, 1, 2, 3, 4] Tryz.func121 rfl (by kernel_rfl) rfl rfl rfl ?_
  intro C x
  refine x.quiet rfl trivial mixedP (by kernel_rfl) ?_
  refine x.qcallB rfl ?_ rfl (findC_spec r.outs (w_ w 0) i3) rfl rfl ⟨veq_d rfl, rfl, rfl, trivial⟩ ?_
  · simp only [AllP]; omega
  refine x.qdone rfl trivial ?_
  refine x.cond rfl trivial (fun h1 => ?_) (fun h1 => ?_)
  · have h1 : 0 ≤ idxC r.outs (w_ w 0) := of_decide_eq_true h1
    refine x.exit rfl trivial ?_
    rw [chanL, chanE, if_pos h1, if_neg (by decide)]
    exact ⟨.inr rfl, rfl, ⟨rdSame, same_, same_, same_, same_, trivial⟩, rfl⟩
  have h1 : ¬ 0 ≤ idxC r.outs (w_ w 0) := of_decide_eq_false h1
  refine x.quiet rfl trivial mixedP (by kernel_rfl) ?_
  refine x.qcallB rfl ?_ rfl (level_spec r.lev (w_ w 1) i1) rfl rfl ⟨⟨veq0_d rfl, rfl, rfl, rfl, rfl, trivial⟩, rfl, trivial⟩ ?_
  · simp only [AllP]; omega
  refine x.qdone rfl trivial ?_
  refine x.cond rfl trivial (fun h2 => ?_) (fun h2 => ?_)
  · have h2 : (!decide (0 ≤ idxS r.lev (w_ w 1))) = true := h2
    have h2 : ¬ 0 ≤ idxS r.lev (w_ w 1) := fun a => by rw [decide_eq_true a] at h2; cases h2
    refine x.exit rfl trivial ?_
    rw [chanL, chanE, if_neg h1, if_pos h2, if_neg (by decide)]
    exact ⟨.inr rfl, rfl, ⟨rdSame, same_, same_, same_, same_, trivial⟩, rfl⟩
  have h2 : (!decide (0 ≤ idxS r.lev (w_ w 1))) = false := h2
  have h2 : 0 ≤ idxS r.lev (w_ w 1) := by simpa using h2
  refine x.cond rfl trivial (fun h3 => ?_) (fun h3 => ?_)
  · have h3 : r.outs.length = 32 := by have := of_decide_eq_true h3; omega
    refine x.exit rfl trivial ?_
    rw [chanL, chanE, if_neg h1, if_neg (fun h => h h2), if_pos h3, if_neg (by decide)]
    exact ⟨.inr rfl, rfl, ⟨rdSame, same_, same_, same_, same_, trivial⟩, rfl⟩
  have h3 : ¬ r.outs.length = 32 := by have := of_decide_eq_false h3; omega
  have hlen := hr.outs
  refine x.draw [] [0, 1, 4, 7] [2, 3] [5, 6, 8, 9] [10, 11, 12] rfl trivial mixedP (by kernel_rfl) retQ rfl trivial (fun C1 x1 => ?_)
  refine x1.back rfl ?_ ?_
  · simp only [AllP]; omega
  refine x1.back rfl trivial ?_
  refine x1.back rfl trivial ?_
  refine x1.back rfl trivial ?_
  refine x.exit rfl (by simp only [AllP, big]; omega) ?_
  rw [chanL, chanE, if_neg h1, if_neg (fun h => h h2), if_neg h3, if_pos rfl]
  refine ⟨.inr rfl, rfl, ⟨rdSame, same_, same_, ⟨rfl, rfl, by simp, fun j hj => ?_⟩, same_, trivial⟩, rfl⟩
  have := app_gen6 (fun t : Chan => [D.str t.1, D.int .i64 t.2]) 2 (fun _ => rfl) chan0 r.outs (w_ w 0, idxS r.lev (w_ w 1)) j hj
  refine Eq.trans ?_ this
  show app _ _ (fun _ => [D.str (w_ w 0), D.int .i64 (if 0 > idxS r.lev (w_ w 1) then 0 else idxS r.lev (w_ w 1))]) j = _
  rw [if_neg (by omega)]
theorem routput_spec (r : Rdr) (w : List ByteArray) (hr : Small r) (hw : 2 ≤ w.length) : Proc PG 98 1 [.ptr 0 0, vSs w] (rdH r) (vi (chanE r.lev r.outs w)) (rdH { r with outs := chanL r.lev r.outs w }) := by
  refine Proc.mk (cfgF 12 1) tysOK [0, 1, 2, 3, 4] Tryz.func98 rfl (by kernel_rfl) rfl rfl rfl ?_
  intro C x
  refine x.call [0, 1, 2, 3, 4] rfl trivial rfl (rchanO_spec r w hr hw) rfl ⟨⟨rfl, rfl⟩, ⟨rfl, rfl⟩, veq_d rfl, trivial⟩ ⟨rdSame, same_, same_, same_, same_, trivial⟩ ?_
  exact x.exit rfl trivial ⟨.inr rfl, rfl, ⟨rdSame, same_, same_, same_, same_, trivial⟩, rfl⟩

/-- How deep. -/
def depthR (r : Rdr) (w : List ByteArray) : Rdr × Int :=
  if 0 < r.depth then (r, 9) else if (numV (w_ w 0)).1 < 1 ∨ 64 < (numV (w_ w 0)).1 then (r, 12) else ({ r with depth := (numV (w_ w 0)).1 }, 0)
theorem rdepth_spec (r : Rdr) (w : List ByteArray) (hr : Small r) (hw : 1 ≤ w.length) : Proc PG 99 1 [.ptr 0 0, vSs w] (rdH r) (vi (depthR r w).2) (rdH (depthR r w).1) := by
  refine Proc.mk (cfgF 31 1) tysOK [0, 1, 2, 3, 4] Tryz.func99 rfl (by kernel_rfl) rfl rfl (by
    simp only [depthR]; split <;> (try split) <;> rfl) ?_
  intro C x
  refine x.cond rfl trivial (fun h1 => ?_) (fun h1 => ?_)
  · have h1 : 0 < r.depth := of_decide_eq_true h1
    refine x.exit rfl trivial ?_
    rw [depthR, if_pos h1]
    exact ⟨.inr rfl, rfl, ⟨rdSame, same_, same_, same_, same_, trivial⟩, rfl⟩
  have h1 : ¬ 0 < r.depth := of_decide_eq_false h1
  refine x.pure rfl ?_ rfl (number_spec (w_ w 0)) ⟨rfl, trivial⟩ ?_
  · simp only [AllP]; omega
  refine x.cond rfl trivial (fun h2 => ?_) (fun h2 => ?_)
  · have h2 : (decide ((numV (w_ w 0)).1 < 1) || decide (64 < (numV (w_ w 0)).1)) = true := h2
    simp only [Bool.or_eq_true, decide_eq_true_eq] at h2
    refine x.exit rfl trivial ?_
    rw [depthR, if_neg h1, if_pos h2]
    exact ⟨.inr rfl, rfl, ⟨rdSame, same_, same_, same_, same_, trivial⟩, rfl⟩
  · have h2 : (decide ((numV (w_ w 0)).1 < 1) || decide (64 < (numV (w_ w 0)).1)) = false := h2
    have h2 : ¬ ((numV (w_ w 0)).1 < 1 ∨ 64 < (numV (w_ w 0)).1) := by
      simp only [Bool.or_eq_false_iff, decide_eq_false_iff_not] at h2
      omega
    refine x.exit rfl trivial ?_
    rw [depthR, if_neg h1, if_neg h2]
    exact ⟨.inr rfl, rfl, ⟨rdSame, same_, same_, same_, same_, trivial⟩, rfl⟩
end Go.Proofs.YtgnnglfbpcjadaaGreatDoor

/- Policies: the program's own: a line is read. -/
namespace Go.Proofs.YtgnnglfbpcjadaaGreatDoor
open Go.Sx
set_option linter.unusedVariables false
set_option linter.unusedSimpArgs false
set_option maxRecDepth 100000

def wLevel : List UInt8 := [108, 101, 118, 101, 108]
def wFlow : List UInt8 := [102, 108, 111, 119]
def wInput : List UInt8 := [105, 110, 112, 117, 116]
def wOutput : List UInt8 := [111, 117, 116, 112, 117, 116]
def wDepth : List UInt8 := [100, 101, 112, 116, 104]
abbrev kdV (f : Nat) (n : Int) : V := .agg [.fn f [], vi n]
def kindsT : List (Key × V) := [(.inl [108, 101, 118, 101, 108], kdV 95 1), (.inl [102, 108, 111, 119], kdV 96 2), (.inl [105, 110, 112, 117, 116], kdV 97 2), (.inl [111, 117, 116, 112, 117, 116], kdV 98 2), (.inl [100, 101, 112, 116, 104], kdV 99 1)]
theorem kinds_spec : Pure PG 71 [] (.own 0) [.tbl kindsT] := by
  refine Proc.mk (cfg 8) tysOK [0] Tryz.func71 rfl (by kernel_rfl) rfl rfl rfl ?_
  intro C x
  refine x.exit rfl ?_ ?_
  · simp only [AllP, newKey]
    decide
  · exact ⟨.inr rfl, rfl, ⟨⟨rfl, rfl, rfl, rfl, rfl, rfl, rfl, rfl, rfl, rfl, trivial⟩, trivial⟩, rfl⟩

/-- Is a word what its line asks? -/
def okW (w0 s : ByteArray) : Bool := !((decide (w0.data.toList = wDepth) && !(numV s).2) || (!decide (w0.data.toList = wDepth) && !nameB s))

set_option maxHeartbeats 2000000 in
theorem read_none (r : Rdr) (w : List ByteArray) (hw : 1 ≤ w.length) (hk : tblAt (.inl (w_ w 0).data.toList) kindsT = none) : Proc PG 54 1 [.ptr 0 0, vSs w] (rdH r) (vi 8) (rdH r) := by
  refine Proc.mk (cfgF 64 1) tysOK [0, 1, 2, 3, 4] Tryz.func54 rfl (by kernel_rfl) rfl rfl rfl ?_
  intro C x
  refine x.every2 [] [1, 2, 3] (.fork 0 (.fork 4 (.fork 5 (.fork 6 .leaf .no) .no) (.fork 5 (.fork 4 (.fork 6 .leaf .no) .no) .no)) (.fork 5 (.fork 0 (.fork 4 (.fork 6 .leaf .no) .no) .no) .no))
    ⟨[(0, .ptr 0 0), (1, vSs w), (5, .ptr 6 0)], [(6, .box [.d .nf, vi 0])], 7⟩ rfl trivial mixedP (by kernel_rfl) Ret.noPanic rfl ?_ (fun C2 x2 => ?_) ?_
  · simp only [AllP]; omega
  · repeat' first
        | exact True.intro
        | refine And.intro ?_ ?_
        | refine x2.back rfl trivial ?_
        | refine x2.call [] rfl trivial rfl kinds_spec rfl trivial trivial (x2.back rfl trivial ?_)
        | refine x2.look rfl trivial rfl (lkNone hk ?_)
        | exact .inl ⟨⟨⟨rfl, rfl⟩, veq_d rfl, ⟨rfl, rfl⟩, trivial⟩, ⟨⟨trivial, rfl, trivial⟩, trivial⟩, rfl⟩
        | exact .inr ⟨[0, 1, 2, 3, 4, 6, 5], rfl, ⟨⟨rfl, rfl⟩, veq_d rfl, ⟨rfl, rfl⟩, trivial⟩, ⟨⟨trivial, rfl, trivial⟩, trivial⟩, rfl⟩
  refine x.cond rfl (by simp only [AllP]; intro h; cases h) (fun h1 => ?_) (fun h1 => by cases h1)
  exact x.exit rfl trivial ⟨.inr rfl, rfl, ⟨rdSame, same_, same_, same_, same_, trivial⟩, rfl⟩

def allW (w : List ByteArray) : Bool := w.tail.all (okW (w_ w 0))
theorem tail_get (w : List ByteArray) (i : Nat) : w.getD (i + 1) .empty = w.tail.getD i .empty := by
  cases w <;> simp
theorem dq_tail (w : List ByteArray) : VEq (.d (.sl 1 ((w.length : Int).toNat - Int.toNat 1) fun k => (fun i => [D.str (w.getD i .empty)]) (Int.toNat 1 + k))) (vSs w.tail) :=
  ⟨by rw [List.length_tail, Int.toNat_natCast]; rfl, fun _ => rfl, fun i _ => by
    show [D.str (w.getD (1 + i) .empty)] = [D.str (w.tail.getD i .empty)]
    rw [Nat.add_comm, tail_get]⟩
set_option maxHeartbeats 4000000 in
theorem read_some (r r' : Rdr) (e : Int) (w : List ByteArray) (hw : 1 ≤ w.length) (hwl : inI64 (w.length : Int)) (hsz : ∀ s ∈ w, s.size ≤ 9223372036854775807) (f : Nat) (n : Int) (hn : 1 ≤ n ∧ n ≤ 2) (hk : tblAt (.inl (w_ w 0).data.toList) kindsT = some (kdV f n))
    (hdo : ((w.length : Int) = n + 1 ∧ allW w = true) → Proc PG f 1 [.ptr 0 0, vSs w.tail] (rdH r) (vi e) (rdH r')) :
    Proc PG 54 1 [.ptr 0 0, vSs w] (rdH r) (vi (if (w.length : Int) = n + 1 ∧ allW w = true then e else 8)) (rdH (if (w.length : Int) = n + 1 ∧ allW w = true then r' else r)) := by
  refine Proc.mk (cfgF 64 1) tysOK [0, 1, 2, 3, 4] Tryz.func54 rfl (by kernel_rfl) rfl rfl (by split <;> rfl) ?_
  intro C x
  unfold inI64 at hwl
  refine x.every2 [] [1, 2, 3] (.fork 0 (.fork 4 (.fork 5 (.fork 6 .leaf .no) .no) (.fork 5 (.fork 4 (.fork 6 .leaf .no) .no) .no)) (.fork 5 (.fork 0 (.fork 4 (.fork 6 .leaf .no) .no) .no) .no))
    ⟨[(0, .ptr 0 0), (1, vSs w), (5, .ptr 6 0)], [(6, .box [.fn f [], vi n])], 7⟩ rfl trivial mixedP (by kernel_rfl) Ret.noPanic rfl ?_ (fun C2 x2 => ?_) ?_
  · simp only [AllP]; omega
  · repeat' first
        | exact True.intro
        | refine And.intro ?_ ?_
        | refine x2.back rfl trivial ?_
        | refine x2.call [] rfl trivial rfl kinds_spec rfl trivial trivial (x2.back rfl trivial ?_)
        | refine x2.look rfl trivial rfl (lkSome hk ?_)
        | exact .inl ⟨⟨⟨rfl, rfl⟩, veq_d rfl, ⟨rfl, rfl⟩, trivial⟩, ⟨⟨rfl, rfl, trivial⟩, trivial⟩, rfl⟩
        | exact .inr ⟨[0, 1, 2, 3, 4, 6, 5], rfl, ⟨⟨rfl, rfl⟩, veq_d rfl, ⟨rfl, rfl⟩, trivial⟩, ⟨⟨rfl, rfl, trivial⟩, trivial⟩, rfl⟩
  refine x.cond rfl (by simp only [AllP, inI64]; intro _; omega) (fun h1 => ?_) (fun h1 => ?_)
  · have h1 : (false || !decide ((w.length : Int) = n + 1)) = true := h1
    have h1 : ¬ (w.length : Int) = n + 1 := by simpa using h1
    rw [if_neg (fun h => h1 h.1), if_neg (fun h => h1 h.1)]
    exact x.exit rfl trivial ⟨.inr rfl, rfl, ⟨rdSame, same_, same_, same_, same_, trivial⟩, rfl⟩
  have h1 : (false || !decide ((w.length : Int) = n + 1)) = false := h1
  have h1 : (w.length : Int) = n + 1 := by simpa using h1
  have htl : w.tail.length = w.length - 1 := List.length_tail
  refine x.loop (α := { i : Nat // i ≤ w.tail.length ∧ ∀ j, j < i → okW (w_ w 0) (w.tail.getD j .empty) = true }) (fun y => ⟨[(0, .ptr 0 0), (1, vSs w), (5, .ptr 6 0), (27, vSs w.tail), (28, vi (w.tail.length : Int)), (29, vi (y.1 : Int))], [(0, rdBox r.depth), (1, vecS r.lev), (2, vecC r.ins), (3, vecC r.outs), (4, vecP r.flows), (6, .box [.fn f [], vi n])], 7⟩) (fun y => w.tail.length - y.1) ⟨0, by omega, fun j hj => by omega⟩ rfl ?_ ?_ (fun y => ?_)
  · simp only [AllP]; omega
  · refine ⟨⟨⟨rfl, rfl⟩, veq_d rfl, ⟨rfl, rfl⟩, dq_tail w, (show VEq0 (vi (((w.length : Int).toNat - Int.toNat 1 : Nat) : Int)) (vi (w.tail.length : Int)) by rw [List.length_tail, Int.toNat_natCast]; rfl), rfl, trivial⟩, ⟨⟨rfl, trivial, rfl, rfl, rfl, rfl, trivial⟩, ⟨rfl, rfl, rfl, fun _ _ => rfl⟩, ⟨rfl, rfl, rfl, fun _ _ => rfl⟩, ⟨rfl, rfl, rfl, fun _ _ => rfl⟩, ⟨rfl, rfl, rfl, fun _ _ => rfl⟩, ⟨rfl, rfl, trivial⟩, trivial⟩, rfl⟩
  obtain ⟨i, hi, hok⟩ := y
  change Go C _ ⟨[(0, .ptr 0 0), (1, vSs w), (5, .ptr 6 0), (27, vSs w.tail), (28, vi (w.tail.length : Int)), (29, vi (i : Int))], [(0, rdBox r.depth), (1, vecS r.lev), (2, vecC r.ins), (3, vecC r.outs), (4, vecP r.flows), (6, .box [.fn f [], vi n])], 7⟩ _
  refine x.cond rfl trivial (fun h2 => ?_) (fun h2 => ?_)
  · have h2 : i < w.tail.length := by have := of_decide_eq_true h2; omega
    have hmem : w.tail.getD i .empty ∈ w := by
      rw [List.getD_eq_getElem?_getD, List.getElem?_eq_getElem h2]
      exact List.mem_of_mem_tail (List.getElem_mem h2)
    refine x.pure rfl ?_ rfl (number_spec (w.tail.getD i .empty)) ⟨rfl, trivial⟩ ?_
    · simp only [AllP]; omega
    refine x.pureG rfl ?_ rfl (fun _ _ => name6_spec (w.tail.getD i .empty) (hsz _ hmem)) rfl ⟨rfl, trivial⟩ ?_
    · simp only [AllP]
      exact ⟨by omega, fun _ => by omega⟩
    refine x.cond rfl trivial (fun h3 => ?_) (fun h3 => ?_)
    · have h3 : ((decide ((w_ w 0).data.toList = wDepth) && !(numV (w.tail.getD i .empty)).2) || (!decide ((w_ w 0).data.toList = wDepth) && !nameB (w.tail.getD i .empty))) = true := h3
      have hno : ¬ ((w.length : Int) = n + 1 ∧ allW w = true) := fun ⟨_, h⟩ => by
        have := List.all_eq_true.1 h _ (show w.tail.getD i .empty ∈ w.tail by rw [List.getD_eq_getElem?_getD, List.getElem?_eq_getElem h2]; exact List.getElem_mem h2)
        rw [okW, h3] at this
        cases this
      rw [if_neg hno, if_neg hno]
      exact x.exit rfl trivial ⟨.inr rfl, rfl, ⟨rdSame, same_, same_, same_, same_, trivial⟩, rfl⟩
    · have h3 : ((decide ((w_ w 0).data.toList = wDepth) && !(numV (w.tail.getD i .empty)).2) || (!decide ((w_ w 0).data.toList = wDepth) && !nameB (w.tail.getD i .empty))) = false := h3
      refine x.back rfl ?_ ⟨⟨i + 1, by omega, fun j hj => ?_⟩, by show w.tail.length - (i + 1) < w.tail.length - i; omega, ⟨⟨rfl, rfl⟩, veq_d rfl, ⟨rfl, rfl⟩, veq_d rfl, rfl, (show VEq0 (vi ((i : Int) + 1)) (vi ((i + 1 : Nat) : Int)) by rw [Int.natCast_add]; rfl), trivial⟩, ⟨⟨rfl, trivial, rfl, rfl, rfl, rfl, trivial⟩, ⟨rfl, rfl, rfl, fun _ _ => rfl⟩, ⟨rfl, rfl, rfl, fun _ _ => rfl⟩, ⟨rfl, rfl, rfl, fun _ _ => rfl⟩, ⟨rfl, rfl, rfl, fun _ _ => rfl⟩, ⟨rfl, rfl, trivial⟩, trivial⟩, rfl⟩
      · simp only [AllP, inI64]; omega
      · by_cases e : j = i
        · rw [e, okW, h3]; rfl
        · exact hok j (by omega)
  · have h2 : i = w.tail.length := by have := of_decide_eq_false h2; omega
    have hall : allW w = true := by
      unfold allW
      rw [List.all_eq_true]
      intro s hs
      obtain ⟨k, hk, rfl⟩ := List.getElem_of_mem hs
      have := hok k (by omega)
      rwa [List.getD_eq_getElem?_getD, List.getElem?_eq_getElem hk] at this
    rw [if_pos ⟨h1, hall⟩, if_pos ⟨h1, hall⟩]
    refine x.plan [2, 3] [0, 1, 4] [5, 6] rfl trivial mixedP (by kernel_rfl) Ret.noPanic ?_
    refine x.qdone rfl ?_ ?_
    · simp only [AllP]; omega
    refine x.call [0, 1, 2, 3, 4] rfl trivial rfl (hdo ⟨h1, hall⟩) rfl ⟨⟨rfl, rfl⟩, dq_tail w, trivial⟩ ⟨rdSame, same_, same_, same_, same_, trivial⟩ ?_
    exact x.exit rfl trivial ⟨.inr rfl, rfl, ⟨rdSame, same_, same_, same_, same_, trivial⟩, rfl⟩
end Go.Proofs.YtgnnglfbpcjadaaGreatDoor

/- Policies: the program's own: a line is read: all first words; what is kept; the library's pieces. -/
namespace Go.Proofs.YtgnnglfbpcjadaaGreatDoor
open Go.Sx
set_option linter.unusedVariables false
set_option linter.unusedSimpArgs false
set_option maxRecDepth 100000

def pickR (r : Rdr) (w : List ByteArray) (n : Nat) (d : Rdr × Int) : Rdr × Int := if w.length = n + 1 ∧ allW w = true then d else (r, 8)
/-- A line's words. -/
def readR (r : Rdr) (w : List ByteArray) : Rdr × Int :=
  if (w_ w 0).data.toList = wLevel then pickR r w 1 (levelR r w.tail)
  else if (w_ w 0).data.toList = wFlow then pickR r w 2 (flowR r w.tail)
  else if (w_ w 0).data.toList = wInput then pickR r w 2 ({ r with ins := chanL r.lev r.ins w.tail }, chanE r.lev r.ins w.tail)
  else if (w_ w 0).data.toList = wOutput then pickR r w 2 ({ r with outs := chanL r.lev r.outs w.tail }, chanE r.lev r.outs w.tail)
  else if (w_ w 0).data.toList = wDepth then pickR r w 1 (depthR r w.tail)
  else (r, 8)
theorem kindsT_at (k : List UInt8) : tblAt (.inl k) kindsT =
    if k = wLevel then some (kdV 95 1) else if k = wFlow then some (kdV 96 2) else if k = wInput then some (kdV 97 2) else if k = wOutput then some (kdV 98 2) else if k = wDepth then some (kdV 99 1) else none := by
  unfold kindsT
  simp only [tblAt, keyEq, wLevel, wFlow, wInput, wOutput, wDepth]
  by_cases h1 : k = [108, 101, 118, 101, 108]
  · simp [h1]
  by_cases h2 : k = [102, 108, 111, 119]
  · simp [h2]
  by_cases h3 : k = [105, 110, 112, 117, 116]
  · simp [h3]
  by_cases h4 : k = [111, 117, 116, 112, 117, 116]
  · simp [h4]
  by_cases h5 : k = [100, 101, 112, 116, 104]
  · simp [h5]
  simp [h1, h2, h3, h4, h5]
theorem pick_of {r : Rdr} {w : List ByteArray} {n : Nat} {d : Rdr × Int} {f : Nat}
    (h : Proc PG f 1 [.ptr 0 0, vSs w] (rdH r) (vi (if (w.length : Int) = (n : Int) + 1 ∧ allW w = true then d.2 else 8)) (rdH (if (w.length : Int) = (n : Int) + 1 ∧ allW w = true then d.1 else r))) :
    Proc PG f 1 [.ptr 0 0, vSs w] (rdH r) (vi (pickR r w n d).2) (rdH (pickR r w n d).1) := by
  unfold pickR
  have e : ((w.length : Int) = (n : Int) + 1 ∧ allW w = true) ↔ (w.length = n + 1 ∧ allW w = true) := by
    constructor
    · rintro ⟨a, b⟩; exact ⟨by omega, b⟩
    · rintro ⟨a, b⟩; exact ⟨by omega, b⟩
  by_cases hc : w.length = n + 1 ∧ allW w = true
  · rw [if_pos (e.2 hc), if_pos (e.2 hc)] at h
    rw [if_pos hc]; exact h
  · rw [if_neg (fun x => hc (e.1 x)), if_neg (fun x => hc (e.1 x))] at h
    rw [if_neg hc]; exact h
theorem read_spec (r : Rdr) (hr : Small r) (w : List ByteArray) (hw : 1 ≤ w.length) (hwl : inI64 (w.length : Int)) (hsz : ∀ s ∈ w, s.size ≤ 9223372036854775807) : Proc PG 54 1 [.ptr 0 0, vSs w] (rdH r) (vi (readR r w).2) (rdH (readR r w).1) := by
  have htl : w.tail.length = w.length - 1 := List.length_tail
  have hk := kindsT_at (w_ w 0).data.toList
  unfold readR
  by_cases e1 : (w_ w 0).data.toList = wLevel
  · rw [if_pos e1] at hk ⊢
    exact pick_of (read_some r (levelR r w.tail).1 (levelR r w.tail).2 w hw hwl hsz _ _ (by omega) hk fun hc => rlevel_spec r w.tail hr (by omega))
  rw [if_neg e1] at hk ⊢
  by_cases e2 : (w_ w 0).data.toList = wFlow
  · rw [if_pos e2] at hk ⊢
    exact pick_of (read_some r (flowR r w.tail).1 (flowR r w.tail).2 w hw hwl hsz _ _ (by omega) hk fun hc => rflow_spec r w.tail hr (by omega))
  rw [if_neg e2] at hk ⊢
  by_cases e3 : (w_ w 0).data.toList = wInput
  · rw [if_pos e3] at hk ⊢
    exact pick_of (read_some r { r with ins := chanL r.lev r.ins w.tail } (chanE r.lev r.ins w.tail) w hw hwl hsz _ _ (by omega) hk fun hc => rinput_spec r w.tail hr (by omega))
  rw [if_neg e3] at hk ⊢
  by_cases e4 : (w_ w 0).data.toList = wOutput
  · rw [if_pos e4] at hk ⊢
    exact pick_of (read_some r { r with outs := chanL r.lev r.outs w.tail } (chanE r.lev r.outs w.tail) w hw hwl hsz _ _ (by omega) hk fun hc => routput_spec r w.tail hr (by omega))
  rw [if_neg e4] at hk ⊢
  by_cases e5 : (w_ w 0).data.toList = wDepth
  · rw [if_pos e5] at hk ⊢
    exact pick_of (read_some r (depthR r w.tail).1 (depthR r w.tail).2 w hw hwl hsz _ _ (by omega) hk fun hc => rdepth_spec r w.tail hr (by omega))
  rw [if_neg e5] at hk ⊢
  exact read_none r w hw hk

/-- What is kept: bounds, and that flows are between levels. -/
structure Kept (r : Rdr) (n : Nat) : Prop extends Small r where
  count : r.flows.length ≤ n
  flow : ∀ p ∈ r.flows, p.1 < r.lev.length ∧ p.2 < r.lev.length
theorem idxS_lt {l : List ByteArray} {s : ByteArray} (h : 0 ≤ idxS l s) : (idxS l s).toNat < l.length := by
  unfold idxS at *
  rcases idxF_range (p := fun i => decide ((l.getD i .empty).data.toList = s.data.toList)) (n := l.length) (i := 0) with e | e <;> omega
theorem kept_read {r : Rdr} {n : Nat} (h : Kept r n) (hn : n < 100000) (w : List ByteArray) : Kept (readR r w).1 (n + 1) := by
  obtain ⟨⟨h1, h2, h3, h4, h5⟩, h6, h7⟩ := h
  have same : Kept r (n + 1) := ⟨⟨h1, h2, h3, h4, h5⟩, by omega, h7⟩
  have pick : ∀ {k d}, Kept d.1 (n + 1) → Kept (pickR r w k d).1 (n + 1) := fun {k d} hd => by
    unfold pickR; split
    · exact hd
    · exact same
  have chan : ∀ l : List Chan, l.length ≤ 32 → (chanL r.lev l w.tail).length ≤ 32 := fun l hl => by
    unfold chanL
    split
    · rename_i h0
      unfold chanE at h0
      split at h0
      · omega
      · split at h0
        · omega
        · split at h0
          · omega
          · simp; omega
    · exact hl
  unfold readR
  split
  · refine pick ?_
    unfold levelR
    split
    · exact same
    · split
      · exact same
      · refine ⟨⟨by simp; omega, h2, h3, h4, h5⟩, Nat.le_succ_of_le h6, fun p hp => ?_⟩
        have := h7 p hp
        simp; omega
  split
  · refine pick ?_
    unfold flowR
    split
    · rename_i hc
      refine ⟨⟨h1, h2, h3, by simp; omega, h5⟩, by simp; omega, fun p hp => ?_⟩
      rcases List.mem_append.1 hp with hp | hp
      · exact h7 p hp
      · rw [List.mem_singleton.1 hp]
        exact ⟨idxS_lt hc.1, idxS_lt hc.2⟩
    · exact same
  split
  · exact pick ⟨⟨h1, chan _ h2, h3, h4, h5⟩, Nat.le_succ_of_le h6, h7⟩
  split
  · exact pick ⟨⟨h1, h2, chan _ h3, h4, h5⟩, Nat.le_succ_of_le h6, h7⟩
  split
  · refine pick ?_
    unfold depthR
    split
    · exact same
    · split
      · exact same
      · rename_i hd
        exact ⟨⟨h1, h2, h3, h4, by unfold inI64; show -9223372036854775808 ≤ (numV _).1 ∧ (numV _).1 ≤ _; omega⟩, Nat.le_succ_of_le h6, h7⟩
  · exact same

theorem blank_spec (c : Int) : Pure PG 53 [.d (.int .i32 c)] (vb (decide (c = 32) || decide (c = 9))) [] := by
  refine Proc.mk (cfg 9) tysOK [] Tryz.func53 rfl (by kernel_rfl) rfl rfl rfl ?_
  intro C x
  exact x.exit rfl trivial ⟨.inr rfl, rfl, trivial, rfl⟩

def nl : ByteArray := ⟨#[10]⟩
def linesL (s : ByteArray) : List ByteArray := Lib.splitB nl 0 (Lib.countB s nl) s
theorem maxLen_of {F : Nat → Prop} {w : World} (h : EnvOK PG.env F w) : ∃ m, w.cell? ⟨0, 0, none⟩ = some (.int .i64 m) :=
  (h 0 0 (fun _ => undef) (by unfold PG; simp)).2.2 rfl
theorem lines_len (s : ByteArray) : (linesL s).length = Lib.countB s nl + 1 := Lib.splitB_all nl (by decide) 0 _ s rfl
theorem split_spec (s : ByteArray) (hs : s.size < 4294967281) : Pure PG 51 [vs s, vs nl] (vSs (linesL s)) [] := by
  refine Pure.ofLibD (vals := [.string s, .string nl]) (callable_of Tryz.func51 (by kernel_rfl) (by kernel_rfl)) rfl rfl rfl fun w F hE => ?_
  obtain ⟨m, hm⟩ := maxLen_of hE
  refine (Tryz.strings_Split s nl m w hs hm (by decide)).mono ?_
  rintro e w' ⟨rfl, rfl⟩
  refine ⟨_, rfl, (Go.RowKit.Below.refl _ w).alloc (Nat.le_refl _) _, ?_⟩
  rw [← lines_len]
  have hnew : (w.alloc (.cells ((linesL s).map Value.string).toArray 9)).heap[w.heap.size]? = some (.cells ((linesL s).map Value.string).toArray 9) := World.alloc_heap_new w _
  refine .sl 1 _ _ w.heap.size 0 _ (fun i _ => .string ((linesL s).getD i .empty)) ⟨Nat.le_refl _, by simp⟩ (Nat.le_refl _) (fun i j hi hj => ?_) (fun _ _ => rfl) (fun i j d hi hd => ?_)
  · unfold World.cell?
    show (match (w.alloc (.cells ((linesL s).map Value.string).toArray 9)).heap[w.heap.size]? with | some (.cells c _ _) => _ | _ => _) = _
    rw [hnew]
    obtain rfl : j = 0 := by omega
    simp [List.getElem?_eq_getElem hi, List.getD_eq_getElem?_getD]
  · cases j with
    | zero => simp at hd; subst hd; exact .str _
    | succ j => simp at hd
theorem index_spec (s sub : ByteArray) (hs : s.size < 4294967281) : Pure PG 55 [vs s, vs sub] (vi (Lib.index s.data.toList sub.data.toList)) [] := by
  refine Pure.ofLib (vals := [.string s, .string sub]) (callable_of Tryz.func55 (by kernel_rfl) (by kernel_rfl)) rfl rfl rfl rfl fun w F hE => ?_
  obtain ⟨m, hm⟩ := maxLen_of hE
  refine (Tryz.strings_Index s sub m w hs hm).mono ?_
  rintro e w' ⟨rfl, rfl⟩
  exact ⟨rfl, Go.RowKit.Below.refl _ _⟩
end Go.Proofs.YtgnnglfbpcjadaaGreatDoor

/- Policies: the program's own: the words of a line. -/
namespace Go.Proofs.YtgnnglfbpcjadaaGreatDoor
open Go.Sx
set_option linter.unusedVariables false
set_option linter.unusedSimpArgs false
set_option maxRecDepth 100000

def ren229 : Go.Shelf.Ren := ⟨fun | 229 => 52 | n => n, fun | 0 => 0 | 3 => 3 | 4 => 4 | 9 => 9 | 21 => 21 | 31 => 22 | 40 => 99 | 152 => 116 | 154 => 118 | n => n, fun | n => n⟩
theorem lays229 : Go.Proofs.Lays.n229 Tryz.prog ren229 := {
  mixed := by kernel_rfl
  f229 := Tryz.func52.trans (congrArg some (by kernel_rfl))
  t0 := Tryz.underlying0
  a0 := Tryz.isAgg0
  z0 := Tryz.sizeOf0
  v0 := Tryz.zeroValue0
  t3 := Tryz.underlying3
  a3 := Tryz.isAgg3
  z3 := Tryz.sizeOf3
  v3 := Tryz.zeroValue3
  t4 := Tryz.underlying4
  a4 := Tryz.isAgg4
  z4 := Tryz.sizeOf4
  v4 := Tryz.zeroValue4
  t9 := Tryz.underlying9
  a9 := Tryz.isAgg9
  z9 := Tryz.sizeOf9
  v9 := Tryz.zeroValue9
  t21 := Tryz.underlying21
  a21 := Tryz.isAgg21
  z21 := Tryz.sizeOf21
  v21 := Tryz.zeroValue21
  t31 := Tryz.underlying22
  a31 := Tryz.isAgg22
  z31 := Tryz.sizeOf22
  v31 := Tryz.zeroValue22
  t40 := Tryz.underlying99
  a40 := Tryz.isAgg99
  z40 := Tryz.sizeOf99
  v40 := Tryz.zeroValue99
  t152 := Tryz.underlying116
  a152 := Tryz.isAgg116
  z152 := Tryz.sizeOf116
  v152 := Tryz.zeroValue116
  t154 := Tryz.underlying118
  a154 := Tryz.isAgg118
  z154 := Tryz.sizeOf118
  v154 := Tryz.zeroValue118 }

def blankP (c : Nat) : Bool := decide ((c : Int) = 32) || decide ((c : Int) = 9)
/-- A line's words. -/
def fieldsL (s : ByteArray) : List ByteArray := Lib.goFieldsP blankP s
/-- Own words for a function value that is handed to the library. -/
theorem blank_grows (w : World) (F : Nat → Prop) (hF : ∀ k, F k → k < w.heap.size) (hE : EnvOK PG.env F w) : PredGrows Tryz.prog 53 #[] blankP w := by
  intro W x _ hb
  obtain ⟨_, _, _, _, _, hc⟩ := blank_spec (x : Int)
  have hE' : EnvOK PG.env F W := hE.mono (fun _ h => h) fun k hk => hb.block k (hF k hk)
  refine (hc W F (fun _ => .bool true) [.int .i32 (x : Int)] (fun k hk => Nat.lt_of_lt_of_le (hF k hk) hb.size) hE' ⟨fun i c hc => by simp at hc, fun i j b hi => absurd hi (Nat.not_lt_zero _), fun i b hi => absurd hi (Nat.not_lt_zero _)⟩ ⟨RD.int _ _, trivial⟩).mono ?_
  intro e w' hp
  refine ⟨?_, hp.below⟩
  obtain ⟨v, ρ', F', rfl, _, _, _, _, _, hr, _⟩ := hp
  cases (show RD F' w' (.bool _) v from hr)
  rfl
theorem fields_spec (s : ByteArray) (hs : s.size ≤ 4294967296) : Pure PG 52 [vs s, .fn 53 []] (vSs (fieldsL s)) [] := by
  refine ⟨callable_of Tryz.func52 (by kernel_rfl) (by kernel_rfl), rfl, rfl, Nat.le_refl _, Nat.le_refl _, fun w F ρ ys hF hE hH hargs => ?_⟩
  match ys, hargs with
  | [y1, y2], ⟨h1, ⟨cs, h2, hcs⟩, _⟩ =>
    cases (show RD F w (.str s) y1 from h1)
    have hcs0 : cs = [] := by cases cs with
      | nil => rfl
      | cons _ _ => exact hcs.elim
    subst hcs0
    subst h2
    have hcall : Callable Tryz.prog 53 := callable_of Tryz.func53 (by kernel_rfl) (by kernel_rfl)
    refine (Any.strings_FieldsFunc_grows lays229 53 #[] (fun args w => callFunc_run hcall args w) blankP s w hs (blank_grows w F hF hE) (by kernel_rfl) (by kernel_rfl)).mono ?_
    rintro e w' ⟨A, rfl, hA, hown, hb⟩
    have hAlt : 0 < (fieldsL s).length → A < w'.heap.size := fun h0 => by
      rcases hown.2 with ⟨h, _⟩ | ⟨g, cap, cur, h3, _, h4, _⟩
      · simp at h
      · simp only [Value.slice.injEq, Option.some.injEq, Addr.mk.injEq] at h3
        obtain ⟨⟨rfl, _⟩, _⟩ := h3
        exact (Array.getElem?_eq_some_iff.1 h4).1
    have hown0 : w'.ownsRow 0 9 1 (.slice (some ⟨A, 0, none⟩) (fieldsL s).length (fieldsL s).length) (fieldsL s).length ((fieldsL s).map Value.string) := by
      refine ⟨hown.1, ?_⟩
      rcases hown.2 with h | ⟨g, cap, cur, h3, _, h4⟩
      · exact .inl h
      · exact .inr ⟨g, cap, cur, h3, Nat.zero_le _, h4⟩
    obtain ⟨b1, b2, b3, b4, b5⟩ := hb
    by_cases h0 : 0 < (fieldsL s).length
    · refine ⟨_, ρ, fun k => F k ∨ (w.heap.size ≤ k ∧ k < w'.heap.size), rfl, ⟨b1, b2, b3, b4, fun k hk _ => b5 k hk⟩, fun _ _ => rfl, fun _ hk => .inl hk, fun k hk => ?_, fun k hk => ?_, vec_data (ρ := ρ) (F := F) (fun _ => .inl) (fun b hb => ?_) hown0 (fun i hi => ⟨rfl, fun j d hd => ?_⟩), ⟨fun i c hi => by simp at hi, fun i j b hi => absurd hi (Nat.not_lt_zero _), fun i b hi => absurd hi (Nat.not_lt_zero _)⟩, fun i b hi => absurd hi (Nat.not_lt_zero _)⟩
      · rcases hk with hk | hk
        · exact Nat.lt_of_lt_of_le (hF k hk) b4
        · exact hk.2
      · rcases hk with hk | hk
        · exact .inl hk
        · exact .inr (.inl hk.1)
      · simp only [blk, Option.some.injEq] at hb
        subst hb
        exact .inr ⟨hA, hAlt h0⟩
      · cases j with
        | succ j => simp at hd
        | zero =>
          simp only [List.getElem?_cons_zero, Option.some.injEq] at hd
          subst hd
          refine ⟨.string ((fieldsL s).getD i .empty), ?_, .str _⟩
          simp [List.getElem?_eq_getElem hi, List.getD_eq_getElem?_getD]
    · have h1 : (fieldsL s).length = 0 := by omega
      refine ⟨_, ρ, F, rfl, ⟨b1, b2, b3, b4, fun k hk _ => b5 k hk⟩, fun _ _ => rfl, fun _ hk => hk, fun k hk => Nat.lt_of_lt_of_le (hF k hk) b4, fun _ hk => .inl hk, ?_, ⟨fun i c hi => by simp at hi, fun i j b hi => absurd hi (Nat.not_lt_zero _), fun i b hi => absurd hi (Nat.not_lt_zero _)⟩, fun i b hi => absurd hi (Nat.not_lt_zero _)⟩
      show RD F w' (.sl 1 (fieldsL s).length _) (.slice _ (fieldsL s).length (fieldsL s).length)
      rw [h1]
      exact .emp _ _ _ _
  | [], h => exact h.elim
  | [_], h => exact h.2.elim
  | _ :: _ :: _ :: _, h => exact h.2.2.elim
end Go.Proofs.YtgnnglfbpcjadaaGreatDoor
